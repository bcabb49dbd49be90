/- Part 10 of the proof of ConnectSpreads: an abstract machine over plain values, its soundness, and the functions of the program on plain values. -/
import Derived.Test.YtpafdnidhnldhaaMConnectSpreads9
namespace Go.Proofs.Ytpafdnidhnldhaa
section
set_option maxRecDepth 100000
set_option linter.unusedVariables false
set_option linter.unusedSimpArgs false
def z7:CC:=(.seq (.seq (.reg [oo 86 (.move (tq 15) false),
   oo 87 (.move (tq 13) false),
   oo 88 (.bin .lss (tq 86) (tq 87))])
 (.cond (tq 88)
 .skip
 (.seq (.mask (bl 18768 129) (bl 680564733841876926926749214863536390135 129))
 (.exit 0))))
 (.seq (.block 1 (.seq (.dreg [] [(oo 91 (.fieldAddr 32 (tq 8)),q0),
   (oo 92 (.load false 1 (tq 91) false),{ q1 with root:=some 8 }),
   (oo 93 (.move (tq 15) false),q0),
   (oo 94 (.indexAddrS 5 (tq 92) (tq 93)),q0),
   (oo 95 (.fieldAddr 1 (tq 94)),q0),
   (oo 96 (.fieldAddr 2 (tq 95)),q0),
   (oo 97 (.load false 1 (tq 96) false),q1),
   (oo 98 (.fieldAddr 32 (tq 8)),q0),
   (oo 99 (.load false 1 (tq 98) false),{ q1 with root:=some 8 }),
   (oo 100 (.move (tq 14) false),q0),
   (oo 101 (.indexAddrS 5 (tq 99) (tq 100)),q0),
   (oo 102 (.fieldAddr 1 (tq 101)),q0),
   (oo 103 (.fieldAddr 2 (tq 102)),q0),
   (oo 104 (.load false 1 (tq 103) false),q1),
   (oo 105 (.bin .lss (tq 97) (tq 104)),q0)])
 (.cond (tq 105)
 (.reg [oo 106 (.move (tq 15) false),
   oo 14 (.move (tq 106) false)])
 .skip)))
 (.reg [oo 89 (.move (tq 15) false),
   oo 90 (.bin .add (tq 89) (.const (.sc (.int .i64 1)))),
   oo 15 (.move (tq 90) false)])))
def zcH:CC:=(.seq (.seq (.dreg [] [(oo 107 (.fieldAddr 32 (tq 8)),q0),
   (oo 108 (.load false 1 (tq 107) false),{ q1 with root:=some 8 }),
   (oo 109 (.move (tq 14) false),q0),
   (oo 110 (.indexAddrS 5 (tq 108) (tq 109)),q0),
   (oo 111 (.fieldAddr 1 (tq 110)),q0),
   (oo 112 (.fieldAddr 2 (tq 111)),q0),
   (oo 113 (.load false 1 (tq 112) false),q1),
   (oo 114 (.fieldAddr 2 (tq 4)),q0),
   (oo 115 (.load false 1 (tq 114) false),{ q1 with root:=some 4 }),
   (oo 116 (.bin .geq (tq 113) (tq 115)),q0)])
 (.cond (tq 116)
 (.seq (.reg [oo 117 (.load true 34 (tq 8) true),
   oz (.store 34 (tq 6) (tq 117)),
   oo 7 (.move (.const (.sc (.bool false))) false)])
 .ret)
 .skip))
 (.reg [oo 118 (.fieldAddr 32 (tq 8)),
   oo 119 (.load false 1 (tq 118) false),
   oo 120 (.move (tq 14) false),
   oo 121 (.call 289 [((tq 119),0),((tq 120),0)] []),
   oo 122 (.fieldAddr 32 (tq 8)),
   oz (.store 1 (tq 122) (tq 121))]))
def zd4:CC:=(.seq (.reg [oo 123 (.fieldAddr 32 (tq 8)),
   oo 124 (.load false 1 (tq 123) false),
   oo 125 (.load true 5 (tq 11) false),
   oo 126 (.call 292 [((tq 124),0),((tq 125),0)] []),
   oo 127 (.fieldAddr 32 (tq 8)),
   oz (.store 1 (tq 127) (tq 126))])
 (.seq (.reg [oo 128 (.load true 34 (tq 8) true),
   oz (.store 34 (tq 6) (tq 128)),
   oo 7 (.move (.const (.sc (.bool true))) false)])
 .ret))
def zdc:CF:=⟨129,[.cellS 6 34 true,.tmpP 7],
 (.seq (.reg [oo 3 (.box true (tq 0)),
   oo 4 (.box true (tq 1)),
   oo 6 (.alloc false (rp 32 (.sc (.int .u8 0)) (rp 2 (.gs 5 []) []))),
   oo 7 (.move (.const (.sc (.bool false))) false)])
 (.seq (.reg [oo 16 (.load true 34 (tq 3) false),
   oo 17 (.call 288 [((tq 16),1)] [18,23]),
   oo 8 (.alloc false (rp 32 (.sc (.int .u8 0)) (rp 2 (.gs 5 []) []))),
   oz (.store 34 (tq 8) (tq 17))])
 (.seq (.seq (.reg [oo 18 (.fieldAddr 33 (tq 8)),
   oo 19 (.load false 1 (tq 18) false),
   oo 20 (.load true 3 (tq 4) false),
   oo 21 (.call 287 [((tq 19),2),((tq 20),2)] []),
   oo 9 (.move (tq 21) false)])
 (.seq (.reg [oo 22 (.move (tq 9) false),
   oo 23 (.bin .geq (tq 22) (.const (.sc (.int .i64 0))))])
 (.cond (tq 23)
 (.seq (.dreg [] [(oo 24 (.fieldAddr 33 (tq 8)),q0),
   (oo 25 (.load false 1 (tq 24) false),{ q1 with root:=some 8 }),
   (oo 26 (.move (tq 9) false),q0),
   (oo 27 (.fieldAddr 33 (tq 8)),q0),
   (oo 28 (.load false 1 (tq 27) false),{ q1 with root:=some 8 }),
   (oo 29 (.move (tq 9) false),q0),
   (oo 30 (.indexAddrS 5 (tq 28) (tq 29)),q0),
   (oo 31 (.fieldAddr 1 (tq 30)),q0),
   (oo 32 (.fieldAddr 2 (tq 31)),q0),
   (oo 33 (.load false 1 (tq 32) false),q1),
   (oo 34 (.fieldAddr 2 (tq 4)),q0),
   (oo 35 (.load false 1 (tq 34) false),{ q1 with root:=some 4 }),
   (oo 36 (.mm true (tq 33) (tq 35)),q0),
   (oo 37 (.indexAddrS 5 (tq 25) (tq 26)),q0),
   (oo 38 (.fieldAddr 1 (tq 37)),q0),
   (oo 39 (.fieldAddr 2 (tq 38)),q0),
   (oz (.store 1 (tq 39) (tq 36)),q0)])
 (.seq (.reg [oo 40 (.load true 34 (tq 8) true),
   oz (.store 34 (tq 6) (tq 40)),
   oo 7 (.move (.const (.sc (.bool false))) false)])
 .ret))
 .skip)))
 (.seq (.seq (.reg [oo 41 (.fieldAddr 32 (tq 8)),
   oo 42 (.load false 1 (tq 41) false),
   oo 43 (.load true 3 (tq 4) false),
   oo 44 (.call 287 [((tq 42),2),((tq 43),2)] []),
   oo 10 (.move (tq 44) false)])
 (.seq (.reg [oo 45 (.move (tq 10) false),
   oo 46 (.bin .geq (tq 45) (.const (.sc (.int .i64 0))))])
 (.cond (tq 46)
 (.seq (.dreg [] [(oo 47 (.fieldAddr 32 (tq 8)),q0),
   (oo 48 (.load false 1 (tq 47) false),{ q1 with root:=some 8 }),
   (oo 49 (.move (tq 10) false),q0),
   (oo 50 (.fieldAddr 32 (tq 8)),q0),
   (oo 51 (.load false 1 (tq 50) false),{ q1 with root:=some 8 }),
   (oo 52 (.move (tq 10) false),q0),
   (oo 53 (.indexAddrS 5 (tq 51) (tq 52)),q0),
   (oo 54 (.fieldAddr 1 (tq 53)),q0),
   (oo 55 (.fieldAddr 2 (tq 54)),q0),
   (oo 56 (.load false 1 (tq 55) false),q1),
   (oo 57 (.fieldAddr 2 (tq 4)),q0),
   (oo 58 (.load false 1 (tq 57) false),{ q1 with root:=some 4 }),
   (oo 59 (.mm true (tq 56) (tq 58)),q0),
   (oo 60 (.indexAddrS 5 (tq 48) (tq 49)),q0),
   (oo 61 (.fieldAddr 1 (tq 60)),q0),
   (oo 62 (.fieldAddr 2 (tq 61)),q0),
   (oz (.store 1 (tq 62) (tq 59)),q0)])
 (.seq (.reg [oo 63 (.load true 34 (tq 8) true),
   oz (.store 34 (tq 6) (tq 63)),
   oo 7 (.move (.const (.sc (.bool false))) false)])
 .ret))
 .skip)))
 (.seq (.dreg [] [(oo 64 (.fieldAddr 0 (tq 3)),q0),
   (oo 65 (.load true 32 (tq 64) false),ql 3 [4] [11]),
   (oo 66 (.load true 3 (tq 4) false),ql 4 [3] [11]),
   (oo 67 (.move (tq 2) false),q0),
   (oo 68 (.call 305 [((tq 65),0),((tq 66),0),((tq 67),0)] []),qc [4] [11]),
   (oo 69 (.load true 3 (tq 4) false),ql 4 [3] [11]),
   (oo 70 (.move (tq 2) false),q0),
   (oo 71 (.build [(.sc (.int .i64 0)),(.sc (.int .u32 0)),(.sc (.int .u16 0)),(.sc (.int .u32 0)),(.sc (.int .u32 0))] [(0,1,(tq 68)),(1,3,(tq 69)),(4,1,(tq 70))]),q0),
   (oo 11 (.alloc true [(.sc (.int .i64 0)),(.sc (.int .u32 0)),(.sc (.int .u16 0)),(.sc (.int .u32 0)),(.sc (.int .u32 0))]),qn [3,4] []),
   (oz (.store 5 (tq 11) (tq 71)),q0)])
 (.seq (.reg [oo 73 (.fieldAddr 32 (tq 8)),
   oo 74 (.load false 1 (tq 73) false),
   oo 75 (.fieldAddr 0 (tq 11)),
   oo 76 (.load false 1 (tq 75) false),
   oo 77 (.call 291 [((tq 74),0),((tq 76),0)] []),
   oo 72 (.move (tq 77) true),
   oo 78 (.pull (tq 72) 0),
   oo 79 (.pull (tq 72) 1),
   oo 12 (.move (tq 78) false),
   oo 13 (.move (tq 79) false)])
 (.seq (.seq (.reg [oo 80 (.move (tq 13) false),
   oo 81 (.move (tq 12) false),
   oo 82 (.bin .sub (tq 80) (tq 81)),
   oo 83 (.bin .geq (tq 82) (.const (.sc (.int .i64 8))))])
 (.cond (tq 83)
 (.seq (.reg [oo 84 (.move (tq 12) false),
   oo 14 (.move (tq 84) false)])
 (.seq (.seq (.reg [oo 85 (.move (tq 12) false),
   oo 15 (.move (tq 85) false)])
 (.block 0 (.loop (bl 59728 129) (bl 680564733841876926926749214863536422903 129)
 z7)))
 zcH))
 .skip))
 zd4)))))))⟩
def zs0:Hint:=⟨[(0,0),(2,3),(5,0),(6,3),(9,0),(11,5),(20,0),(23,0)],[],[none,none,none,none,none,none,some ((bl 59728 129),(bl 680564733841876926926749214863536422903 129)),none,some ((bl 18768 129),(bl 680564733841876926926749214863536390135 129)),none,none,none,none,none],[],[(1,1,[18,23])],true,true⟩
def yW:Nat→Sh:=xP [(33,(.int .u32)),(35,(.int .u32)),(56,(.int .u32)),(58,(.int .u32)),(76,(.int .i64)),(97,(.int .u32)),(104,(.int .u32)),(113,(.int .u32)),(115,(.int .u32))]
def zW (yg:zR) (xh:zZ) (zb:xu) (zf:yL) (xe:yR) (yf:xQ) (L:Nat):CBC:=(zx 289 (zhD yf L) (zx 292 (zhI xe L) (zx 291 (zfx zf L) (zx 305 (zd8 zb L) (zx 287 (zkR xh L) (zx 288 (zhB yg L) noC))))))
def zav:St→St:=zaj 0 (bl 59728 129) (bl 680564733841876926926749214863536422903 129)
def zcF (p13 p14 p15:Int) (b4:List V) (zL1 zL2 zL3 zL4 zL5 zL6 zL7 zL8 zL9 zMa zLt zLu zLv zLw zLx zLy zLz zLA zLB zLC zLD zLE zLF zLG zLH zLI zLJ zLK zLL zLM zLN zLO:Int) (zLP zLQ:List (List V)) (zK1 zK2 zK3 zK4 zLV zLW zLX zLY zLZ zL0 zK7 zK8 zK9 zLa zLb zLc zLd zLe zLf zLg zLh zLi zLj zLk zLl zLm zLn zLo zLp zLq zLr zLs:Int) (zK5 zK6:Nat) (b11 b18 b23:List V):St:=⟨(jn 4 ((V.ptr 4 0)::(jn 1 ((V.ptr 6 0)::(jn 1 ((V.ptr 8 0)::(jn 2 ((V.ptr 11 0)::(jn 1 ((V.sc (.int .i64 p13))::((V.sc (.int .i64 p14))::((V.sc (.int .i64 p15))::(jn 113 []))))))))))))),(gn 4 ((.live true b4)::(gn 1 ((.live false [(V.sc (.int .u8 zL1)),(V.sc (.int .u8 zL2)),(V.sc (.int .u8 zL3)),(V.sc (.int .u8 zL4)),(V.sc (.int .u8 zL5)),(V.sc (.int .u8 zL6)),(V.sc (.int .u8 zL7)),(V.sc (.int .u8 zL8)),(V.sc (.int .u8 zL9)),(V.sc (.int .u8 zMa)),(V.sc (.int .u8 zLt)),(V.sc (.int .u8 zLu)),(V.sc (.int .u8 zLv)),(V.sc (.int .u8 zLw)),(V.sc (.int .u8 zLx)),(V.sc (.int .u8 zLy)),(V.sc (.int .u8 zLz)),(V.sc (.int .u8 zLA)),(V.sc (.int .u8 zLB)),(V.sc (.int .u8 zLC)),(V.sc (.int .u8 zLD)),(V.sc (.int .u8 zLE)),(V.sc (.int .u8 zLF)),(V.sc (.int .u8 zLG)),(V.sc (.int .u8 zLH)),(V.sc (.int .u8 zLI)),(V.sc (.int .u8 zLJ)),(V.sc (.int .u8 zLK)),(V.sc (.int .u8 zLL)),(V.sc (.int .u8 zLM)),(V.sc (.int .u8 zLN)),(V.sc (.int .u8 zLO)),(V.gs 5 zLP),(V.gs 5 zLQ)])::(gn 1 ((.live false [(V.sc (.int .u8 zK1)),(V.sc (.int .u8 zK2)),(V.sc (.int .u8 zK3)),(V.sc (.int .u8 zK4)),(V.sc (.int .u8 zLV)),(V.sc (.int .u8 zLW)),(V.sc (.int .u8 zLX)),(V.sc (.int .u8 zLY)),(V.sc (.int .u8 zLZ)),(V.sc (.int .u8 zL0)),(V.sc (.int .u8 zK7)),(V.sc (.int .u8 zK8)),(V.sc (.int .u8 zK9)),(V.sc (.int .u8 zLa)),(V.sc (.int .u8 zLb)),(V.sc (.int .u8 zLc)),(V.sc (.int .u8 zLd)),(V.sc (.int .u8 zLe)),(V.sc (.int .u8 zLf)),(V.sc (.int .u8 zLg)),(V.sc (.int .u8 zLh)),(V.sc (.int .u8 zLi)),(V.sc (.int .u8 zLj)),(V.sc (.int .u8 zLk)),(V.sc (.int .u8 zLl)),(V.sc (.int .u8 zLm)),(V.sc (.int .u8 zLn)),(V.sc (.int .u8 zLo)),(V.sc (.int .u8 zLp)),(V.sc (.int .u8 zLq)),(V.sc (.int .u8 zLr)),(V.sc (.int .u8 zLs)),(V.own 18 0 zK5 5),(V.own 23 0 zK6 5)])::(gn 2 ((.live true b11)::(gn 6 ((.live true b18)::(gn 4 ((.live true b23)::(gn 105 [])))))))))))))⟩
def zcm (p13 p14 p15:Int) (b4:List V) (zL1 zL2 zL3 zL4 zL5 zL6 zL7 zL8 zL9 zMa zLt zLu zLv zLw zLx zLy zLz zLA zLB zLC zLD zLE zLF zLG zLH zLI zLJ zLK zLL zLM zLN zLO:Int) (zLP zLQ:List (List V)) (zK1 zK2 zK3 zK4 zLV zLW zLX zLY zLZ zL0 zK7 zK8 zK9 zLa zLb zLc zLd zLe zLf zLg zLh zLi zLj zLk zLl zLm zLn zLo zLp zLq zLr zLs:Int) (zK5 zK6:Nat) (b11 b18 b23:List V):St:=⟨(jn 4 ((V.ptr 4 0)::(jn 1 ((V.ptr 6 0)::(jn 1 ((V.ptr 8 0)::(jn 2 ((V.ptr 11 0)::(jn 1 ((V.sc (.int .i64 p13))::((V.sc (.int .i64 p14))::((V.sc (.int .i64 p15))::(jn 113 []))))))))))))),(gn 4 ((.live true b4)::(gn 1 ((.live false [(V.sc (.int .u8 zL1)),(V.sc (.int .u8 zL2)),(V.sc (.int .u8 zL3)),(V.sc (.int .u8 zL4)),(V.sc (.int .u8 zL5)),(V.sc (.int .u8 zL6)),(V.sc (.int .u8 zL7)),(V.sc (.int .u8 zL8)),(V.sc (.int .u8 zL9)),(V.sc (.int .u8 zMa)),(V.sc (.int .u8 zLt)),(V.sc (.int .u8 zLu)),(V.sc (.int .u8 zLv)),(V.sc (.int .u8 zLw)),(V.sc (.int .u8 zLx)),(V.sc (.int .u8 zLy)),(V.sc (.int .u8 zLz)),(V.sc (.int .u8 zLA)),(V.sc (.int .u8 zLB)),(V.sc (.int .u8 zLC)),(V.sc (.int .u8 zLD)),(V.sc (.int .u8 zLE)),(V.sc (.int .u8 zLF)),(V.sc (.int .u8 zLG)),(V.sc (.int .u8 zLH)),(V.sc (.int .u8 zLI)),(V.sc (.int .u8 zLJ)),(V.sc (.int .u8 zLK)),(V.sc (.int .u8 zLL)),(V.sc (.int .u8 zLM)),(V.sc (.int .u8 zLN)),(V.sc (.int .u8 zLO)),(V.gs 5 zLP),(V.gs 5 zLQ)])::(gn 1 ((.live false [(V.sc (.int .u8 zK1)),(V.sc (.int .u8 zK2)),(V.sc (.int .u8 zK3)),(V.sc (.int .u8 zK4)),(V.sc (.int .u8 zLV)),(V.sc (.int .u8 zLW)),(V.sc (.int .u8 zLX)),(V.sc (.int .u8 zLY)),(V.sc (.int .u8 zLZ)),(V.sc (.int .u8 zL0)),(V.sc (.int .u8 zK7)),(V.sc (.int .u8 zK8)),(V.sc (.int .u8 zK9)),(V.sc (.int .u8 zLa)),(V.sc (.int .u8 zLb)),(V.sc (.int .u8 zLc)),(V.sc (.int .u8 zLd)),(V.sc (.int .u8 zLe)),(V.sc (.int .u8 zLf)),(V.sc (.int .u8 zLg)),(V.sc (.int .u8 zLh)),(V.sc (.int .u8 zLi)),(V.sc (.int .u8 zLj)),(V.sc (.int .u8 zLk)),(V.sc (.int .u8 zLl)),(V.sc (.int .u8 zLm)),(V.sc (.int .u8 zLn)),(V.sc (.int .u8 zLo)),(V.sc (.int .u8 zLp)),(V.sc (.int .u8 zLq)),(V.sc (.int .u8 zLr)),(V.sc (.int .u8 zLs)),(V.own 18 0 zK5 5),(V.own 23 0 zK6 5)])::(gn 2 ((.live true b11)::(gn 6 ((.fz b18)::(gn 4 ((.live true b23)::(gn 105 [])))))))))))))⟩
def zl6 (p14:Int) (b4:List V) (zL1 zL2 zL3 zL4 zL5 zL6 zL7 zL8 zL9 zMa zLt zLu zLv zLw zLx zLy zLz zLA zLB zLC zLD zLE zLF zLG zLH zLI zLJ zLK zLL zLM zLN zLO:Int) (zLP zLQ:List (List V)) (zK1 zK2 zK3 zK4 zLV zLW zLX zLY zLZ zL0 zK7 zK8 zK9 zLa zLb zLc zLd zLe zLf zLg zLh zLi zLj zLk zLl zLm zLn zLo zLp zLq zLr zLs:Int) (zK5 zK6:Nat) (b11 b18 b23:List V):St:=⟨(jn 4 ((V.ptr 4 0)::(jn 1 ((V.ptr 6 0)::(jn 1 ((V.ptr 8 0)::(jn 2 ((V.ptr 11 0)::(jn 2 ((V.sc (.int .i64 p14))::(jn 114 []))))))))))),(gn 4 ((.live true b4)::(gn 1 ((.live false [(V.sc (.int .u8 zL1)),(V.sc (.int .u8 zL2)),(V.sc (.int .u8 zL3)),(V.sc (.int .u8 zL4)),(V.sc (.int .u8 zL5)),(V.sc (.int .u8 zL6)),(V.sc (.int .u8 zL7)),(V.sc (.int .u8 zL8)),(V.sc (.int .u8 zL9)),(V.sc (.int .u8 zMa)),(V.sc (.int .u8 zLt)),(V.sc (.int .u8 zLu)),(V.sc (.int .u8 zLv)),(V.sc (.int .u8 zLw)),(V.sc (.int .u8 zLx)),(V.sc (.int .u8 zLy)),(V.sc (.int .u8 zLz)),(V.sc (.int .u8 zLA)),(V.sc (.int .u8 zLB)),(V.sc (.int .u8 zLC)),(V.sc (.int .u8 zLD)),(V.sc (.int .u8 zLE)),(V.sc (.int .u8 zLF)),(V.sc (.int .u8 zLG)),(V.sc (.int .u8 zLH)),(V.sc (.int .u8 zLI)),(V.sc (.int .u8 zLJ)),(V.sc (.int .u8 zLK)),(V.sc (.int .u8 zLL)),(V.sc (.int .u8 zLM)),(V.sc (.int .u8 zLN)),(V.sc (.int .u8 zLO)),(V.gs 5 zLP),(V.gs 5 zLQ)])::(gn 1 ((.live false [(V.sc (.int .u8 zK1)),(V.sc (.int .u8 zK2)),(V.sc (.int .u8 zK3)),(V.sc (.int .u8 zK4)),(V.sc (.int .u8 zLV)),(V.sc (.int .u8 zLW)),(V.sc (.int .u8 zLX)),(V.sc (.int .u8 zLY)),(V.sc (.int .u8 zLZ)),(V.sc (.int .u8 zL0)),(V.sc (.int .u8 zK7)),(V.sc (.int .u8 zK8)),(V.sc (.int .u8 zK9)),(V.sc (.int .u8 zLa)),(V.sc (.int .u8 zLb)),(V.sc (.int .u8 zLc)),(V.sc (.int .u8 zLd)),(V.sc (.int .u8 zLe)),(V.sc (.int .u8 zLf)),(V.sc (.int .u8 zLg)),(V.sc (.int .u8 zLh)),(V.sc (.int .u8 zLi)),(V.sc (.int .u8 zLj)),(V.sc (.int .u8 zLk)),(V.sc (.int .u8 zLl)),(V.sc (.int .u8 zLm)),(V.sc (.int .u8 zLn)),(V.sc (.int .u8 zLo)),(V.sc (.int .u8 zLp)),(V.sc (.int .u8 zLq)),(V.sc (.int .u8 zLr)),(V.sc (.int .u8 zLs)),(V.own 18 0 zK5 5),(V.own 23 0 zK6 5)])::(gn 2 ((.live true b11)::(gn 6 ((.live true b18)::(gn 4 ((.live true b23)::(gn 105 [])))))))))))))⟩
def zjZ (p14:Int) (b4:List V) (zL1 zL2 zL3 zL4 zL5 zL6 zL7 zL8 zL9 zMa zLt zLu zLv zLw zLx zLy zLz zLA zLB zLC zLD zLE zLF zLG zLH zLI zLJ zLK zLL zLM zLN zLO:Int) (zLP zLQ:List (List V)) (zK1 zK2 zK3 zK4 zLV zLW zLX zLY zLZ zL0 zK7 zK8 zK9 zLa zLb zLc zLd zLe zLf zLg zLh zLi zLj zLk zLl zLm zLn zLo zLp zLq zLr zLs:Int) (zK5 zK6:Nat) (b11 b18 b23:List V):St:=⟨(jn 4 ((V.ptr 4 0)::(jn 1 ((V.ptr 6 0)::(jn 1 ((V.ptr 8 0)::(jn 2 ((V.ptr 11 0)::(jn 2 ((V.sc (.int .i64 p14))::(jn 114 []))))))))))),(gn 4 ((.live true b4)::(gn 1 ((.live false [(V.sc (.int .u8 zL1)),(V.sc (.int .u8 zL2)),(V.sc (.int .u8 zL3)),(V.sc (.int .u8 zL4)),(V.sc (.int .u8 zL5)),(V.sc (.int .u8 zL6)),(V.sc (.int .u8 zL7)),(V.sc (.int .u8 zL8)),(V.sc (.int .u8 zL9)),(V.sc (.int .u8 zMa)),(V.sc (.int .u8 zLt)),(V.sc (.int .u8 zLu)),(V.sc (.int .u8 zLv)),(V.sc (.int .u8 zLw)),(V.sc (.int .u8 zLx)),(V.sc (.int .u8 zLy)),(V.sc (.int .u8 zLz)),(V.sc (.int .u8 zLA)),(V.sc (.int .u8 zLB)),(V.sc (.int .u8 zLC)),(V.sc (.int .u8 zLD)),(V.sc (.int .u8 zLE)),(V.sc (.int .u8 zLF)),(V.sc (.int .u8 zLG)),(V.sc (.int .u8 zLH)),(V.sc (.int .u8 zLI)),(V.sc (.int .u8 zLJ)),(V.sc (.int .u8 zLK)),(V.sc (.int .u8 zLL)),(V.sc (.int .u8 zLM)),(V.sc (.int .u8 zLN)),(V.sc (.int .u8 zLO)),(V.gs 5 zLP),(V.gs 5 zLQ)])::(gn 1 ((.live false [(V.sc (.int .u8 zK1)),(V.sc (.int .u8 zK2)),(V.sc (.int .u8 zK3)),(V.sc (.int .u8 zK4)),(V.sc (.int .u8 zLV)),(V.sc (.int .u8 zLW)),(V.sc (.int .u8 zLX)),(V.sc (.int .u8 zLY)),(V.sc (.int .u8 zLZ)),(V.sc (.int .u8 zL0)),(V.sc (.int .u8 zK7)),(V.sc (.int .u8 zK8)),(V.sc (.int .u8 zK9)),(V.sc (.int .u8 zLa)),(V.sc (.int .u8 zLb)),(V.sc (.int .u8 zLc)),(V.sc (.int .u8 zLd)),(V.sc (.int .u8 zLe)),(V.sc (.int .u8 zLf)),(V.sc (.int .u8 zLg)),(V.sc (.int .u8 zLh)),(V.sc (.int .u8 zLi)),(V.sc (.int .u8 zLj)),(V.sc (.int .u8 zLk)),(V.sc (.int .u8 zLl)),(V.sc (.int .u8 zLm)),(V.sc (.int .u8 zLn)),(V.sc (.int .u8 zLo)),(V.sc (.int .u8 zLp)),(V.sc (.int .u8 zLq)),(V.sc (.int .u8 zLr)),(V.sc (.int .u8 zLs)),(V.own 18 0 zK5 5),(V.own 23 0 zK6 5)])::(gn 2 ((.live true b11)::(gn 6 ((.fz b18)::(gn 4 ((.live true b23)::(gn 105 [])))))))))))))⟩
abbrev ziF (β:Type):Type:=Int→Int→Int→List V→Int→Int→Int→Int→Int→Int→Int→Int→Int→Int→Int→Int→Int→Int→Int→Int→Int→Int→Int→Int→Int→Int→Int→Int→Int→Int→Int→Int→Int→Int→Int→Int→List (List V)→List (List V)→Int→Int→Int→Int→Int→Int→Int→Int→Int→Int→Int→Int→Int→Int→Int→Int→Int→Int→Int→Int→Int→Int→Int→Int→Int→Int→Int→Int→Int→Int→Int→Int→Nat→Nat→List V→List V→List V→Option β
abbrev zhL (β:Type):Type:=Int→Int→Int→List V→Int→Int→Int→Int→Int→Int→Int→Int→Int→Int→Int→Int→Int→Int→Int→Int→Int→Int→Int→Int→Int→Int→Int→Int→Int→Int→Int→Int→Int→Int→Int→Int→List (List V)→List (List V)→Int→Int→Int→Int→Int→Int→Int→Int→Int→Int→Int→Int→Int→Int→Int→Int→Int→Int→Int→Int→Int→Int→Int→Int→Int→Int→Int→Int→Int→Int→Int→Int→Nat→Nat→List V→List V→List V→Option β
abbrev zuv (β:Type):Type:=Int→List V→Int→Int→Int→Int→Int→Int→Int→Int→Int→Int→Int→Int→Int→Int→Int→Int→Int→Int→Int→Int→Int→Int→Int→Int→Int→Int→Int→Int→Int→Int→Int→Int→List (List V)→List (List V)→Int→Int→Int→Int→Int→Int→Int→Int→Int→Int→Int→Int→Int→Int→Int→Int→Int→Int→Int→Int→Int→Int→Int→Int→Int→Int→Int→Int→Int→Int→Int→Int→Nat→Nat→List V→List V→List V→Option β
abbrev zmq (β:Type):Type:=Int→List V→Int→Int→Int→Int→Int→Int→Int→Int→Int→Int→Int→Int→Int→Int→Int→Int→Int→Int→Int→Int→Int→Int→Int→Int→Int→Int→Int→Int→Int→Int→Int→Int→List (List V)→List (List V)→Int→Int→Int→Int→Int→Int→Int→Int→Int→Int→Int→Int→Int→Int→Int→Int→Int→Int→Int→Int→Int→Int→Int→Int→Int→Int→Int→Int→Int→Int→Int→Int→Nat→Nat→List V→List V→List V→Option β
def zrP {β:Type} (yg:zR) (xh:zZ) (zb:xu) (zf:yL) (xe:yR) (yf:xQ) (L:Nat) (p0 p1:List V) (p2:Int) (k_fin:List V→Bool→Option β) (k_hbbbbbbabababa:ziF β) (k_hbbbbbbabababav1:zhL β):Option β :=
 chk (0+34≤(List.length p0)) (
 yg β L (List.map V.dem (List.take 34 p0)) (fun v0 v1 v2 v3 v4 v5 v6 v7 v8 v9 v10 v11 v12 v13 v14 v15 v16 v17 v18 v19 v20 v21 v22 v23 v24 v25 v26 v27 v28 v29 v30 v31 v32 v33 v34 v35 =>
 chk (0+3≤(List.length p1)) (
 xh β L v33 (List.take 3 p1) v35 (fun v36 v37 =>
 chk ([(List.length v37)]=[(List.length v35)]) (
 ifb (decide (v36 ≥ (0:Int))) (
 chk (0≤v36∧v36 < ((v33:Nat):Int)) (
 cI .u32 v37 (((0+((Int.toNat v36) * 5))+1)+2) fun v38 =>
 cI .u32 p1 2 fun v39 =>
 lt (zF7 v38 v39) fun x40 =>
 chk (0≤v36∧v36 < ((v33:Nat):Int)) (
 chk (1=1∧(((0+((Int.toNat v36) * 5))+1)+2)+1≤(List.length v37)) (
 lt (zh v37 (((0+((Int.toNat v36) * 5))+1)+2) [(V.sc (.int .u32 x40))]) fun r41 =>
 k_fin [(V.sc (.int .u8 v0)),(V.sc (.int .u8 v1)),(V.sc (.int .u8 v2)),(V.sc (.int .u8 v3)),(V.sc (.int .u8 v4)),(V.sc (.int .u8 v5)),(V.sc (.int .u8 v6)),(V.sc (.int .u8 v7)),(V.sc (.int .u8 v8)),(V.sc (.int .u8 v9)),(V.sc (.int .u8 v10)),(V.sc (.int .u8 v11)),(V.sc (.int .u8 v12)),(V.sc (.int .u8 v13)),(V.sc (.int .u8 v14)),(V.sc (.int .u8 v15)),(V.sc (.int .u8 v16)),(V.sc (.int .u8 v17)),(V.sc (.int .u8 v18)),(V.sc (.int .u8 v19)),(V.sc (.int .u8 v20)),(V.sc (.int .u8 v21)),(V.sc (.int .u8 v22)),(V.sc (.int .u8 v23)),(V.sc (.int .u8 v24)),(V.sc (.int .u8 v25)),(V.sc (.int .u8 v26)),(V.sc (.int .u8 v27)),(V.sc (.int .u8 v28)),(V.sc (.int .u8 v29)),(V.sc (.int .u8 v30)),(V.sc (.int .u8 v31)),(V.sl 5 (zl 5 v32 v34)),(V.sl 5 (zl 5 v33 r41))] false)))) (
 chk (0+3≤(List.length p1)) (
 xh β L v32 (List.take 3 p1) v34 (fun v42 v43 =>
 chk ([(List.length v43)]=[(List.length v34)]) (
 ifb (decide (v42 ≥ (0:Int))) (
 chk (0≤v42∧v42 < ((v32:Nat):Int)) (
 cI .u32 v43 (((0+((Int.toNat v42) * 5))+1)+2) fun v44 =>
 cI .u32 p1 2 fun v45 =>
 lt (zF7 v44 v45) fun x46 =>
 chk (0≤v42∧v42 < ((v32:Nat):Int)) (
 chk (1=1∧(((0+((Int.toNat v42) * 5))+1)+2)+1≤(List.length v43)) (
 lt (zh v43 (((0+((Int.toNat v42) * 5))+1)+2) [(V.sc (.int .u32 x46))]) fun r47 =>
 k_fin [(V.sc (.int .u8 v0)),(V.sc (.int .u8 v1)),(V.sc (.int .u8 v2)),(V.sc (.int .u8 v3)),(V.sc (.int .u8 v4)),(V.sc (.int .u8 v5)),(V.sc (.int .u8 v6)),(V.sc (.int .u8 v7)),(V.sc (.int .u8 v8)),(V.sc (.int .u8 v9)),(V.sc (.int .u8 v10)),(V.sc (.int .u8 v11)),(V.sc (.int .u8 v12)),(V.sc (.int .u8 v13)),(V.sc (.int .u8 v14)),(V.sc (.int .u8 v15)),(V.sc (.int .u8 v16)),(V.sc (.int .u8 v17)),(V.sc (.int .u8 v18)),(V.sc (.int .u8 v19)),(V.sc (.int .u8 v20)),(V.sc (.int .u8 v21)),(V.sc (.int .u8 v22)),(V.sc (.int .u8 v23)),(V.sc (.int .u8 v24)),(V.sc (.int .u8 v25)),(V.sc (.int .u8 v26)),(V.sc (.int .u8 v27)),(V.sc (.int .u8 v28)),(V.sc (.int .u8 v29)),(V.sc (.int .u8 v30)),(V.sc (.int .u8 v31)),(V.sl 5 (zl 5 v32 r47)),(V.sl 5 (zl 5 v33 v37))] false)))) (
 chk (0+32≤(List.length p0)) (
 chk (0+3≤(List.length p1)) (
 zb β L (List.take 32 p0) (List.take 3 p1) p2 (fun v48 =>
 chk (0+3≤(List.length p1)) (
 chk ((List.length (List.take 3 p1))=3∧1+3≤5) (
 chk (1=1∧4+1≤(List.length (zh [(V.sc (.int .i64 v48)),(V.sc (.int .u32 (0:Int))),(V.sc (.int .u16 (0:Int))),(V.sc (.int .u32 (0:Int))),(V.sc (.int .u32 (0:Int)))] 1 (List.take 3 p1)))) (
 chk ((List.length (zh (zh [(V.sc (.int .i64 v48)),(V.sc (.int .u32 (0:Int))),(V.sc (.int .u16 (0:Int))),(V.sc (.int .u32 (0:Int))),(V.sc (.int .u32 (0:Int)))] 1 (List.take 3 p1)) 4 [(V.sc (.int .u32 p2))]))=5∧0+5≤5) (
 lt (zh [(V.sc (.int .i64 (0:Int))),(V.sc (.int .u32 (0:Int))),(V.sc (.int .u16 (0:Int))),(V.sc (.int .u32 (0:Int))),(V.sc (.int .u32 (0:Int)))] 0 (zh (zh [(V.sc (.int .i64 v48)),(V.sc (.int .u32 (0:Int))),(V.sc (.int .u16 (0:Int))),(V.sc (.int .u32 (0:Int))),(V.sc (.int .u32 (0:Int)))] 1 (List.take 3 p1)) 4 [(V.sc (.int .u32 p2))])) fun r49 =>
 cI .i64 r49 0 fun v50 =>
 ifb (List.isEmpty v43) (
 zf β L (zl 5 v32 v43) v50 (fun v51 v52 =>
 lt (IntKind.wrap .i64 ((v52:Int) - v51)) fun x53 =>
 ifb (decide (x53 ≥ (8:Int))) (
 k_hbbbbbbabababa v52 v51 v51 p1 (0:Int) (0:Int) (0:Int) (0:Int) (0:Int) (0:Int) (0:Int) (0:Int) (0:Int) (0:Int) (0:Int) (0:Int) (0:Int) (0:Int) (0:Int) (0:Int) (0:Int) (0:Int) (0:Int) (0:Int) (0:Int) (0:Int) (0:Int) (0:Int) (0:Int) (0:Int) (0:Int) (0:Int) (0:Int) (0:Int) (0:Int) (0:Int) ([]:List (List V)) ([]:List (List V)) v0 v1 v2 v3 v4 v5 v6 v7 v8 v9 v10 v11 v12 v13 v14 v15 v16 v17 v18 v19 v20 v21 v22 v23 v24 v25 v26 v27 v28 v29 v30 v31 v32 v33 r49 v43 v37) (
 chk (0+5≤(List.length r49)) (
 ifb (List.isEmpty v43) (
 xe β L (zl 5 v32 v43) (List.take 5 r49) (fun v54 =>
 k_fin [(V.sc (.int .u8 v0)),(V.sc (.int .u8 v1)),(V.sc (.int .u8 v2)),(V.sc (.int .u8 v3)),(V.sc (.int .u8 v4)),(V.sc (.int .u8 v5)),(V.sc (.int .u8 v6)),(V.sc (.int .u8 v7)),(V.sc (.int .u8 v8)),(V.sc (.int .u8 v9)),(V.sc (.int .u8 v10)),(V.sc (.int .u8 v11)),(V.sc (.int .u8 v12)),(V.sc (.int .u8 v13)),(V.sc (.int .u8 v14)),(V.sc (.int .u8 v15)),(V.sc (.int .u8 v16)),(V.sc (.int .u8 v17)),(V.sc (.int .u8 v18)),(V.sc (.int .u8 v19)),(V.sc (.int .u8 v20)),(V.sc (.int .u8 v21)),(V.sc (.int .u8 v22)),(V.sc (.int .u8 v23)),(V.sc (.int .u8 v24)),(V.sc (.int .u8 v25)),(V.sc (.int .u8 v26)),(V.sc (.int .u8 v27)),(V.sc (.int .u8 v28)),(V.sc (.int .u8 v29)),(V.sc (.int .u8 v30)),(V.sc (.int .u8 v31)),(V.sl 5 v54),(V.sl 5 (zl 5 v33 v37))] true)) (
 xe β L (zl 5 v32 v43) (List.take 5 r49) (fun v55 =>
 k_fin [(V.sc (.int .u8 v0)),(V.sc (.int .u8 v1)),(V.sc (.int .u8 v2)),(V.sc (.int .u8 v3)),(V.sc (.int .u8 v4)),(V.sc (.int .u8 v5)),(V.sc (.int .u8 v6)),(V.sc (.int .u8 v7)),(V.sc (.int .u8 v8)),(V.sc (.int .u8 v9)),(V.sc (.int .u8 v10)),(V.sc (.int .u8 v11)),(V.sc (.int .u8 v12)),(V.sc (.int .u8 v13)),(V.sc (.int .u8 v14)),(V.sc (.int .u8 v15)),(V.sc (.int .u8 v16)),(V.sc (.int .u8 v17)),(V.sc (.int .u8 v18)),(V.sc (.int .u8 v19)),(V.sc (.int .u8 v20)),(V.sc (.int .u8 v21)),(V.sc (.int .u8 v22)),(V.sc (.int .u8 v23)),(V.sc (.int .u8 v24)),(V.sc (.int .u8 v25)),(V.sc (.int .u8 v26)),(V.sc (.int .u8 v27)),(V.sc (.int .u8 v28)),(V.sc (.int .u8 v29)),(V.sc (.int .u8 v30)),(V.sc (.int .u8 v31)),(V.sl 5 v55),(V.sl 5 (zl 5 v33 v37))] true)))))) (
 zf β L (zl 5 v32 v43) v50 (fun v56 v57 =>
 lt (IntKind.wrap .i64 ((v57:Int) - v56)) fun x58 =>
 ifb (decide (x58 ≥ (8:Int))) (
 k_hbbbbbbabababav1 v57 v56 v56 p1 (0:Int) (0:Int) (0:Int) (0:Int) (0:Int) (0:Int) (0:Int) (0:Int) (0:Int) (0:Int) (0:Int) (0:Int) (0:Int) (0:Int) (0:Int) (0:Int) (0:Int) (0:Int) (0:Int) (0:Int) (0:Int) (0:Int) (0:Int) (0:Int) (0:Int) (0:Int) (0:Int) (0:Int) (0:Int) (0:Int) (0:Int) (0:Int) ([]:List (List V)) ([]:List (List V)) v0 v1 v2 v3 v4 v5 v6 v7 v8 v9 v10 v11 v12 v13 v14 v15 v16 v17 v18 v19 v20 v21 v22 v23 v24 v25 v26 v27 v28 v29 v30 v31 v32 v33 r49 v43 v37) (
 chk (0+5≤(List.length r49)) (
 xe β L (zl 5 v32 v43) (List.take 5 r49) (fun v59 =>
 k_fin [(V.sc (.int .u8 v0)),(V.sc (.int .u8 v1)),(V.sc (.int .u8 v2)),(V.sc (.int .u8 v3)),(V.sc (.int .u8 v4)),(V.sc (.int .u8 v5)),(V.sc (.int .u8 v6)),(V.sc (.int .u8 v7)),(V.sc (.int .u8 v8)),(V.sc (.int .u8 v9)),(V.sc (.int .u8 v10)),(V.sc (.int .u8 v11)),(V.sc (.int .u8 v12)),(V.sc (.int .u8 v13)),(V.sc (.int .u8 v14)),(V.sc (.int .u8 v15)),(V.sc (.int .u8 v16)),(V.sc (.int .u8 v17)),(V.sc (.int .u8 v18)),(V.sc (.int .u8 v19)),(V.sc (.int .u8 v20)),(V.sc (.int .u8 v21)),(V.sc (.int .u8 v22)),(V.sc (.int .u8 v23)),(V.sc (.int .u8 v24)),(V.sc (.int .u8 v25)),(V.sc (.int .u8 v26)),(V.sc (.int .u8 v27)),(V.sc (.int .u8 v28)),(V.sc (.int .u8 v29)),(V.sc (.int .u8 v30)),(V.sc (.int .u8 v31)),(V.sl 5 v59),(V.sl 5 (zl 5 v33 v37))] true))))))))))))))))))))))
theorem zBb {β:Type} (yg:zR) (xh:zZ) (zb:xu) (zf:yL) (xe:yR) (yf:xQ) (L:Nat) (p0 p1:List V) (p2:Int) (k:KK β):xt yW (zW yg xh zb zf xe yf L) L zdc [(V.agg p0),(V.agg p1),(V.sc (.int .u32 p2))] [] k=zrP yg xh zb zf xe yf L p0 p1 p2 (fun zMc zMd=>k (V.tup [(V.agg zMc),(V.sc (.bool zMd))]) []) (fun p13 p14 p15 b4 zL1 zL2 zL3 zL4 zL5 zL6 zL7 zL8 zL9 zMa zLt zLu zLv zLw zLx zLy zLz zLA zLB zLC zLD zLE zLF zLG zLH zLI zLJ zLK zLL zLM zLN zLO zLP zLQ zK1 zK2 zK3 zK4 zLV zLW zLX zLY zLZ zL0 zK7 zK8 zK9 zLa zLb zLc zLd zLe zLf zLg zLh zLi zLj zLk zLl zLm zLn zLo zLp zLq zLr zLs zK5 zK6 b11 b18 b23=>yF (xm yW (zW yg xh zb zf xe yf L) 0 L z7) zav L (zcF p13 p14 p15 b4 zL1 zL2 zL3 zL4 zL5 zL6 zL7 zL8 zL9 zMa zLt zLu zLv zLw zLx zLy zLz zLA zLB zLC zLD zLE zLF zLG zLH zLI zLJ zLK zLL zLM zLN zLO zLP zLQ zK1 zK2 zK3 zK4 zLV zLW zLX zLY zLZ zL0 zK7 zK8 zK9 zLa zLb zLc zLd zLe zLf zLg zLh zLi zLj zLk zLl zLm zLn zLo zLp zLq zLr zLs zK5 zK6 b11 b18 b23) (xE 0 (xR (xm yW (zW yg xh zb zf xe yf L) 0 L zcH) (xR (xm yW (zW yg xh zb zf xe yf L) 0 L zd4) (y5 0 (CF.res zdc) k))))) (fun p13 p14 p15 b4 zL1 zL2 zL3 zL4 zL5 zL6 zL7 zL8 zL9 zMa zLt zLu zLv zLw zLx zLy zLz zLA zLB zLC zLD zLE zLF zLG zLH zLI zLJ zLK zLL zLM zLN zLO zLP zLQ zK1 zK2 zK3 zK4 zLV zLW zLX zLY zLZ zL0 zK7 zK8 zK9 zLa zLb zLc zLd zLe zLf zLg zLh zLi zLj zLk zLl zLm zLn zLo zLp zLq zLr zLs zK5 zK6 b11 b18 b23=>yF (xm yW (zW yg xh zb zf xe yf L) 0 L z7) zav L (zcm p13 p14 p15 b4 zL1 zL2 zL3 zL4 zL5 zL6 zL7 zL8 zL9 zMa zLt zLu zLv zLw zLx zLy zLz zLA zLB zLC zLD zLE zLF zLG zLH zLI zLJ zLK zLL zLM zLN zLO zLP zLQ zK1 zK2 zK3 zK4 zLV zLW zLX zLY zLZ zL0 zK7 zK8 zK9 zLa zLb zLc zLd zLe zLf zLg zLh zLi zLj zLk zLl zLm zLn zLo zLp zLq zLr zLs zK5 zK6 b11 b18 b23) (xE 0 (xR (xm yW (zW yg xh zb zf xe yf L) 0 L zcH) (xR (xm yW (zW yg xh zb zf xe yf L) 0 L zd4) (y5 0 (CF.res zdc) k))))):=by kernel_rfl
def zje {β:Type} (yg:zR) (xh:zZ) (zb:xu) (zf:yL) (xe:yR) (yf:xQ) (L:Nat) (p13 p14 p15:Int) (b4:List V) (zL1 zL2 zL3 zL4 zL5 zL6 zL7 zL8 zL9 zMa zLt zLu zLv zLw zLx zLy zLz zLA zLB zLC zLD zLE zLF zLG zLH zLI zLJ zLK zLL zLM zLN zLO:Int) (zLP zLQ:List (List V)) (zK1 zK2 zK3 zK4 zLV zLW zLX zLY zLZ zL0 zK7 zK8 zK9 zLa zLb zLc zLd zLe zLf zLg zLh zLi zLj zLk zLl zLm zLn zLo zLp zLq zLr zLs:Int) (zK5 zK6:Nat) (b11 b18 b23:List V) (k_hbbbbbbabababa:ziF β) (k_x0:zuv β):Option β :=
 ifb (decide (p15 < p13)) (
 chk (0≤p15∧p15 < ((zK5:Nat):Int)) (
 cI .u32 b18 (((0+((Int.toNat p15) * 5))+1)+2) fun v60 =>
 chk (0≤p14∧p14 < ((zK5:Nat):Int)) (
 cI .u32 b18 (((0+((Int.toNat p14) * 5))+1)+2) fun v61 =>
 ifb (decide (v60 < v61)) (
 lt (IntKind.wrap .i64 ((p15:Int)+(1:Int))) fun x62 =>
 k_hbbbbbbabababa p13 p15 x62 b4 zL1 zL2 zL3 zL4 zL5 zL6 zL7 zL8 zL9 zMa zLt zLu zLv zLw zLx zLy zLz zLA zLB zLC zLD zLE zLF zLG zLH zLI zLJ zLK zLL zLM zLN zLO zLP zLQ zK1 zK2 zK3 zK4 zLV zLW zLX zLY zLZ zL0 zK7 zK8 zK9 zLa zLb zLc zLd zLe zLf zLg zLh zLi zLj zLk zLl zLm zLn zLo zLp zLq zLr zLs zK5 zK6 b11 b18 b23) (
 lt (IntKind.wrap .i64 ((p15:Int)+(1:Int))) fun x63 =>
 k_hbbbbbbabababa p13 p14 x63 b4 zL1 zL2 zL3 zL4 zL5 zL6 zL7 zL8 zL9 zMa zLt zLu zLv zLw zLx zLy zLz zLA zLB zLC zLD zLE zLF zLG zLH zLI zLJ zLK zLL zLM zLN zLO zLP zLQ zK1 zK2 zK3 zK4 zLV zLW zLX zLY zLZ zL0 zK7 zK8 zK9 zLa zLb zLc zLd zLe zLf zLg zLh zLi zLj zLk zLl zLm zLn zLo zLp zLq zLr zLs zK5 zK6 b11 b18 b23)))) (
 k_x0 p14 b4 zL1 zL2 zL3 zL4 zL5 zL6 zL7 zL8 zL9 zMa zLt zLu zLv zLw zLx zLy zLz zLA zLB zLC zLD zLE zLF zLG zLH zLI zLJ zLK zLL zLM zLN zLO zLP zLQ zK1 zK2 zK3 zK4 zLV zLW zLX zLY zLZ zL0 zK7 zK8 zK9 zLa zLb zLc zLd zLe zLf zLg zLh zLi zLj zLk zLl zLm zLn zLo zLp zLq zLr zLs zK5 zK6 b11 b18 b23)
theorem zo3 {β:Type} (yg:zR) (xh:zZ) (zb:xu) (zf:yL) (xe:yR) (yf:xQ) (L:Nat) (p13 p14 p15:Int) (b4:List V) (zL1 zL2 zL3 zL4 zL5 zL6 zL7 zL8 zL9 zMa zLt zLu zLv zLw zLx zLy zLz zLA zLB zLC zLD zLE zLF zLG zLH zLI zLJ zLK zLL zLM zLN zLO:Int) (zLP zLQ:List (List V)) (zK1 zK2 zK3 zK4 zLV zLW zLX zLY zLZ zL0 zK7 zK8 zK9 zLa zLb zLc zLd zLe zLf zLg zLh zLi zLj zLk zLl zLm zLn zLo zLp zLq zLr zLs:Int) (zK5 zK6:Nat) (b11 b18 b23:List V) (X:St→Option β) (K:KT β):xm yW (zW yg xh zb zf xe yf L) 0 L z7 (zcF p13 p14 p15 b4 zL1 zL2 zL3 zL4 zL5 zL6 zL7 zL8 zL9 zMa zLt zLu zLv zLw zLx zLy zLz zLA zLB zLC zLD zLE zLF zLG zLH zLI zLJ zLK zLL zLM zLN zLO zLP zLQ zK1 zK2 zK3 zK4 zLV zLW zLX zLY zLZ zL0 zK7 zK8 zK9 zLa zLb zLc zLd zLe zLf zLg zLh zLi zLj zLk zLl zLm zLn zLo zLp zLq zLr zLs zK5 zK6 b11 b18 b23) (zbR zav X K)=zje yg xh zb zf xe yf L p13 p14 p15 b4 zL1 zL2 zL3 zL4 zL5 zL6 zL7 zL8 zL9 zMa zLt zLu zLv zLw zLx zLy zLz zLA zLB zLC zLD zLE zLF zLG zLH zLI zLJ zLK zLL zLM zLN zLO zLP zLQ zK1 zK2 zK3 zK4 zLV zLW zLX zLY zLZ zL0 zK7 zK8 zK9 zLa zLb zLc zLd zLe zLf zLg zLh zLi zLj zLk zLl zLm zLn zLo zLp zLq zLr zLs zK5 zK6 b11 b18 b23 (fun p13 p14 p15 b4 zL1 zL2 zL3 zL4 zL5 zL6 zL7 zL8 zL9 zMa zLt zLu zLv zLw zLx zLy zLz zLA zLB zLC zLD zLE zLF zLG zLH zLI zLJ zLK zLL zLM zLN zLO zLP zLQ zK1 zK2 zK3 zK4 zLV zLW zLX zLY zLZ zL0 zK7 zK8 zK9 zLa zLb zLc zLd zLe zLf zLg zLh zLi zLj zLk zLl zLm zLn zLo zLp zLq zLr zLs zK5 zK6 b11 b18 b23=>X (zcF p13 p14 p15 b4 zL1 zL2 zL3 zL4 zL5 zL6 zL7 zL8 zL9 zMa zLt zLu zLv zLw zLx zLy zLz zLA zLB zLC zLD zLE zLF zLG zLH zLI zLJ zLK zLL zLM zLN zLO zLP zLQ zK1 zK2 zK3 zK4 zLV zLW zLX zLY zLZ zL0 zK7 zK8 zK9 zLa zLb zLc zLd zLe zLf zLg zLh zLi zLj zLk zLl zLm zLn zLo zLp zLq zLr zLs zK5 zK6 b11 b18 b23)) (fun p14 b4 zL1 zL2 zL3 zL4 zL5 zL6 zL7 zL8 zL9 zMa zLt zLu zLv zLw zLx zLy zLz zLA zLB zLC zLD zLE zLF zLG zLH zLI zLJ zLK zLL zLM zLN zLO zLP zLQ zK1 zK2 zK3 zK4 zLV zLW zLX zLY zLZ zL0 zK7 zK8 zK9 zLa zLb zLc zLd zLe zLf zLg zLh zLi zLj zLk zLl zLm zLn zLo zLp zLq zLr zLs zK5 zK6 b11 b18 b23=>K (.exit 0) (zl6 p14 b4 zL1 zL2 zL3 zL4 zL5 zL6 zL7 zL8 zL9 zMa zLt zLu zLv zLw zLx zLy zLz zLA zLB zLC zLD zLE zLF zLG zLH zLI zLJ zLK zLL zLM zLN zLO zLP zLQ zK1 zK2 zK3 zK4 zLV zLW zLX zLY zLZ zL0 zK7 zK8 zK9 zLa zLb zLc zLd zLe zLf zLg zLh zLi zLj zLk zLl zLm zLn zLo zLp zLq zLr zLs zK5 zK6 b11 b18 b23)):=by kernel_rfl
def zeF {β:Type} (yg:zR) (xh:zZ) (zb:xu) (zf:yL) (xe:yR) (yf:xQ) (L:Nat) (p13 p14 p15:Int) (b4:List V) (zL1 zL2 zL3 zL4 zL5 zL6 zL7 zL8 zL9 zMa zLt zLu zLv zLw zLx zLy zLz zLA zLB zLC zLD zLE zLF zLG zLH zLI zLJ zLK zLL zLM zLN zLO:Int) (zLP zLQ:List (List V)) (zK1 zK2 zK3 zK4 zLV zLW zLX zLY zLZ zL0 zK7 zK8 zK9 zLa zLb zLc zLd zLe zLf zLg zLh zLi zLj zLk zLl zLm zLn zLo zLp zLq zLr zLs:Int) (zK5 zK6:Nat) (b11 b18 b23:List V) (k_hbbbbbbabababav1:zhL β) (k_x0v1:zmq β):Option β :=
 ifb (decide (p15 < p13)) (
 chk (0≤p15∧p15 < ((zK5:Nat):Int)) (
 cI .u32 b18 (((0+((Int.toNat p15) * 5))+1)+2) fun v64 =>
 chk (0≤p14∧p14 < ((zK5:Nat):Int)) (
 cI .u32 b18 (((0+((Int.toNat p14) * 5))+1)+2) fun v65 =>
 ifb (decide (v64 < v65)) (
 lt (IntKind.wrap .i64 ((p15:Int)+(1:Int))) fun x66 =>
 k_hbbbbbbabababav1 p13 p15 x66 b4 zL1 zL2 zL3 zL4 zL5 zL6 zL7 zL8 zL9 zMa zLt zLu zLv zLw zLx zLy zLz zLA zLB zLC zLD zLE zLF zLG zLH zLI zLJ zLK zLL zLM zLN zLO zLP zLQ zK1 zK2 zK3 zK4 zLV zLW zLX zLY zLZ zL0 zK7 zK8 zK9 zLa zLb zLc zLd zLe zLf zLg zLh zLi zLj zLk zLl zLm zLn zLo zLp zLq zLr zLs zK5 zK6 b11 b18 b23) (
 lt (IntKind.wrap .i64 ((p15:Int)+(1:Int))) fun x67 =>
 k_hbbbbbbabababav1 p13 p14 x67 b4 zL1 zL2 zL3 zL4 zL5 zL6 zL7 zL8 zL9 zMa zLt zLu zLv zLw zLx zLy zLz zLA zLB zLC zLD zLE zLF zLG zLH zLI zLJ zLK zLL zLM zLN zLO zLP zLQ zK1 zK2 zK3 zK4 zLV zLW zLX zLY zLZ zL0 zK7 zK8 zK9 zLa zLb zLc zLd zLe zLf zLg zLh zLi zLj zLk zLl zLm zLn zLo zLp zLq zLr zLs zK5 zK6 b11 b18 b23)))) (
 k_x0v1 p14 b4 zL1 zL2 zL3 zL4 zL5 zL6 zL7 zL8 zL9 zMa zLt zLu zLv zLw zLx zLy zLz zLA zLB zLC zLD zLE zLF zLG zLH zLI zLJ zLK zLL zLM zLN zLO zLP zLQ zK1 zK2 zK3 zK4 zLV zLW zLX zLY zLZ zL0 zK7 zK8 zK9 zLa zLb zLc zLd zLe zLf zLg zLh zLi zLj zLk zLl zLm zLn zLo zLp zLq zLr zLs zK5 zK6 b11 b18 b23)
theorem znO {β:Type} (yg:zR) (xh:zZ) (zb:xu) (zf:yL) (xe:yR) (yf:xQ) (L:Nat) (p13 p14 p15:Int) (b4:List V) (zL1 zL2 zL3 zL4 zL5 zL6 zL7 zL8 zL9 zMa zLt zLu zLv zLw zLx zLy zLz zLA zLB zLC zLD zLE zLF zLG zLH zLI zLJ zLK zLL zLM zLN zLO:Int) (zLP zLQ:List (List V)) (zK1 zK2 zK3 zK4 zLV zLW zLX zLY zLZ zL0 zK7 zK8 zK9 zLa zLb zLc zLd zLe zLf zLg zLh zLi zLj zLk zLl zLm zLn zLo zLp zLq zLr zLs:Int) (zK5 zK6:Nat) (b11 b18 b23:List V) (X:St→Option β) (K:KT β):xm yW (zW yg xh zb zf xe yf L) 0 L z7 (zcm p13 p14 p15 b4 zL1 zL2 zL3 zL4 zL5 zL6 zL7 zL8 zL9 zMa zLt zLu zLv zLw zLx zLy zLz zLA zLB zLC zLD zLE zLF zLG zLH zLI zLJ zLK zLL zLM zLN zLO zLP zLQ zK1 zK2 zK3 zK4 zLV zLW zLX zLY zLZ zL0 zK7 zK8 zK9 zLa zLb zLc zLd zLe zLf zLg zLh zLi zLj zLk zLl zLm zLn zLo zLp zLq zLr zLs zK5 zK6 b11 b18 b23) (zbR zav X K)=zeF yg xh zb zf xe yf L p13 p14 p15 b4 zL1 zL2 zL3 zL4 zL5 zL6 zL7 zL8 zL9 zMa zLt zLu zLv zLw zLx zLy zLz zLA zLB zLC zLD zLE zLF zLG zLH zLI zLJ zLK zLL zLM zLN zLO zLP zLQ zK1 zK2 zK3 zK4 zLV zLW zLX zLY zLZ zL0 zK7 zK8 zK9 zLa zLb zLc zLd zLe zLf zLg zLh zLi zLj zLk zLl zLm zLn zLo zLp zLq zLr zLs zK5 zK6 b11 b18 b23 (fun p13 p14 p15 b4 zL1 zL2 zL3 zL4 zL5 zL6 zL7 zL8 zL9 zMa zLt zLu zLv zLw zLx zLy zLz zLA zLB zLC zLD zLE zLF zLG zLH zLI zLJ zLK zLL zLM zLN zLO zLP zLQ zK1 zK2 zK3 zK4 zLV zLW zLX zLY zLZ zL0 zK7 zK8 zK9 zLa zLb zLc zLd zLe zLf zLg zLh zLi zLj zLk zLl zLm zLn zLo zLp zLq zLr zLs zK5 zK6 b11 b18 b23=>X (zcm p13 p14 p15 b4 zL1 zL2 zL3 zL4 zL5 zL6 zL7 zL8 zL9 zMa zLt zLu zLv zLw zLx zLy zLz zLA zLB zLC zLD zLE zLF zLG zLH zLI zLJ zLK zLL zLM zLN zLO zLP zLQ zK1 zK2 zK3 zK4 zLV zLW zLX zLY zLZ zL0 zK7 zK8 zK9 zLa zLb zLc zLd zLe zLf zLg zLh zLi zLj zLk zLl zLm zLn zLo zLp zLq zLr zLs zK5 zK6 b11 b18 b23)) (fun p14 b4 zL1 zL2 zL3 zL4 zL5 zL6 zL7 zL8 zL9 zMa zLt zLu zLv zLw zLx zLy zLz zLA zLB zLC zLD zLE zLF zLG zLH zLI zLJ zLK zLL zLM zLN zLO zLP zLQ zK1 zK2 zK3 zK4 zLV zLW zLX zLY zLZ zL0 zK7 zK8 zK9 zLa zLb zLc zLd zLe zLf zLg zLh zLi zLj zLk zLl zLm zLn zLo zLp zLq zLr zLs zK5 zK6 b11 b18 b23=>K (.exit 0) (zjZ p14 b4 zL1 zL2 zL3 zL4 zL5 zL6 zL7 zL8 zL9 zMa zLt zLu zLv zLw zLx zLy zLz zLA zLB zLC zLD zLE zLF zLG zLH zLI zLJ zLK zLL zLM zLN zLO zLP zLQ zK1 zK2 zK3 zK4 zLV zLW zLX zLY zLZ zL0 zK7 zK8 zK9 zLa zLb zLc zLd zLe zLf zLg zLh zLi zLj zLk zLl zLm zLn zLo zLp zLq zLr zLs zK5 zK6 b11 b18 b23)):=by kernel_rfl
def zhS {β:Type} (yg:zR) (xh:zZ) (zb:xu) (zf:yL) (xe:yR) (yf:xQ) (L:Nat) (p14:Int) (b4:List V) (zL1 zL2 zL3 zL4 zL5 zL6 zL7 zL8 zL9 zMa zLt zLu zLv zLw zLx zLy zLz zLA zLB zLC zLD zLE zLF zLG zLH zLI zLJ zLK zLL zLM zLN zLO:Int) (zLP zLQ:List (List V)) (zK1 zK2 zK3 zK4 zLV zLW zLX zLY zLZ zL0 zK7 zK8 zK9 zLa zLb zLc zLd zLe zLf zLg zLh zLi zLj zLk zLl zLm zLn zLo zLp zLq zLr zLs:Int) (zK5 zK6:Nat) (b11 b18 b23:List V) (k_fin:List V→Bool→Option β):Option β :=
 chk (0≤p14∧p14 < ((zK5:Nat):Int)) (
 cI .u32 b18 (((0+((Int.toNat p14) * 5))+1)+2) fun v68 =>
 cI .u32 b4 2 fun v69 =>
 ifb (decide (v68 ≥ v69)) (
 k_fin [(V.sc (.int .u8 zK1)),(V.sc (.int .u8 zK2)),(V.sc (.int .u8 zK3)),(V.sc (.int .u8 zK4)),(V.sc (.int .u8 zLV)),(V.sc (.int .u8 zLW)),(V.sc (.int .u8 zLX)),(V.sc (.int .u8 zLY)),(V.sc (.int .u8 zLZ)),(V.sc (.int .u8 zL0)),(V.sc (.int .u8 zK7)),(V.sc (.int .u8 zK8)),(V.sc (.int .u8 zK9)),(V.sc (.int .u8 zLa)),(V.sc (.int .u8 zLb)),(V.sc (.int .u8 zLc)),(V.sc (.int .u8 zLd)),(V.sc (.int .u8 zLe)),(V.sc (.int .u8 zLf)),(V.sc (.int .u8 zLg)),(V.sc (.int .u8 zLh)),(V.sc (.int .u8 zLi)),(V.sc (.int .u8 zLj)),(V.sc (.int .u8 zLk)),(V.sc (.int .u8 zLl)),(V.sc (.int .u8 zLm)),(V.sc (.int .u8 zLn)),(V.sc (.int .u8 zLo)),(V.sc (.int .u8 zLp)),(V.sc (.int .u8 zLq)),(V.sc (.int .u8 zLr)),(V.sc (.int .u8 zLs)),(V.sl 5 (zl 5 zK5 b18)),(V.sl 5 (zl 5 zK6 b23))] false) (
 ifb (List.isEmpty b18) (
 yf β L (zl 5 zK5 b18) p14 (fun v70 =>
 chk (0+5≤(List.length b11)) (
 xe β L v70 (List.take 5 b11) (fun v71 =>
 k_fin [(V.sc (.int .u8 zK1)),(V.sc (.int .u8 zK2)),(V.sc (.int .u8 zK3)),(V.sc (.int .u8 zK4)),(V.sc (.int .u8 zLV)),(V.sc (.int .u8 zLW)),(V.sc (.int .u8 zLX)),(V.sc (.int .u8 zLY)),(V.sc (.int .u8 zLZ)),(V.sc (.int .u8 zL0)),(V.sc (.int .u8 zK7)),(V.sc (.int .u8 zK8)),(V.sc (.int .u8 zK9)),(V.sc (.int .u8 zLa)),(V.sc (.int .u8 zLb)),(V.sc (.int .u8 zLc)),(V.sc (.int .u8 zLd)),(V.sc (.int .u8 zLe)),(V.sc (.int .u8 zLf)),(V.sc (.int .u8 zLg)),(V.sc (.int .u8 zLh)),(V.sc (.int .u8 zLi)),(V.sc (.int .u8 zLj)),(V.sc (.int .u8 zLk)),(V.sc (.int .u8 zLl)),(V.sc (.int .u8 zLm)),(V.sc (.int .u8 zLn)),(V.sc (.int .u8 zLo)),(V.sc (.int .u8 zLp)),(V.sc (.int .u8 zLq)),(V.sc (.int .u8 zLr)),(V.sc (.int .u8 zLs)),(V.sl 5 v71),(V.sl 5 (zl 5 zK6 b23))] true)))) (
 yf β L (zl 5 zK5 b18) p14 (fun v72 =>
 chk (0+5≤(List.length b11)) (
 xe β L v72 (List.take 5 b11) (fun v73 =>
 k_fin [(V.sc (.int .u8 zK1)),(V.sc (.int .u8 zK2)),(V.sc (.int .u8 zK3)),(V.sc (.int .u8 zK4)),(V.sc (.int .u8 zLV)),(V.sc (.int .u8 zLW)),(V.sc (.int .u8 zLX)),(V.sc (.int .u8 zLY)),(V.sc (.int .u8 zLZ)),(V.sc (.int .u8 zL0)),(V.sc (.int .u8 zK7)),(V.sc (.int .u8 zK8)),(V.sc (.int .u8 zK9)),(V.sc (.int .u8 zLa)),(V.sc (.int .u8 zLb)),(V.sc (.int .u8 zLc)),(V.sc (.int .u8 zLd)),(V.sc (.int .u8 zLe)),(V.sc (.int .u8 zLf)),(V.sc (.int .u8 zLg)),(V.sc (.int .u8 zLh)),(V.sc (.int .u8 zLi)),(V.sc (.int .u8 zLj)),(V.sc (.int .u8 zLk)),(V.sc (.int .u8 zLl)),(V.sc (.int .u8 zLm)),(V.sc (.int .u8 zLn)),(V.sc (.int .u8 zLo)),(V.sc (.int .u8 zLp)),(V.sc (.int .u8 zLq)),(V.sc (.int .u8 zLr)),(V.sc (.int .u8 zLs)),(V.sl 5 v73),(V.sl 5 (zl 5 zK6 b23))] true))))))
theorem zng {β:Type} (yg:zR) (xh:zZ) (zb:xu) (zf:yL) (xe:yR) (yf:xQ) (L:Nat) (p14:Int) (b4:List V) (zL1 zL2 zL3 zL4 zL5 zL6 zL7 zL8 zL9 zMa zLt zLu zLv zLw zLx zLy zLz zLA zLB zLC zLD zLE zLF zLG zLH zLI zLJ zLK zLL zLM zLN zLO:Int) (zLP zLQ:List (List V)) (zK1 zK2 zK3 zK4 zLV zLW zLX zLY zLZ zL0 zK7 zK8 zK9 zLa zLb zLc zLd zLe zLf zLg zLh zLi zLj zLk zLl zLm zLn zLo zLp zLq zLr zLs:Int) (zK5 zK6:Nat) (b11 b18 b23:List V) (k:KK β):(xE 0 (xR (xm yW (zW yg xh zb zf xe yf L) 0 L zcH) (xR (xm yW (zW yg xh zb zf xe yf L) 0 L zd4) (y5 0 (CF.res zdc) k)))) (.exit 0) (zl6 p14 b4 zL1 zL2 zL3 zL4 zL5 zL6 zL7 zL8 zL9 zMa zLt zLu zLv zLw zLx zLy zLz zLA zLB zLC zLD zLE zLF zLG zLH zLI zLJ zLK zLL zLM zLN zLO zLP zLQ zK1 zK2 zK3 zK4 zLV zLW zLX zLY zLZ zL0 zK7 zK8 zK9 zLa zLb zLc zLd zLe zLf zLg zLh zLi zLj zLk zLl zLm zLn zLo zLp zLq zLr zLs zK5 zK6 b11 b18 b23)=zhS yg xh zb zf xe yf L p14 b4 zL1 zL2 zL3 zL4 zL5 zL6 zL7 zL8 zL9 zMa zLt zLu zLv zLw zLx zLy zLz zLA zLB zLC zLD zLE zLF zLG zLH zLI zLJ zLK zLL zLM zLN zLO zLP zLQ zK1 zK2 zK3 zK4 zLV zLW zLX zLY zLZ zL0 zK7 zK8 zK9 zLa zLb zLc zLd zLe zLf zLg zLh zLi zLj zLk zLl zLm zLn zLo zLp zLq zLr zLs zK5 zK6 b11 b18 b23 (fun zMc zMd=>k (V.tup [(V.agg zMc),(V.sc (.bool zMd))]) []):=by kernel_rfl
def zdz {β:Type} (yg:zR) (xh:zZ) (zb:xu) (zf:yL) (xe:yR) (yf:xQ) (L:Nat) (p14:Int) (b4:List V) (zL1 zL2 zL3 zL4 zL5 zL6 zL7 zL8 zL9 zMa zLt zLu zLv zLw zLx zLy zLz zLA zLB zLC zLD zLE zLF zLG zLH zLI zLJ zLK zLL zLM zLN zLO:Int) (zLP zLQ:List (List V)) (zK1 zK2 zK3 zK4 zLV zLW zLX zLY zLZ zL0 zK7 zK8 zK9 zLa zLb zLc zLd zLe zLf zLg zLh zLi zLj zLk zLl zLm zLn zLo zLp zLq zLr zLs:Int) (zK5 zK6:Nat) (b11 b18 b23:List V) (k_fin:List V→Bool→Option β):Option β :=
 chk (0≤p14∧p14 < ((zK5:Nat):Int)) (
 cI .u32 b18 (((0+((Int.toNat p14) * 5))+1)+2) fun v74 =>
 cI .u32 b4 2 fun v75 =>
 ifb (decide (v74 ≥ v75)) (
 k_fin [(V.sc (.int .u8 zK1)),(V.sc (.int .u8 zK2)),(V.sc (.int .u8 zK3)),(V.sc (.int .u8 zK4)),(V.sc (.int .u8 zLV)),(V.sc (.int .u8 zLW)),(V.sc (.int .u8 zLX)),(V.sc (.int .u8 zLY)),(V.sc (.int .u8 zLZ)),(V.sc (.int .u8 zL0)),(V.sc (.int .u8 zK7)),(V.sc (.int .u8 zK8)),(V.sc (.int .u8 zK9)),(V.sc (.int .u8 zLa)),(V.sc (.int .u8 zLb)),(V.sc (.int .u8 zLc)),(V.sc (.int .u8 zLd)),(V.sc (.int .u8 zLe)),(V.sc (.int .u8 zLf)),(V.sc (.int .u8 zLg)),(V.sc (.int .u8 zLh)),(V.sc (.int .u8 zLi)),(V.sc (.int .u8 zLj)),(V.sc (.int .u8 zLk)),(V.sc (.int .u8 zLl)),(V.sc (.int .u8 zLm)),(V.sc (.int .u8 zLn)),(V.sc (.int .u8 zLo)),(V.sc (.int .u8 zLp)),(V.sc (.int .u8 zLq)),(V.sc (.int .u8 zLr)),(V.sc (.int .u8 zLs)),(V.sl 5 (zl 5 zK5 b18)),(V.sl 5 (zl 5 zK6 b23))] false) (
 yf β L (zl 5 zK5 b18) p14 (fun v76 =>
 chk (0+5≤(List.length b11)) (
 xe β L v76 (List.take 5 b11) (fun v77 =>
 k_fin [(V.sc (.int .u8 zK1)),(V.sc (.int .u8 zK2)),(V.sc (.int .u8 zK3)),(V.sc (.int .u8 zK4)),(V.sc (.int .u8 zLV)),(V.sc (.int .u8 zLW)),(V.sc (.int .u8 zLX)),(V.sc (.int .u8 zLY)),(V.sc (.int .u8 zLZ)),(V.sc (.int .u8 zL0)),(V.sc (.int .u8 zK7)),(V.sc (.int .u8 zK8)),(V.sc (.int .u8 zK9)),(V.sc (.int .u8 zLa)),(V.sc (.int .u8 zLb)),(V.sc (.int .u8 zLc)),(V.sc (.int .u8 zLd)),(V.sc (.int .u8 zLe)),(V.sc (.int .u8 zLf)),(V.sc (.int .u8 zLg)),(V.sc (.int .u8 zLh)),(V.sc (.int .u8 zLi)),(V.sc (.int .u8 zLj)),(V.sc (.int .u8 zLk)),(V.sc (.int .u8 zLl)),(V.sc (.int .u8 zLm)),(V.sc (.int .u8 zLn)),(V.sc (.int .u8 zLo)),(V.sc (.int .u8 zLp)),(V.sc (.int .u8 zLq)),(V.sc (.int .u8 zLr)),(V.sc (.int .u8 zLs)),(V.sl 5 v77),(V.sl 5 (zl 5 zK6 b23))] true)))))
theorem zlm {β:Type} (yg:zR) (xh:zZ) (zb:xu) (zf:yL) (xe:yR) (yf:xQ) (L:Nat) (p14:Int) (b4:List V) (zL1 zL2 zL3 zL4 zL5 zL6 zL7 zL8 zL9 zMa zLt zLu zLv zLw zLx zLy zLz zLA zLB zLC zLD zLE zLF zLG zLH zLI zLJ zLK zLL zLM zLN zLO:Int) (zLP zLQ:List (List V)) (zK1 zK2 zK3 zK4 zLV zLW zLX zLY zLZ zL0 zK7 zK8 zK9 zLa zLb zLc zLd zLe zLf zLg zLh zLi zLj zLk zLl zLm zLn zLo zLp zLq zLr zLs:Int) (zK5 zK6:Nat) (b11 b18 b23:List V) (k:KK β):(xE 0 (xR (xm yW (zW yg xh zb zf xe yf L) 0 L zcH) (xR (xm yW (zW yg xh zb zf xe yf L) 0 L zd4) (y5 0 (CF.res zdc) k)))) (.exit 0) (zjZ p14 b4 zL1 zL2 zL3 zL4 zL5 zL6 zL7 zL8 zL9 zMa zLt zLu zLv zLw zLx zLy zLz zLA zLB zLC zLD zLE zLF zLG zLH zLI zLJ zLK zLL zLM zLN zLO zLP zLQ zK1 zK2 zK3 zK4 zLV zLW zLX zLY zLZ zL0 zK7 zK8 zK9 zLa zLb zLc zLd zLe zLf zLg zLh zLi zLj zLk zLl zLm zLn zLo zLp zLq zLr zLs zK5 zK6 b11 b18 b23)=zdz yg xh zb zf xe yf L p14 b4 zL1 zL2 zL3 zL4 zL5 zL6 zL7 zL8 zL9 zMa zLt zLu zLv zLw zLx zLy zLz zLA zLB zLC zLD zLE zLF zLG zLH zLI zLJ zLK zLL zLM zLN zLO zLP zLQ zK1 zK2 zK3 zK4 zLV zLW zLX zLY zLZ zL0 zK7 zK8 zK9 zLa zLb zLc zLd zLe zLf zLg zLh zLi zLj zLk zLl zLm zLn zLo zLp zLq zLr zLs zK5 zK6 b11 b18 b23 (fun zMc zMd=>k (V.tup [(V.agg zMc),(V.sc (.bool zMd))]) []):=by kernel_rfl
def zfo {β:Type} (yg:zR) (xh:zZ) (zb:xu) (zf:yL) (xe:yR) (yf:xQ) (L:Nat) (k_x0:zuv β):Nat→Int→Int→Int→List V→Int→Int→Int→Int→Int→Int→Int→Int→Int→Int→Int→Int→Int→Int→Int→Int→Int→Int→Int→Int→Int→Int→Int→Int→Int→Int→Int→Int→Int→Int→Int→Int→List (List V)→List (List V)→Int→Int→Int→Int→Int→Int→Int→Int→Int→Int→Int→Int→Int→Int→Int→Int→Int→Int→Int→Int→Int→Int→Int→Int→Int→Int→Int→Int→Int→Int→Int→Int→Nat→Nat→List V→List V→List V→Option β
 | 0,_,_,_,_,_,_,_,_,_,_,_,_,_,_,_,_,_,_,_,_,_,_,_,_,_,_,_,_,_,_,_,_,_,_,_,_,_,_,_,_,_,_,_,_,_,_,_,_,_,_,_,_,_,_,_,_,_,_,_,_,_,_,_,_,_,_,_,_,_,_,_,_,_,_,_=>none
 | n+1,p13,p14,p15,b4,zL1,zL2,zL3,zL4,zL5,zL6,zL7,zL8,zL9,zMa,zLt,zLu,zLv,zLw,zLx,zLy,zLz,zLA,zLB,zLC,zLD,zLE,zLF,zLG,zLH,zLI,zLJ,zLK,zLL,zLM,zLN,zLO,zLP,zLQ,zK1,zK2,zK3,zK4,zLV,zLW,zLX,zLY,zLZ,zL0,zK7,zK8,zK9,zLa,zLb,zLc,zLd,zLe,zLf,zLg,zLh,zLi,zLj,zLk,zLl,zLm,zLn,zLo,zLp,zLq,zLr,zLs,zK5,zK6,b11,b18,b23=>zje yg xh zb zf xe yf L p13 p14 p15 b4 zL1 zL2 zL3 zL4 zL5 zL6 zL7 zL8 zL9 zMa zLt zLu zLv zLw zLx zLy zLz zLA zLB zLC zLD zLE zLF zLG zLH zLI zLJ zLK zLL zLM zLN zLO zLP zLQ zK1 zK2 zK3 zK4 zLV zLW zLX zLY zLZ zL0 zK7 zK8 zK9 zLa zLb zLc zLd zLe zLf zLg zLh zLi zLj zLk zLl zLm zLn zLo zLp zLq zLr zLs zK5 zK6 b11 b18 b23 (fun p13 p14 p15 b4 zL1 zL2 zL3 zL4 zL5 zL6 zL7 zL8 zL9 zMa zLt zLu zLv zLw zLx zLy zLz zLA zLB zLC zLD zLE zLF zLG zLH zLI zLJ zLK zLL zLM zLN zLO zLP zLQ zK1 zK2 zK3 zK4 zLV zLW zLX zLY zLZ zL0 zK7 zK8 zK9 zLa zLb zLc zLd zLe zLf zLg zLh zLi zLj zLk zLl zLm zLn zLo zLp zLq zLr zLs zK5 zK6 b11 b18 b23=>zfo yg xh zb zf xe yf L k_x0 n p13 p14 p15 b4 zL1 zL2 zL3 zL4 zL5 zL6 zL7 zL8 zL9 zMa zLt zLu zLv zLw zLx zLy zLz zLA zLB zLC zLD zLE zLF zLG zLH zLI zLJ zLK zLL zLM zLN zLO zLP zLQ zK1 zK2 zK3 zK4 zLV zLW zLX zLY zLZ zL0 zK7 zK8 zK9 zLa zLb zLc zLd zLe zLf zLg zLh zLi zLj zLk zLl zLm zLn zLo zLp zLq zLr zLs zK5 zK6 b11 b18 b23) k_x0
theorem zhE {β:Type} (yg:zR) (xh:zZ) (zb:xu) (zf:yL) (xe:yR) (yf:xQ) (L:Nat) (K:KT β):∀ (n:Nat) (p13 p14 p15:Int) (b4:List V) (zL1 zL2 zL3 zL4 zL5 zL6 zL7 zL8 zL9 zMa zLt zLu zLv zLw zLx zLy zLz zLA zLB zLC zLD zLE zLF zLG zLH zLI zLJ zLK zLL zLM zLN zLO:Int) (zLP zLQ:List (List V)) (zK1 zK2 zK3 zK4 zLV zLW zLX zLY zLZ zL0 zK7 zK8 zK9 zLa zLb zLc zLd zLe zLf zLg zLh zLi zLj zLk zLl zLm zLn zLo zLp zLq zLr zLs:Int) (zK5 zK6:Nat) (b11 b18 b23:List V),yF (xm yW (zW yg xh zb zf xe yf L) 0 L z7) zav n (zcF p13 p14 p15 b4 zL1 zL2 zL3 zL4 zL5 zL6 zL7 zL8 zL9 zMa zLt zLu zLv zLw zLx zLy zLz zLA zLB zLC zLD zLE zLF zLG zLH zLI zLJ zLK zLL zLM zLN zLO zLP zLQ zK1 zK2 zK3 zK4 zLV zLW zLX zLY zLZ zL0 zK7 zK8 zK9 zLa zLb zLc zLd zLe zLf zLg zLh zLi zLj zLk zLl zLm zLn zLo zLp zLq zLr zLs zK5 zK6 b11 b18 b23) K=zfo yg xh zb zf xe yf L (fun p14 b4 zL1 zL2 zL3 zL4 zL5 zL6 zL7 zL8 zL9 zMa zLt zLu zLv zLw zLx zLy zLz zLA zLB zLC zLD zLE zLF zLG zLH zLI zLJ zLK zLL zLM zLN zLO zLP zLQ zK1 zK2 zK3 zK4 zLV zLW zLX zLY zLZ zL0 zK7 zK8 zK9 zLa zLb zLc zLd zLe zLf zLg zLh zLi zLj zLk zLl zLm zLn zLo zLp zLq zLr zLs zK5 zK6 b11 b18 b23=>K (.exit 0) (zl6 p14 b4 zL1 zL2 zL3 zL4 zL5 zL6 zL7 zL8 zL9 zMa zLt zLu zLv zLw zLx zLy zLz zLA zLB zLC zLD zLE zLF zLG zLH zLI zLJ zLK zLL zLM zLN zLO zLP zLQ zK1 zK2 zK3 zK4 zLV zLW zLX zLY zLZ zL0 zK7 zK8 zK9 zLa zLb zLc zLd zLe zLf zLg zLh zLi zLj zLk zLl zLm zLn zLo zLp zLq zLr zLs zK5 zK6 b11 b18 b23)) n p13 p14 p15 b4 zL1 zL2 zL3 zL4 zL5 zL6 zL7 zL8 zL9 zMa zLt zLu zLv zLw zLx zLy zLz zLA zLB zLC zLD zLE zLF zLG zLH zLI zLJ zLK zLL zLM zLN zLO zLP zLQ zK1 zK2 zK3 zK4 zLV zLW zLX zLY zLZ zL0 zK7 zK8 zK9 zLa zLb zLc zLd zLe zLf zLg zLh zLi zLj zLk zLl zLm zLn zLo zLp zLq zLr zLs zK5 zK6 b11 b18 b23:=by
 intro n
 induction n with
 | zero=>intros; rfl
 | succ n ih =>
  intro p13 p14 p15 b4 zL1 zL2 zL3 zL4 zL5 zL6 zL7 zL8 zL9 zMa zLt zLu zLv zLw zLx zLy zLz zLA zLB zLC zLD zLE zLF zLG zLH zLI zLJ zLK zLL zLM zLN zLO zLP zLQ zK1 zK2 zK3 zK4 zLV zLW zLX zLY zLZ zL0 zK7 zK8 zK9 zLa zLb zLc zLd zLe zLf zLg zLh zLi zLj zLk zLl zLm zLn zLo zLp zLq zLr zLs zK5 zK6 b11 b18 b23
  refine (zo3 yg xh zb zf xe yf L p13 p14 p15 b4 zL1 zL2 zL3 zL4 zL5 zL6 zL7 zL8 zL9 zMa zLt zLu zLv zLw zLx zLy zLz zLA zLB zLC zLD zLE zLF zLG zLH zLI zLJ zLK zLL zLM zLN zLO zLP zLQ zK1 zK2 zK3 zK4 zLV zLW zLX zLY zLZ zL0 zK7 zK8 zK9 zLa zLb zLc zLd zLe zLf zLg zLh zLi zLj zLk zLl zLm zLn zLo zLp zLq zLr zLs zK5 zK6 b11 b18 b23 (fun σ=>yF (xm yW (zW yg xh zb zf xe yf L) 0 L z7) zav n σ K) K).trans ?_
  simp only [ih]
  rfl
def zb3 {β:Type} (yg:zR) (xh:zZ) (zb:xu) (zf:yL) (xe:yR) (yf:xQ) (L:Nat) (k_x0v1:zmq β):Nat→Int→Int→Int→List V→Int→Int→Int→Int→Int→Int→Int→Int→Int→Int→Int→Int→Int→Int→Int→Int→Int→Int→Int→Int→Int→Int→Int→Int→Int→Int→Int→Int→Int→Int→Int→Int→List (List V)→List (List V)→Int→Int→Int→Int→Int→Int→Int→Int→Int→Int→Int→Int→Int→Int→Int→Int→Int→Int→Int→Int→Int→Int→Int→Int→Int→Int→Int→Int→Int→Int→Int→Int→Nat→Nat→List V→List V→List V→Option β
 | 0,_,_,_,_,_,_,_,_,_,_,_,_,_,_,_,_,_,_,_,_,_,_,_,_,_,_,_,_,_,_,_,_,_,_,_,_,_,_,_,_,_,_,_,_,_,_,_,_,_,_,_,_,_,_,_,_,_,_,_,_,_,_,_,_,_,_,_,_,_,_,_,_,_,_,_=>none
 | n+1,p13,p14,p15,b4,zL1,zL2,zL3,zL4,zL5,zL6,zL7,zL8,zL9,zMa,zLt,zLu,zLv,zLw,zLx,zLy,zLz,zLA,zLB,zLC,zLD,zLE,zLF,zLG,zLH,zLI,zLJ,zLK,zLL,zLM,zLN,zLO,zLP,zLQ,zK1,zK2,zK3,zK4,zLV,zLW,zLX,zLY,zLZ,zL0,zK7,zK8,zK9,zLa,zLb,zLc,zLd,zLe,zLf,zLg,zLh,zLi,zLj,zLk,zLl,zLm,zLn,zLo,zLp,zLq,zLr,zLs,zK5,zK6,b11,b18,b23=>zeF yg xh zb zf xe yf L p13 p14 p15 b4 zL1 zL2 zL3 zL4 zL5 zL6 zL7 zL8 zL9 zMa zLt zLu zLv zLw zLx zLy zLz zLA zLB zLC zLD zLE zLF zLG zLH zLI zLJ zLK zLL zLM zLN zLO zLP zLQ zK1 zK2 zK3 zK4 zLV zLW zLX zLY zLZ zL0 zK7 zK8 zK9 zLa zLb zLc zLd zLe zLf zLg zLh zLi zLj zLk zLl zLm zLn zLo zLp zLq zLr zLs zK5 zK6 b11 b18 b23 (fun p13 p14 p15 b4 zL1 zL2 zL3 zL4 zL5 zL6 zL7 zL8 zL9 zMa zLt zLu zLv zLw zLx zLy zLz zLA zLB zLC zLD zLE zLF zLG zLH zLI zLJ zLK zLL zLM zLN zLO zLP zLQ zK1 zK2 zK3 zK4 zLV zLW zLX zLY zLZ zL0 zK7 zK8 zK9 zLa zLb zLc zLd zLe zLf zLg zLh zLi zLj zLk zLl zLm zLn zLo zLp zLq zLr zLs zK5 zK6 b11 b18 b23=>zb3 yg xh zb zf xe yf L k_x0v1 n p13 p14 p15 b4 zL1 zL2 zL3 zL4 zL5 zL6 zL7 zL8 zL9 zMa zLt zLu zLv zLw zLx zLy zLz zLA zLB zLC zLD zLE zLF zLG zLH zLI zLJ zLK zLL zLM zLN zLO zLP zLQ zK1 zK2 zK3 zK4 zLV zLW zLX zLY zLZ zL0 zK7 zK8 zK9 zLa zLb zLc zLd zLe zLf zLg zLh zLi zLj zLk zLl zLm zLn zLo zLp zLq zLr zLs zK5 zK6 b11 b18 b23) k_x0v1
theorem zgm {β:Type} (yg:zR) (xh:zZ) (zb:xu) (zf:yL) (xe:yR) (yf:xQ) (L:Nat) (K:KT β):∀ (n:Nat) (p13 p14 p15:Int) (b4:List V) (zL1 zL2 zL3 zL4 zL5 zL6 zL7 zL8 zL9 zMa zLt zLu zLv zLw zLx zLy zLz zLA zLB zLC zLD zLE zLF zLG zLH zLI zLJ zLK zLL zLM zLN zLO:Int) (zLP zLQ:List (List V)) (zK1 zK2 zK3 zK4 zLV zLW zLX zLY zLZ zL0 zK7 zK8 zK9 zLa zLb zLc zLd zLe zLf zLg zLh zLi zLj zLk zLl zLm zLn zLo zLp zLq zLr zLs:Int) (zK5 zK6:Nat) (b11 b18 b23:List V),yF (xm yW (zW yg xh zb zf xe yf L) 0 L z7) zav n (zcm p13 p14 p15 b4 zL1 zL2 zL3 zL4 zL5 zL6 zL7 zL8 zL9 zMa zLt zLu zLv zLw zLx zLy zLz zLA zLB zLC zLD zLE zLF zLG zLH zLI zLJ zLK zLL zLM zLN zLO zLP zLQ zK1 zK2 zK3 zK4 zLV zLW zLX zLY zLZ zL0 zK7 zK8 zK9 zLa zLb zLc zLd zLe zLf zLg zLh zLi zLj zLk zLl zLm zLn zLo zLp zLq zLr zLs zK5 zK6 b11 b18 b23) K=zb3 yg xh zb zf xe yf L (fun p14 b4 zL1 zL2 zL3 zL4 zL5 zL6 zL7 zL8 zL9 zMa zLt zLu zLv zLw zLx zLy zLz zLA zLB zLC zLD zLE zLF zLG zLH zLI zLJ zLK zLL zLM zLN zLO zLP zLQ zK1 zK2 zK3 zK4 zLV zLW zLX zLY zLZ zL0 zK7 zK8 zK9 zLa zLb zLc zLd zLe zLf zLg zLh zLi zLj zLk zLl zLm zLn zLo zLp zLq zLr zLs zK5 zK6 b11 b18 b23=>K (.exit 0) (zjZ p14 b4 zL1 zL2 zL3 zL4 zL5 zL6 zL7 zL8 zL9 zMa zLt zLu zLv zLw zLx zLy zLz zLA zLB zLC zLD zLE zLF zLG zLH zLI zLJ zLK zLL zLM zLN zLO zLP zLQ zK1 zK2 zK3 zK4 zLV zLW zLX zLY zLZ zL0 zK7 zK8 zK9 zLa zLb zLc zLd zLe zLf zLg zLh zLi zLj zLk zLl zLm zLn zLo zLp zLq zLr zLs zK5 zK6 b11 b18 b23)) n p13 p14 p15 b4 zL1 zL2 zL3 zL4 zL5 zL6 zL7 zL8 zL9 zMa zLt zLu zLv zLw zLx zLy zLz zLA zLB zLC zLD zLE zLF zLG zLH zLI zLJ zLK zLL zLM zLN zLO zLP zLQ zK1 zK2 zK3 zK4 zLV zLW zLX zLY zLZ zL0 zK7 zK8 zK9 zLa zLb zLc zLd zLe zLf zLg zLh zLi zLj zLk zLl zLm zLn zLo zLp zLq zLr zLs zK5 zK6 b11 b18 b23:=by
 intro n
 induction n with
 | zero=>intros; rfl
 | succ n ih =>
  intro p13 p14 p15 b4 zL1 zL2 zL3 zL4 zL5 zL6 zL7 zL8 zL9 zMa zLt zLu zLv zLw zLx zLy zLz zLA zLB zLC zLD zLE zLF zLG zLH zLI zLJ zLK zLL zLM zLN zLO zLP zLQ zK1 zK2 zK3 zK4 zLV zLW zLX zLY zLZ zL0 zK7 zK8 zK9 zLa zLb zLc zLd zLe zLf zLg zLh zLi zLj zLk zLl zLm zLn zLo zLp zLq zLr zLs zK5 zK6 b11 b18 b23
  refine (znO yg xh zb zf xe yf L p13 p14 p15 b4 zL1 zL2 zL3 zL4 zL5 zL6 zL7 zL8 zL9 zMa zLt zLu zLv zLw zLx zLy zLz zLA zLB zLC zLD zLE zLF zLG zLH zLI zLJ zLK zLL zLM zLN zLO zLP zLQ zK1 zK2 zK3 zK4 zLV zLW zLX zLY zLZ zL0 zK7 zK8 zK9 zLa zLb zLc zLd zLe zLf zLg zLh zLi zLj zLk zLl zLm zLn zLo zLp zLq zLr zLs zK5 zK6 b11 b18 b23 (fun σ=>yF (xm yW (zW yg xh zb zf xe yf L) 0 L z7) zav n σ K) K).trans ?_
  simp only [ih]
  rfl
def zn0 {β:Type} (yg:zR) (xh:zZ) (zb:xu) (zf:yL) (xe:yR) (yf:xQ) (L:Nat) (p0 p1:List V) (p2:Int) (k_fin:List V→Bool→Option β):Option β :=
 zrP yg xh zb zf xe yf L p0 p1 p2 k_fin (fun p13 p14 p15 b4 zL1 zL2 zL3 zL4 zL5 zL6 zL7 zL8 zL9 zMa zLt zLu zLv zLw zLx zLy zLz zLA zLB zLC zLD zLE zLF zLG zLH zLI zLJ zLK zLL zLM zLN zLO zLP zLQ zK1 zK2 zK3 zK4 zLV zLW zLX zLY zLZ zL0 zK7 zK8 zK9 zLa zLb zLc zLd zLe zLf zLg zLh zLi zLj zLk zLl zLm zLn zLo zLp zLq zLr zLs zK5 zK6 b11 b18 b23=>zfo yg xh zb zf xe yf L (fun p14 b4 zL1 zL2 zL3 zL4 zL5 zL6 zL7 zL8 zL9 zMa zLt zLu zLv zLw zLx zLy zLz zLA zLB zLC zLD zLE zLF zLG zLH zLI zLJ zLK zLL zLM zLN zLO zLP zLQ zK1 zK2 zK3 zK4 zLV zLW zLX zLY zLZ zL0 zK7 zK8 zK9 zLa zLb zLc zLd zLe zLf zLg zLh zLi zLj zLk zLl zLm zLn zLo zLp zLq zLr zLs zK5 zK6 b11 b18 b23=>zhS yg xh zb zf xe yf L p14 b4 zL1 zL2 zL3 zL4 zL5 zL6 zL7 zL8 zL9 zMa zLt zLu zLv zLw zLx zLy zLz zLA zLB zLC zLD zLE zLF zLG zLH zLI zLJ zLK zLL zLM zLN zLO zLP zLQ zK1 zK2 zK3 zK4 zLV zLW zLX zLY zLZ zL0 zK7 zK8 zK9 zLa zLb zLc zLd zLe zLf zLg zLh zLi zLj zLk zLl zLm zLn zLo zLp zLq zLr zLs zK5 zK6 b11 b18 b23 k_fin) L p13 p14 p15 b4 zL1 zL2 zL3 zL4 zL5 zL6 zL7 zL8 zL9 zMa zLt zLu zLv zLw zLx zLy zLz zLA zLB zLC zLD zLE zLF zLG zLH zLI zLJ zLK zLL zLM zLN zLO zLP zLQ zK1 zK2 zK3 zK4 zLV zLW zLX zLY zLZ zL0 zK7 zK8 zK9 zLa zLb zLc zLd zLe zLf zLg zLh zLi zLj zLk zLl zLm zLn zLo zLp zLq zLr zLs zK5 zK6 b11 b18 b23) (fun p13 p14 p15 b4 zL1 zL2 zL3 zL4 zL5 zL6 zL7 zL8 zL9 zMa zLt zLu zLv zLw zLx zLy zLz zLA zLB zLC zLD zLE zLF zLG zLH zLI zLJ zLK zLL zLM zLN zLO zLP zLQ zK1 zK2 zK3 zK4 zLV zLW zLX zLY zLZ zL0 zK7 zK8 zK9 zLa zLb zLc zLd zLe zLf zLg zLh zLi zLj zLk zLl zLm zLn zLo zLp zLq zLr zLs zK5 zK6 b11 b18 b23=>zb3 yg xh zb zf xe yf L (fun p14 b4 zL1 zL2 zL3 zL4 zL5 zL6 zL7 zL8 zL9 zMa zLt zLu zLv zLw zLx zLy zLz zLA zLB zLC zLD zLE zLF zLG zLH zLI zLJ zLK zLL zLM zLN zLO zLP zLQ zK1 zK2 zK3 zK4 zLV zLW zLX zLY zLZ zL0 zK7 zK8 zK9 zLa zLb zLc zLd zLe zLf zLg zLh zLi zLj zLk zLl zLm zLn zLo zLp zLq zLr zLs zK5 zK6 b11 b18 b23=>zdz yg xh zb zf xe yf L p14 b4 zL1 zL2 zL3 zL4 zL5 zL6 zL7 zL8 zL9 zMa zLt zLu zLv zLw zLx zLy zLz zLA zLB zLC zLD zLE zLF zLG zLH zLI zLJ zLK zLL zLM zLN zLO zLP zLQ zK1 zK2 zK3 zK4 zLV zLW zLX zLY zLZ zL0 zK7 zK8 zK9 zLa zLb zLc zLd zLe zLf zLg zLh zLi zLj zLk zLl zLm zLn zLo zLp zLq zLr zLs zK5 zK6 b11 b18 b23 k_fin) L p13 p14 p15 b4 zL1 zL2 zL3 zL4 zL5 zL6 zL7 zL8 zL9 zMa zLt zLu zLv zLw zLx zLy zLz zLA zLB zLC zLD zLE zLF zLG zLH zLI zLJ zLK zLL zLM zLN zLO zLP zLQ zK1 zK2 zK3 zK4 zLV zLW zLX zLY zLZ zL0 zK7 zK8 zK9 zLa zLb zLc zLd zLe zLf zLg zLh zLi zLj zLk zLl zLm zLn zLo zLp zLq zLr zLs zK5 zK6 b11 b18 b23)
theorem zAe {β:Type} (yg:zR) (xh:zZ) (zb:xu) (zf:yL) (xe:yR) (yf:xQ) (L:Nat) (p0 p1:List V) (p2:Int) (k:KK β):xt yW (zW yg xh zb zf xe yf L) L zdc [(V.agg p0),(V.agg p1),(V.sc (.int .u32 p2))] [] k=zn0 yg xh zb zf xe yf L p0 p1 p2 (fun zMc zMd=>k (V.tup [(V.agg zMc),(V.sc (.bool zMd))]) []):=by
 refine (zBb yg xh zb zf xe yf L p0 p1 p2 k).trans ?_
 unfold zn0
 first
  | (simp only [zhE,zng,zgm,zlm]; done)
  | (simp only [zhE,zgm]; rfl)
abbrev zfB:=∀ (β:Type),Nat→List V→List V→Int→(List V→Bool→Option β)→Option β
def yC (β:Type) (L:Nat) (p0 p1:List V) (p2:Int) (k_fin:List V→Bool→Option β):Option β:=zn0 yg xh zb zf xe yf L p0 p1 p2 k_fin
def zjX (yC:zfB) (L:Nat) (β:Type) (args:List V) (bor:Bor) (k:KK β):Option β:=match args,bor with
 | [a0,a1,a2],[]=>aG a0 fun p0=>aG a1 fun p1=>aI .u32 a2 fun p2=>yC β L p0 p1 p2 (fun zMc zMd=>k (V.tup [(V.agg zMc),(V.sc (.bool zMd))]) [])
 | _,_=>none
theorem zzT (L:Nat) (β:Type) (args:List V) (bor:Bor) (k:KK β) (r:β) (h:zjX yC L β args bor k=some r):xt yW (zW yg xh zb zf xe yf L) L zdc args bor k=some r:=by
 unfold zjX at h
 split at h
 ·have q:=xZ h; clear h; obtain ⟨p0,rfl,h⟩:=q
  have q:=xZ h; clear h; obtain ⟨p1,rfl,h⟩:=q
  have q:=za5 h; clear h; obtain ⟨p2,rfl,h⟩:=q
  exact (zAe yg xh zb zf xe yf L p0 p1 p2 k).trans h
 ·cases h
def zl0:CF:=⟨81,[.cellS 4 34 true,.tmpP 5],
 (.seq (.reg [oo 2 (.box true (tq 0)),
   oo 3 (.box true (tq 1)),
   oo 4 (.alloc false (rp 32 (.sc (.int .u8 0)) (rp 2 (.gs 5 []) []))),
   oo 5 (.move (.const (.sc (.int .i64 0))) false)])
 (.seq (.seq (.reg [oo 13 (.load true 34 (tq 2) false),
   oo 14 (.call 281 [((tq 13),1)] []),
   oo 15 (.un .not (tq 14))])
 (.cond (tq 15)
 (.seq (.reg [oo 16 (.build (rp 32 (.sc (.int .u8 0)) (rp 2 (.sl 5 []) [])) []),
   oz (.store 34 (tq 4) (tq 16)),
   oo 5 (.move (.const (.sc (.int .i64 6))) false)])
 .ret)
 .skip))
 (.seq (.reg [oo 17 (.fieldAddr 32 (tq 2)),
   oo 18 (.load false 1 (tq 17) false),
   oo 19 (.load true 3 (tq 3) false),
   oo 20 (.call 287 [((tq 18),2),((tq 19),2)] []),
   oo 6 (.move (tq 20) false)])
 (.seq (.seq (.reg [oo 21 (.move (tq 6) false),
   oo 22 (.bin .lss (tq 21) (.const (.sc (.int .i64 0))))])
 (.cond (tq 22)
 (.seq (.reg [oo 23 (.build (rp 32 (.sc (.int .u8 0)) (rp 2 (.sl 5 []) [])) []),
   oz (.store 34 (tq 4) (tq 23)),
   oo 5 (.move (.const (.sc (.int .i64 9))) false)])
 .ret)
 .skip))
 (.seq (.reg [oo 24 (.load true 34 (tq 2) false),
   oo 25 (.call 288 [((tq 24),1)] [15,17]),
   oo 7 (.alloc false (rp 32 (.sc (.int .u8 0)) (rp 2 (.gs 5 []) []))),
   oz (.store 34 (tq 7) (tq 25))])
 (.seq (.reg [oo 26 (.fieldAddr 32 (tq 7)),
   oo 27 (.load false 1 (tq 26) false),
   oo 28 (.move (tq 6) false),
   oo 29 (.indexAddrS 5 (tq 27) (tq 28)),
   oo 30 (.load true 5 (tq 29) false),
   oo 8 (.alloc true [(.sc (.int .i64 0)),(.sc (.int .u32 0)),(.sc (.int .u16 0)),(.sc (.int .u32 0)),(.sc (.int .u32 0))]),
   oz (.store 5 (tq 8) (tq 30))])
 (.seq (.reg [oo 31 (.fieldAddr 32 (tq 7)),
   oo 32 (.load false 1 (tq 31) false),
   oo 33 (.move (tq 6) false),
   oo 34 (.call 289 [((tq 32),0),((tq 33),0)] []),
   oo 35 (.fieldAddr 32 (tq 7)),
   oz (.store 1 (tq 35) (tq 34))])
 (.seq (.reg [oo 36 (.fieldAddr 0 (tq 2)),
   oo 37 (.load true 32 (tq 36) false),
   oo 38 (.fieldAddr 1 (tq 8)),
   oo 39 (.load true 3 (tq 38) false),
   oo 40 (.call 290 [((tq 37),0),((tq 39),0)] []),
   oo 41 (.fieldAddr 0 (tq 8)),
   oz (.store 1 (tq 41) (tq 40))])
 (.seq (.reg [oo 43 (.fieldAddr 33 (tq 7)),
   oo 44 (.load false 1 (tq 43) false),
   oo 45 (.fieldAddr 0 (tq 8)),
   oo 46 (.load false 1 (tq 45) false),
   oo 47 (.call 291 [((tq 44),0),((tq 46),0)] []),
   oo 42 (.move (tq 47) true),
   oo 48 (.pull (tq 42) 0),
   oo 49 (.pull (tq 42) 1),
   oo 9 (.move (tq 48) false),
   oo 10 (.move (tq 49) false)])
 (.seq (.reg [oo 11 (.alloc true [(.sc (.int .u32 0)),(.sc (.int .u16 0)),(.sc (.int .u32 0))])])
 (.seq (.reg [oo 50 (.move (tq 10) false),
   oo 51 (.move (tq 9) false),
   oo 52 (.bin .sub (tq 50) (tq 51)),
   oo 53 (.bin .geq (tq 52) (.const (.sc (.int .i64 8)))),
   oo 12 (.move (tq 53) false)])
 (.seq (.seq (.reg [oo 54 (.move (tq 12) false)])
 (.cond (tq 54)
 (.seq (.reg [oo 55 (.fieldAddr 33 (tq 7)),
   oo 56 (.load false 1 (tq 55) false),
   oo 57 (.move (tq 9) false),
   oo 58 (.indexAddrS 5 (tq 56) (tq 57)),
   oo 59 (.fieldAddr 1 (tq 58)),
   oo 60 (.load true 3 (tq 59) false),
   oz (.store 3 (tq 11) (tq 60))])
 (.reg [oo 61 (.fieldAddr 33 (tq 7)),
   oo 62 (.load false 1 (tq 61) false),
   oo 63 (.move (tq 9) false),
   oo 64 (.call 289 [((tq 62),0),((tq 63),0)] []),
   oo 65 (.fieldAddr 33 (tq 7)),
   oz (.store 1 (tq 65) (tq 64))]))
 .skip))
 (.seq (.reg [oo 66 (.fieldAddr 33 (tq 7)),
   oo 67 (.load false 1 (tq 66) false),
   oo 68 (.load true 5 (tq 8) false),
   oo 69 (.call 292 [((tq 67),0),((tq 68),0)] []),
   oo 70 (.fieldAddr 33 (tq 7)),
   oz (.store 1 (tq 70) (tq 69))])
 (.seq (.seq (.reg [oo 71 (.move (tq 12) false)])
 (.cond (tq 71)
 (.dreg [] [(oo 73 (.load true 34 (tq 7) false),ql 7 [11] []),
   (oo 74 (.load true 3 (tq 11) false),ql 11 [7] []),
   (oo 75 (.load true 3 (tq 11) false),ql 11 [7] []),
   (oo 76 (.call 294 [((tq 75),0)] []),qc [7,11] []),
   (oo 77 (.call 293 [((tq 73),1),((tq 74),0),((tq 76),0)] []),q0),
   (oo 72 (.move (tq 77) true),q0),
   (oo 78 (.pull (tq 72) 0),q0),
   (oo 79 (.pull (tq 72) 1),q0),
   (oz (.store 34 (tq 7) (tq 78)),q0)])
 .skip))
 (.seq (.reg [oo 80 (.load true 34 (tq 7) true),
   oz (.store 34 (tq 4) (tq 80)),
   oo 5 (.move (.const (.sc (.int .i64 0))) false)])
 .ret)))))))))))))))⟩
def zs1:Hint:=⟨[(0,0),(3,3),(10,5),(18,5),(19,0)],[],[none,none,none,none,none,none,none],[],[(6,1,[15,17])],true,true⟩
def zp8:Nat→Sh:=xP [(18,(.sl 5)),(46,(.int .i64)),(78,(.row [(.int .u8),(.int .u8),(.int .u8),(.int .u8),(.int .u8),(.int .u8),(.int .u8),(.int .u8),(.int .u8),(.int .u8),(.int .u8),(.int .u8),(.int .u8),(.int .u8),(.int .u8),(.int .u8),(.int .u8),(.int .u8),(.int .u8),(.int .u8),(.int .u8),(.int .u8),(.int .u8),(.int .u8),(.int .u8),(.int .u8),(.int .u8),(.int .u8),(.int .u8),(.int .u8),(.int .u8),(.int .u8),(.sl 5),(.sl 5)]))]
def zp5 (xw:za8) (ye:xJ) (yg:zR) (yf:xQ) (xf:xL) (zf:yL) (xe:yR) (yk:zap) (yC:zfB) (L:Nat):CBC:=(zx 293 (zjX yC L) (zx 294 (ze1 yk L) (zx 292 (zhI xe L) (zx 291 (zfx zf L) (zx 290 (zd7 xf L) (zx 289 (zhD yf L) (zx 288 (zhB yg L) (zx 287 (zhs ye L) (zx 281 (zgk xw L) noC)))))))))
def zr0 {β:Type} (xw:za8) (ye:xJ) (yg:zR) (yf:xQ) (xf:xL) (zf:yL) (xe:yR) (yk:zap) (yC:zfB) (L:Nat) (p0 p1:List V) (k_fin:List V→Int→Option β):Option β :=
 chk (0+34≤(List.length p0)) (
 xw β L (List.map V.dem (List.take 34 p0)) (fun v0 =>
 ifb (!v0) (
 k_fin (List.replicate 32 (V.sc (.int .u8 (0:Int)))++[(V.sl 5 ([]:List (List V))),(V.sl 5 ([]:List (List V)))]) (6:Int)) (
 cLd 5 p0 32 fun v1 =>
 chk (0+3≤(List.length p1)) (
 ye β L v1 (List.take 3 p1) (fun v2 =>
 ifb (decide (v2 < (0:Int))) (
 k_fin (List.replicate 32 (V.sc (.int .u8 (0:Int)))++[(V.sl 5 ([]:List (List V))),(V.sl 5 ([]:List (List V)))]) (9:Int)) (
 chk (0+34≤(List.length p0)) (
 yg β L (List.map V.dem (List.take 34 p0)) (fun v3 v4 v5 v6 v7 v8 v9 v10 v11 v12 v13 v14 v15 v16 v17 v18 v19 v20 v21 v22 v23 v24 v25 v26 v27 v28 v29 v30 v31 v32 v33 v34 v35 v36 v37 v38 =>
 chk (0≤v2∧v2 < ((v35:Nat):Int)) (
 chk ((0+((Int.toNat v2) * 5))+5≤(List.length v37)) (
 chk ((List.length (List.take 5 (List.drop (0+((Int.toNat v2) * 5)) v37)))=5∧0+5≤5) (
 lt (zh [(V.sc (.int .i64 (0:Int))),(V.sc (.int .u32 (0:Int))),(V.sc (.int .u16 (0:Int))),(V.sc (.int .u32 (0:Int))),(V.sc (.int .u32 (0:Int)))] 0 (List.take 5 (List.drop (0+((Int.toNat v2) * 5)) v37))) fun r39 =>
 ifb (List.isEmpty v37) (
 yf β L (zl 5 v35 v37) v2 (fun v40 =>
 chk (0+32≤(List.length p0)) (
 chk (1+3≤(List.length r39)) (
 xf β L (List.take 32 p0) (List.take 3 (List.drop 1 r39)) (fun v41 =>
 chk (1=1∧0+1≤(List.length r39)) (
 lt (zh r39 0 [(V.sc (.int .i64 v41))]) fun r42 =>
 cI .i64 r42 0 fun v43 =>
 ifb (List.isEmpty v38) (
 zf β L (zl 5 v36 v38) v43 (fun v44 v45 =>
 lt (IntKind.wrap .i64 ((v45:Int) - v44)) fun x46 =>
 ifb (decide (x46 ≥ (8:Int))) (
 chk (0≤v44∧v44 < ((v36:Nat):Int)) (
 chk (((0+((Int.toNat v44) * 5))+1)+3≤(List.length v38)) (
 chk ((List.length (List.take 3 (List.drop ((0+((Int.toNat v44) * 5))+1) v38)))=3∧0+3≤3) (
 lt (zh [(V.sc (.int .u32 (0:Int))),(V.sc (.int .u16 (0:Int))),(V.sc (.int .u32 (0:Int)))] 0 (List.take 3 (List.drop ((0+((Int.toNat v44) * 5))+1) v38))) fun r47 =>
 ifb (List.isEmpty v38) (
 yf β L (zl 5 v36 v38) v44 (fun v48 =>
 chk (0+5≤(List.length r42)) (
 xe β L v48 (List.take 5 r42) (fun v49 =>
 ifb (decide (x46 ≥ (8:Int))) (
 chk (0+3≤(List.length r47)) (
 chk (0+3≤(List.length r47)) (
 yk β L (List.take 3 r47) (fun v50 =>
 yC β L [(V.sc (.int .u8 v3)),(V.sc (.int .u8 v4)),(V.sc (.int .u8 v5)),(V.sc (.int .u8 v6)),(V.sc (.int .u8 v7)),(V.sc (.int .u8 v8)),(V.sc (.int .u8 v9)),(V.sc (.int .u8 v10)),(V.sc (.int .u8 v11)),(V.sc (.int .u8 v12)),(V.sc (.int .u8 v13)),(V.sc (.int .u8 v14)),(V.sc (.int .u8 v15)),(V.sc (.int .u8 v16)),(V.sc (.int .u8 v17)),(V.sc (.int .u8 v18)),(V.sc (.int .u8 v19)),(V.sc (.int .u8 v20)),(V.sc (.int .u8 v21)),(V.sc (.int .u8 v22)),(V.sc (.int .u8 v23)),(V.sc (.int .u8 v24)),(V.sc (.int .u8 v25)),(V.sc (.int .u8 v26)),(V.sc (.int .u8 v27)),(V.sc (.int .u8 v28)),(V.sc (.int .u8 v29)),(V.sc (.int .u8 v30)),(V.sc (.int .u8 v31)),(V.sc (.int .u8 v32)),(V.sc (.int .u8 v33)),(V.sc (.int .u8 v34)),(V.sl 5 v40),(V.sl 5 v49)] (List.take 3 r47) v50 (fun v51 v52 =>
 chk (List.length v51=34) (
 cI .u8 v51 0 fun v53 =>
 cI .u8 v51 1 fun v54 =>
 cI .u8 v51 2 fun v55 =>
 cI .u8 v51 3 fun v56 =>
 cI .u8 v51 4 fun v57 =>
 cI .u8 v51 5 fun v58 =>
 cI .u8 v51 6 fun v59 =>
 cI .u8 v51 7 fun v60 =>
 cI .u8 v51 8 fun v61 =>
 cI .u8 v51 9 fun v62 =>
 cI .u8 v51 10 fun v63 =>
 cI .u8 v51 11 fun v64 =>
 cI .u8 v51 12 fun v65 =>
 cI .u8 v51 13 fun v66 =>
 cI .u8 v51 14 fun v67 =>
 cI .u8 v51 15 fun v68 =>
 cI .u8 v51 16 fun v69 =>
 cI .u8 v51 17 fun v70 =>
 cI .u8 v51 18 fun v71 =>
 cI .u8 v51 19 fun v72 =>
 cI .u8 v51 20 fun v73 =>
 cI .u8 v51 21 fun v74 =>
 cI .u8 v51 22 fun v75 =>
 cI .u8 v51 23 fun v76 =>
 cI .u8 v51 24 fun v77 =>
 cI .u8 v51 25 fun v78 =>
 cI .u8 v51 26 fun v79 =>
 cI .u8 v51 27 fun v80 =>
 cI .u8 v51 28 fun v81 =>
 cI .u8 v51 29 fun v82 =>
 cI .u8 v51 30 fun v83 =>
 cI .u8 v51 31 fun v84 =>
 cL 5 v51 32 fun v85 =>
 cL 5 v51 33 fun v86 =>
 k_fin [(V.sc (.int .u8 v53)),(V.sc (.int .u8 v54)),(V.sc (.int .u8 v55)),(V.sc (.int .u8 v56)),(V.sc (.int .u8 v57)),(V.sc (.int .u8 v58)),(V.sc (.int .u8 v59)),(V.sc (.int .u8 v60)),(V.sc (.int .u8 v61)),(V.sc (.int .u8 v62)),(V.sc (.int .u8 v63)),(V.sc (.int .u8 v64)),(V.sc (.int .u8 v65)),(V.sc (.int .u8 v66)),(V.sc (.int .u8 v67)),(V.sc (.int .u8 v68)),(V.sc (.int .u8 v69)),(V.sc (.int .u8 v70)),(V.sc (.int .u8 v71)),(V.sc (.int .u8 v72)),(V.sc (.int .u8 v73)),(V.sc (.int .u8 v74)),(V.sc (.int .u8 v75)),(V.sc (.int .u8 v76)),(V.sc (.int .u8 v77)),(V.sc (.int .u8 v78)),(V.sc (.int .u8 v79)),(V.sc (.int .u8 v80)),(V.sc (.int .u8 v81)),(V.sc (.int .u8 v82)),(V.sc (.int .u8 v83)),(V.sc (.int .u8 v84)),(V.sl 5 v85),(V.sl 5 v86)] (0:Int))))))) (
 k_fin [(V.sc (.int .u8 v3)),(V.sc (.int .u8 v4)),(V.sc (.int .u8 v5)),(V.sc (.int .u8 v6)),(V.sc (.int .u8 v7)),(V.sc (.int .u8 v8)),(V.sc (.int .u8 v9)),(V.sc (.int .u8 v10)),(V.sc (.int .u8 v11)),(V.sc (.int .u8 v12)),(V.sc (.int .u8 v13)),(V.sc (.int .u8 v14)),(V.sc (.int .u8 v15)),(V.sc (.int .u8 v16)),(V.sc (.int .u8 v17)),(V.sc (.int .u8 v18)),(V.sc (.int .u8 v19)),(V.sc (.int .u8 v20)),(V.sc (.int .u8 v21)),(V.sc (.int .u8 v22)),(V.sc (.int .u8 v23)),(V.sc (.int .u8 v24)),(V.sc (.int .u8 v25)),(V.sc (.int .u8 v26)),(V.sc (.int .u8 v27)),(V.sc (.int .u8 v28)),(V.sc (.int .u8 v29)),(V.sc (.int .u8 v30)),(V.sc (.int .u8 v31)),(V.sc (.int .u8 v32)),(V.sc (.int .u8 v33)),(V.sc (.int .u8 v34)),(V.sl 5 v40),(V.sl 5 v49)] (0:Int)))))) (
 yf β L (zl 5 v36 v38) v44 (fun v87 =>
 chk (0+5≤(List.length r42)) (
 xe β L v87 (List.take 5 r42) (fun v88 =>
 ifb (decide (x46 ≥ (8:Int))) (
 chk (0+3≤(List.length r47)) (
 chk (0+3≤(List.length r47)) (
 yk β L (List.take 3 r47) (fun v89 =>
 yC β L [(V.sc (.int .u8 v3)),(V.sc (.int .u8 v4)),(V.sc (.int .u8 v5)),(V.sc (.int .u8 v6)),(V.sc (.int .u8 v7)),(V.sc (.int .u8 v8)),(V.sc (.int .u8 v9)),(V.sc (.int .u8 v10)),(V.sc (.int .u8 v11)),(V.sc (.int .u8 v12)),(V.sc (.int .u8 v13)),(V.sc (.int .u8 v14)),(V.sc (.int .u8 v15)),(V.sc (.int .u8 v16)),(V.sc (.int .u8 v17)),(V.sc (.int .u8 v18)),(V.sc (.int .u8 v19)),(V.sc (.int .u8 v20)),(V.sc (.int .u8 v21)),(V.sc (.int .u8 v22)),(V.sc (.int .u8 v23)),(V.sc (.int .u8 v24)),(V.sc (.int .u8 v25)),(V.sc (.int .u8 v26)),(V.sc (.int .u8 v27)),(V.sc (.int .u8 v28)),(V.sc (.int .u8 v29)),(V.sc (.int .u8 v30)),(V.sc (.int .u8 v31)),(V.sc (.int .u8 v32)),(V.sc (.int .u8 v33)),(V.sc (.int .u8 v34)),(V.sl 5 v40),(V.sl 5 v88)] (List.take 3 r47) v89 (fun v90 v91 =>
 chk (List.length v90=34) (
 cI .u8 v90 0 fun v92 =>
 cI .u8 v90 1 fun v93 =>
 cI .u8 v90 2 fun v94 =>
 cI .u8 v90 3 fun v95 =>
 cI .u8 v90 4 fun v96 =>
 cI .u8 v90 5 fun v97 =>
 cI .u8 v90 6 fun v98 =>
 cI .u8 v90 7 fun v99 =>
 cI .u8 v90 8 fun zNk =>
 cI .u8 v90 9 fun zNl =>
 cI .u8 v90 10 fun zNm =>
 cI .u8 v90 11 fun zNn =>
 cI .u8 v90 12 fun zNo =>
 cI .u8 v90 13 fun zNp =>
 cI .u8 v90 14 fun zNq =>
 cI .u8 v90 15 fun zNr =>
 cI .u8 v90 16 fun zNs =>
 cI .u8 v90 17 fun zNt =>
 cI .u8 v90 18 fun zNu =>
 cI .u8 v90 19 fun zNv =>
 cI .u8 v90 20 fun zNw =>
 cI .u8 v90 21 fun zNx =>
 cI .u8 v90 22 fun zNy =>
 cI .u8 v90 23 fun zNz =>
 cI .u8 v90 24 fun zNA =>
 cI .u8 v90 25 fun zNB =>
 cI .u8 v90 26 fun zNC =>
 cI .u8 v90 27 fun zND =>
 cI .u8 v90 28 fun zNE =>
 cI .u8 v90 29 fun zNF =>
 cI .u8 v90 30 fun zNG =>
 cI .u8 v90 31 fun zNH =>
 cL 5 v90 32 fun zNI =>
 cL 5 v90 33 fun zNJ =>
 k_fin [(V.sc (.int .u8 v92)),(V.sc (.int .u8 v93)),(V.sc (.int .u8 v94)),(V.sc (.int .u8 v95)),(V.sc (.int .u8 v96)),(V.sc (.int .u8 v97)),(V.sc (.int .u8 v98)),(V.sc (.int .u8 v99)),(V.sc (.int .u8 zNk)),(V.sc (.int .u8 zNl)),(V.sc (.int .u8 zNm)),(V.sc (.int .u8 zNn)),(V.sc (.int .u8 zNo)),(V.sc (.int .u8 zNp)),(V.sc (.int .u8 zNq)),(V.sc (.int .u8 zNr)),(V.sc (.int .u8 zNs)),(V.sc (.int .u8 zNt)),(V.sc (.int .u8 zNu)),(V.sc (.int .u8 zNv)),(V.sc (.int .u8 zNw)),(V.sc (.int .u8 zNx)),(V.sc (.int .u8 zNy)),(V.sc (.int .u8 zNz)),(V.sc (.int .u8 zNA)),(V.sc (.int .u8 zNB)),(V.sc (.int .u8 zNC)),(V.sc (.int .u8 zND)),(V.sc (.int .u8 zNE)),(V.sc (.int .u8 zNF)),(V.sc (.int .u8 zNG)),(V.sc (.int .u8 zNH)),(V.sl 5 zNI),(V.sl 5 zNJ)] (0:Int))))))) (
 k_fin [(V.sc (.int .u8 v3)),(V.sc (.int .u8 v4)),(V.sc (.int .u8 v5)),(V.sc (.int .u8 v6)),(V.sc (.int .u8 v7)),(V.sc (.int .u8 v8)),(V.sc (.int .u8 v9)),(V.sc (.int .u8 v10)),(V.sc (.int .u8 v11)),(V.sc (.int .u8 v12)),(V.sc (.int .u8 v13)),(V.sc (.int .u8 v14)),(V.sc (.int .u8 v15)),(V.sc (.int .u8 v16)),(V.sc (.int .u8 v17)),(V.sc (.int .u8 v18)),(V.sc (.int .u8 v19)),(V.sc (.int .u8 v20)),(V.sc (.int .u8 v21)),(V.sc (.int .u8 v22)),(V.sc (.int .u8 v23)),(V.sc (.int .u8 v24)),(V.sc (.int .u8 v25)),(V.sc (.int .u8 v26)),(V.sc (.int .u8 v27)),(V.sc (.int .u8 v28)),(V.sc (.int .u8 v29)),(V.sc (.int .u8 v30)),(V.sc (.int .u8 v31)),(V.sc (.int .u8 v32)),(V.sc (.int .u8 v33)),(V.sc (.int .u8 v34)),(V.sl 5 v40),(V.sl 5 v88)] (0:Int)))))))))) (
 chk (0+5≤(List.length r42)) (
 ifb (List.isEmpty v38) (
 xe β L (zl 5 v36 v38) (List.take 5 r42) (fun zM9 =>
 ifb (decide (x46 ≥ (8:Int))) (
 yk β L [(V.sc (.int .u32 (0:Int))),(V.sc (.int .u16 (0:Int))),(V.sc (.int .u32 (0:Int)))] (fun zNK =>
 yC β L [(V.sc (.int .u8 v3)),(V.sc (.int .u8 v4)),(V.sc (.int .u8 v5)),(V.sc (.int .u8 v6)),(V.sc (.int .u8 v7)),(V.sc (.int .u8 v8)),(V.sc (.int .u8 v9)),(V.sc (.int .u8 v10)),(V.sc (.int .u8 v11)),(V.sc (.int .u8 v12)),(V.sc (.int .u8 v13)),(V.sc (.int .u8 v14)),(V.sc (.int .u8 v15)),(V.sc (.int .u8 v16)),(V.sc (.int .u8 v17)),(V.sc (.int .u8 v18)),(V.sc (.int .u8 v19)),(V.sc (.int .u8 v20)),(V.sc (.int .u8 v21)),(V.sc (.int .u8 v22)),(V.sc (.int .u8 v23)),(V.sc (.int .u8 v24)),(V.sc (.int .u8 v25)),(V.sc (.int .u8 v26)),(V.sc (.int .u8 v27)),(V.sc (.int .u8 v28)),(V.sc (.int .u8 v29)),(V.sc (.int .u8 v30)),(V.sc (.int .u8 v31)),(V.sc (.int .u8 v32)),(V.sc (.int .u8 v33)),(V.sc (.int .u8 v34)),(V.sl 5 v40),(V.sl 5 zM9)] [(V.sc (.int .u32 (0:Int))),(V.sc (.int .u16 (0:Int))),(V.sc (.int .u32 (0:Int)))] zNK (fun zMi zTw =>
 chk (List.length zMi=34) (
 cI .u8 zMi 0 fun zNL =>
 cI .u8 zMi 1 fun zNM =>
 cI .u8 zMi 2 fun zNN =>
 cI .u8 zMi 3 fun zNO =>
 cI .u8 zMi 4 fun zNP =>
 cI .u8 zMi 5 fun zNQ =>
 cI .u8 zMi 6 fun zNR =>
 cI .u8 zMi 7 fun zNS =>
 cI .u8 zMi 8 fun zNT =>
 cI .u8 zMi 9 fun zNU =>
 cI .u8 zMi 10 fun zNV =>
 cI .u8 zMi 11 fun zNW =>
 cI .u8 zMi 12 fun zNX =>
 cI .u8 zMi 13 fun zNY =>
 cI .u8 zMi 14 fun zNZ =>
 cI .u8 zMi 15 fun zN0 =>
 cI .u8 zMi 16 fun zN1 =>
 cI .u8 zMi 17 fun zN2 =>
 cI .u8 zMi 18 fun zN3 =>
 cI .u8 zMi 19 fun zN4 =>
 cI .u8 zMi 20 fun zN5 =>
 cI .u8 zMi 21 fun zN6 =>
 cI .u8 zMi 22 fun zN7 =>
 cI .u8 zMi 23 fun zN8 =>
 cI .u8 zMi 24 fun zN9 =>
 cI .u8 zMi 25 fun zOa =>
 cI .u8 zMi 26 fun zOb =>
 cI .u8 zMi 27 fun zOc =>
 cI .u8 zMi 28 fun zOd =>
 cI .u8 zMi 29 fun zOe =>
 cI .u8 zMi 30 fun zOf =>
 cI .u8 zMi 31 fun zOg =>
 cL 5 zMi 32 fun zOh =>
 cL 5 zMi 33 fun zOi =>
 k_fin [(V.sc (.int .u8 zNL)),(V.sc (.int .u8 zNM)),(V.sc (.int .u8 zNN)),(V.sc (.int .u8 zNO)),(V.sc (.int .u8 zNP)),(V.sc (.int .u8 zNQ)),(V.sc (.int .u8 zNR)),(V.sc (.int .u8 zNS)),(V.sc (.int .u8 zNT)),(V.sc (.int .u8 zNU)),(V.sc (.int .u8 zNV)),(V.sc (.int .u8 zNW)),(V.sc (.int .u8 zNX)),(V.sc (.int .u8 zNY)),(V.sc (.int .u8 zNZ)),(V.sc (.int .u8 zN0)),(V.sc (.int .u8 zN1)),(V.sc (.int .u8 zN2)),(V.sc (.int .u8 zN3)),(V.sc (.int .u8 zN4)),(V.sc (.int .u8 zN5)),(V.sc (.int .u8 zN6)),(V.sc (.int .u8 zN7)),(V.sc (.int .u8 zN8)),(V.sc (.int .u8 zN9)),(V.sc (.int .u8 zOa)),(V.sc (.int .u8 zOb)),(V.sc (.int .u8 zOc)),(V.sc (.int .u8 zOd)),(V.sc (.int .u8 zOe)),(V.sc (.int .u8 zOf)),(V.sc (.int .u8 zOg)),(V.sl 5 zOh),(V.sl 5 zOi)] (0:Int))))) (
 k_fin [(V.sc (.int .u8 v3)),(V.sc (.int .u8 v4)),(V.sc (.int .u8 v5)),(V.sc (.int .u8 v6)),(V.sc (.int .u8 v7)),(V.sc (.int .u8 v8)),(V.sc (.int .u8 v9)),(V.sc (.int .u8 v10)),(V.sc (.int .u8 v11)),(V.sc (.int .u8 v12)),(V.sc (.int .u8 v13)),(V.sc (.int .u8 v14)),(V.sc (.int .u8 v15)),(V.sc (.int .u8 v16)),(V.sc (.int .u8 v17)),(V.sc (.int .u8 v18)),(V.sc (.int .u8 v19)),(V.sc (.int .u8 v20)),(V.sc (.int .u8 v21)),(V.sc (.int .u8 v22)),(V.sc (.int .u8 v23)),(V.sc (.int .u8 v24)),(V.sc (.int .u8 v25)),(V.sc (.int .u8 v26)),(V.sc (.int .u8 v27)),(V.sc (.int .u8 v28)),(V.sc (.int .u8 v29)),(V.sc (.int .u8 v30)),(V.sc (.int .u8 v31)),(V.sc (.int .u8 v32)),(V.sc (.int .u8 v33)),(V.sc (.int .u8 v34)),(V.sl 5 v40),(V.sl 5 zM9)] (0:Int)))) (
 xe β L (zl 5 v36 v38) (List.take 5 r42) (fun zNa =>
 ifb (decide (x46 ≥ (8:Int))) (
 yk β L [(V.sc (.int .u32 (0:Int))),(V.sc (.int .u16 (0:Int))),(V.sc (.int .u32 (0:Int)))] (fun zOj =>
 yC β L [(V.sc (.int .u8 v3)),(V.sc (.int .u8 v4)),(V.sc (.int .u8 v5)),(V.sc (.int .u8 v6)),(V.sc (.int .u8 v7)),(V.sc (.int .u8 v8)),(V.sc (.int .u8 v9)),(V.sc (.int .u8 v10)),(V.sc (.int .u8 v11)),(V.sc (.int .u8 v12)),(V.sc (.int .u8 v13)),(V.sc (.int .u8 v14)),(V.sc (.int .u8 v15)),(V.sc (.int .u8 v16)),(V.sc (.int .u8 v17)),(V.sc (.int .u8 v18)),(V.sc (.int .u8 v19)),(V.sc (.int .u8 v20)),(V.sc (.int .u8 v21)),(V.sc (.int .u8 v22)),(V.sc (.int .u8 v23)),(V.sc (.int .u8 v24)),(V.sc (.int .u8 v25)),(V.sc (.int .u8 v26)),(V.sc (.int .u8 v27)),(V.sc (.int .u8 v28)),(V.sc (.int .u8 v29)),(V.sc (.int .u8 v30)),(V.sc (.int .u8 v31)),(V.sc (.int .u8 v32)),(V.sc (.int .u8 v33)),(V.sc (.int .u8 v34)),(V.sl 5 v40),(V.sl 5 zNa)] [(V.sc (.int .u32 (0:Int))),(V.sc (.int .u16 (0:Int))),(V.sc (.int .u32 (0:Int)))] zOj (fun zMj zTx =>
 chk (List.length zMj=34) (
 cI .u8 zMj 0 fun zOk =>
 cI .u8 zMj 1 fun zOl =>
 cI .u8 zMj 2 fun zOm =>
 cI .u8 zMj 3 fun zOn =>
 cI .u8 zMj 4 fun zOo =>
 cI .u8 zMj 5 fun zOp =>
 cI .u8 zMj 6 fun zOq =>
 cI .u8 zMj 7 fun zOr =>
 cI .u8 zMj 8 fun zOs =>
 cI .u8 zMj 9 fun zOt =>
 cI .u8 zMj 10 fun zOu =>
 cI .u8 zMj 11 fun zOv =>
 cI .u8 zMj 12 fun zOw =>
 cI .u8 zMj 13 fun zOx =>
 cI .u8 zMj 14 fun zOy =>
 cI .u8 zMj 15 fun zOz =>
 cI .u8 zMj 16 fun zOA =>
 cI .u8 zMj 17 fun zOB =>
 cI .u8 zMj 18 fun zOC =>
 cI .u8 zMj 19 fun zOD =>
 cI .u8 zMj 20 fun zOE =>
 cI .u8 zMj 21 fun zOF =>
 cI .u8 zMj 22 fun zOG =>
 cI .u8 zMj 23 fun zOH =>
 cI .u8 zMj 24 fun zOI =>
 cI .u8 zMj 25 fun zOJ =>
 cI .u8 zMj 26 fun zOK =>
 cI .u8 zMj 27 fun zOL =>
 cI .u8 zMj 28 fun zOM =>
 cI .u8 zMj 29 fun zON =>
 cI .u8 zMj 30 fun zOO =>
 cI .u8 zMj 31 fun zOP =>
 cL 5 zMj 32 fun zOQ =>
 cL 5 zMj 33 fun zOR =>
 k_fin [(V.sc (.int .u8 zOk)),(V.sc (.int .u8 zOl)),(V.sc (.int .u8 zOm)),(V.sc (.int .u8 zOn)),(V.sc (.int .u8 zOo)),(V.sc (.int .u8 zOp)),(V.sc (.int .u8 zOq)),(V.sc (.int .u8 zOr)),(V.sc (.int .u8 zOs)),(V.sc (.int .u8 zOt)),(V.sc (.int .u8 zOu)),(V.sc (.int .u8 zOv)),(V.sc (.int .u8 zOw)),(V.sc (.int .u8 zOx)),(V.sc (.int .u8 zOy)),(V.sc (.int .u8 zOz)),(V.sc (.int .u8 zOA)),(V.sc (.int .u8 zOB)),(V.sc (.int .u8 zOC)),(V.sc (.int .u8 zOD)),(V.sc (.int .u8 zOE)),(V.sc (.int .u8 zOF)),(V.sc (.int .u8 zOG)),(V.sc (.int .u8 zOH)),(V.sc (.int .u8 zOI)),(V.sc (.int .u8 zOJ)),(V.sc (.int .u8 zOK)),(V.sc (.int .u8 zOL)),(V.sc (.int .u8 zOM)),(V.sc (.int .u8 zON)),(V.sc (.int .u8 zOO)),(V.sc (.int .u8 zOP)),(V.sl 5 zOQ),(V.sl 5 zOR)] (0:Int))))) (
 k_fin [(V.sc (.int .u8 v3)),(V.sc (.int .u8 v4)),(V.sc (.int .u8 v5)),(V.sc (.int .u8 v6)),(V.sc (.int .u8 v7)),(V.sc (.int .u8 v8)),(V.sc (.int .u8 v9)),(V.sc (.int .u8 v10)),(V.sc (.int .u8 v11)),(V.sc (.int .u8 v12)),(V.sc (.int .u8 v13)),(V.sc (.int .u8 v14)),(V.sc (.int .u8 v15)),(V.sc (.int .u8 v16)),(V.sc (.int .u8 v17)),(V.sc (.int .u8 v18)),(V.sc (.int .u8 v19)),(V.sc (.int .u8 v20)),(V.sc (.int .u8 v21)),(V.sc (.int .u8 v22)),(V.sc (.int .u8 v23)),(V.sc (.int .u8 v24)),(V.sc (.int .u8 v25)),(V.sc (.int .u8 v26)),(V.sc (.int .u8 v27)),(V.sc (.int .u8 v28)),(V.sc (.int .u8 v29)),(V.sc (.int .u8 v30)),(V.sc (.int .u8 v31)),(V.sc (.int .u8 v32)),(V.sc (.int .u8 v33)),(V.sc (.int .u8 v34)),(V.sl 5 v40),(V.sl 5 zNa)] (0:Int)))))))) (
 zf β L (zl 5 v36 v38) v43 (fun zMx zOS =>
 lt (IntKind.wrap .i64 ((zOS:Int) - zMx)) fun zM7 =>
 ifb (decide (zM7 ≥ (8:Int))) (
 chk (0≤zMx∧zMx < ((v36:Nat):Int)) (
 chk (((0+((Int.toNat zMx) * 5))+1)+3≤(List.length v38)) (
 chk ((List.length (List.take 3 (List.drop ((0+((Int.toNat zMx) * 5))+1) v38)))=3∧0+3≤3) (
 lt (zh [(V.sc (.int .u32 (0:Int))),(V.sc (.int .u16 (0:Int))),(V.sc (.int .u32 (0:Int)))] 0 (List.take 3 (List.drop ((0+((Int.toNat zMx) * 5))+1) v38))) fun zMY =>
 yf β L (zl 5 v36 v38) zMx (fun zOT =>
 chk (0+5≤(List.length r42)) (
 xe β L zOT (List.take 5 r42) (fun zNb =>
 ifb (decide (zM7 ≥ (8:Int))) (
 chk (0+3≤(List.length zMY)) (
 chk (0+3≤(List.length zMY)) (
 yk β L (List.take 3 zMY) (fun zOU =>
 yC β L [(V.sc (.int .u8 v3)),(V.sc (.int .u8 v4)),(V.sc (.int .u8 v5)),(V.sc (.int .u8 v6)),(V.sc (.int .u8 v7)),(V.sc (.int .u8 v8)),(V.sc (.int .u8 v9)),(V.sc (.int .u8 v10)),(V.sc (.int .u8 v11)),(V.sc (.int .u8 v12)),(V.sc (.int .u8 v13)),(V.sc (.int .u8 v14)),(V.sc (.int .u8 v15)),(V.sc (.int .u8 v16)),(V.sc (.int .u8 v17)),(V.sc (.int .u8 v18)),(V.sc (.int .u8 v19)),(V.sc (.int .u8 v20)),(V.sc (.int .u8 v21)),(V.sc (.int .u8 v22)),(V.sc (.int .u8 v23)),(V.sc (.int .u8 v24)),(V.sc (.int .u8 v25)),(V.sc (.int .u8 v26)),(V.sc (.int .u8 v27)),(V.sc (.int .u8 v28)),(V.sc (.int .u8 v29)),(V.sc (.int .u8 v30)),(V.sc (.int .u8 v31)),(V.sc (.int .u8 v32)),(V.sc (.int .u8 v33)),(V.sc (.int .u8 v34)),(V.sl 5 v40),(V.sl 5 zNb)] (List.take 3 zMY) zOU (fun zMk zTy =>
 chk (List.length zMk=34) (
 cI .u8 zMk 0 fun zOV =>
 cI .u8 zMk 1 fun zOW =>
 cI .u8 zMk 2 fun zOX =>
 cI .u8 zMk 3 fun zOY =>
 cI .u8 zMk 4 fun zOZ =>
 cI .u8 zMk 5 fun zO0 =>
 cI .u8 zMk 6 fun zO1 =>
 cI .u8 zMk 7 fun zO2 =>
 cI .u8 zMk 8 fun zO3 =>
 cI .u8 zMk 9 fun zO4 =>
 cI .u8 zMk 10 fun zO5 =>
 cI .u8 zMk 11 fun zO6 =>
 cI .u8 zMk 12 fun zO7 =>
 cI .u8 zMk 13 fun zO8 =>
 cI .u8 zMk 14 fun zO9 =>
 cI .u8 zMk 15 fun zPa =>
 cI .u8 zMk 16 fun zPb =>
 cI .u8 zMk 17 fun zPc =>
 cI .u8 zMk 18 fun zPd =>
 cI .u8 zMk 19 fun zPe =>
 cI .u8 zMk 20 fun zPf =>
 cI .u8 zMk 21 fun zPg =>
 cI .u8 zMk 22 fun zPh =>
 cI .u8 zMk 23 fun zPi =>
 cI .u8 zMk 24 fun zPj =>
 cI .u8 zMk 25 fun zPk =>
 cI .u8 zMk 26 fun zPl =>
 cI .u8 zMk 27 fun zPm =>
 cI .u8 zMk 28 fun zPn =>
 cI .u8 zMk 29 fun zPo =>
 cI .u8 zMk 30 fun zPp =>
 cI .u8 zMk 31 fun zPq =>
 cL 5 zMk 32 fun zPr =>
 cL 5 zMk 33 fun zPs =>
 k_fin [(V.sc (.int .u8 zOV)),(V.sc (.int .u8 zOW)),(V.sc (.int .u8 zOX)),(V.sc (.int .u8 zOY)),(V.sc (.int .u8 zOZ)),(V.sc (.int .u8 zO0)),(V.sc (.int .u8 zO1)),(V.sc (.int .u8 zO2)),(V.sc (.int .u8 zO3)),(V.sc (.int .u8 zO4)),(V.sc (.int .u8 zO5)),(V.sc (.int .u8 zO6)),(V.sc (.int .u8 zO7)),(V.sc (.int .u8 zO8)),(V.sc (.int .u8 zO9)),(V.sc (.int .u8 zPa)),(V.sc (.int .u8 zPb)),(V.sc (.int .u8 zPc)),(V.sc (.int .u8 zPd)),(V.sc (.int .u8 zPe)),(V.sc (.int .u8 zPf)),(V.sc (.int .u8 zPg)),(V.sc (.int .u8 zPh)),(V.sc (.int .u8 zPi)),(V.sc (.int .u8 zPj)),(V.sc (.int .u8 zPk)),(V.sc (.int .u8 zPl)),(V.sc (.int .u8 zPm)),(V.sc (.int .u8 zPn)),(V.sc (.int .u8 zPo)),(V.sc (.int .u8 zPp)),(V.sc (.int .u8 zPq)),(V.sl 5 zPr),(V.sl 5 zPs)] (0:Int))))))) (
 k_fin [(V.sc (.int .u8 v3)),(V.sc (.int .u8 v4)),(V.sc (.int .u8 v5)),(V.sc (.int .u8 v6)),(V.sc (.int .u8 v7)),(V.sc (.int .u8 v8)),(V.sc (.int .u8 v9)),(V.sc (.int .u8 v10)),(V.sc (.int .u8 v11)),(V.sc (.int .u8 v12)),(V.sc (.int .u8 v13)),(V.sc (.int .u8 v14)),(V.sc (.int .u8 v15)),(V.sc (.int .u8 v16)),(V.sc (.int .u8 v17)),(V.sc (.int .u8 v18)),(V.sc (.int .u8 v19)),(V.sc (.int .u8 v20)),(V.sc (.int .u8 v21)),(V.sc (.int .u8 v22)),(V.sc (.int .u8 v23)),(V.sc (.int .u8 v24)),(V.sc (.int .u8 v25)),(V.sc (.int .u8 v26)),(V.sc (.int .u8 v27)),(V.sc (.int .u8 v28)),(V.sc (.int .u8 v29)),(V.sc (.int .u8 v30)),(V.sc (.int .u8 v31)),(V.sc (.int .u8 v32)),(V.sc (.int .u8 v33)),(V.sc (.int .u8 v34)),(V.sl 5 v40),(V.sl 5 zNb)] (0:Int))))))))) (
 chk (0+5≤(List.length r42)) (
 xe β L (zl 5 v36 v38) (List.take 5 r42) (fun zNc =>
 ifb (decide (zM7 ≥ (8:Int))) (
 yk β L [(V.sc (.int .u32 (0:Int))),(V.sc (.int .u16 (0:Int))),(V.sc (.int .u32 (0:Int)))] (fun zPt =>
 yC β L [(V.sc (.int .u8 v3)),(V.sc (.int .u8 v4)),(V.sc (.int .u8 v5)),(V.sc (.int .u8 v6)),(V.sc (.int .u8 v7)),(V.sc (.int .u8 v8)),(V.sc (.int .u8 v9)),(V.sc (.int .u8 v10)),(V.sc (.int .u8 v11)),(V.sc (.int .u8 v12)),(V.sc (.int .u8 v13)),(V.sc (.int .u8 v14)),(V.sc (.int .u8 v15)),(V.sc (.int .u8 v16)),(V.sc (.int .u8 v17)),(V.sc (.int .u8 v18)),(V.sc (.int .u8 v19)),(V.sc (.int .u8 v20)),(V.sc (.int .u8 v21)),(V.sc (.int .u8 v22)),(V.sc (.int .u8 v23)),(V.sc (.int .u8 v24)),(V.sc (.int .u8 v25)),(V.sc (.int .u8 v26)),(V.sc (.int .u8 v27)),(V.sc (.int .u8 v28)),(V.sc (.int .u8 v29)),(V.sc (.int .u8 v30)),(V.sc (.int .u8 v31)),(V.sc (.int .u8 v32)),(V.sc (.int .u8 v33)),(V.sc (.int .u8 v34)),(V.sl 5 v40),(V.sl 5 zNc)] [(V.sc (.int .u32 (0:Int))),(V.sc (.int .u16 (0:Int))),(V.sc (.int .u32 (0:Int)))] zPt (fun zMl zTz =>
 chk (List.length zMl=34) (
 cI .u8 zMl 0 fun zPu =>
 cI .u8 zMl 1 fun zPv =>
 cI .u8 zMl 2 fun zPw =>
 cI .u8 zMl 3 fun zPx =>
 cI .u8 zMl 4 fun zPy =>
 cI .u8 zMl 5 fun zPz =>
 cI .u8 zMl 6 fun zPA =>
 cI .u8 zMl 7 fun zPB =>
 cI .u8 zMl 8 fun zPC =>
 cI .u8 zMl 9 fun zPD =>
 cI .u8 zMl 10 fun zPE =>
 cI .u8 zMl 11 fun zPF =>
 cI .u8 zMl 12 fun zPG =>
 cI .u8 zMl 13 fun zPH =>
 cI .u8 zMl 14 fun zPI =>
 cI .u8 zMl 15 fun zPJ =>
 cI .u8 zMl 16 fun zPK =>
 cI .u8 zMl 17 fun zPL =>
 cI .u8 zMl 18 fun zPM =>
 cI .u8 zMl 19 fun zPN =>
 cI .u8 zMl 20 fun zPO =>
 cI .u8 zMl 21 fun zPP =>
 cI .u8 zMl 22 fun zPQ =>
 cI .u8 zMl 23 fun zPR =>
 cI .u8 zMl 24 fun zPS =>
 cI .u8 zMl 25 fun zPT =>
 cI .u8 zMl 26 fun zPU =>
 cI .u8 zMl 27 fun zPV =>
 cI .u8 zMl 28 fun zPW =>
 cI .u8 zMl 29 fun zPX =>
 cI .u8 zMl 30 fun zPY =>
 cI .u8 zMl 31 fun zPZ =>
 cL 5 zMl 32 fun zP0 =>
 cL 5 zMl 33 fun zP1 =>
 k_fin [(V.sc (.int .u8 zPu)),(V.sc (.int .u8 zPv)),(V.sc (.int .u8 zPw)),(V.sc (.int .u8 zPx)),(V.sc (.int .u8 zPy)),(V.sc (.int .u8 zPz)),(V.sc (.int .u8 zPA)),(V.sc (.int .u8 zPB)),(V.sc (.int .u8 zPC)),(V.sc (.int .u8 zPD)),(V.sc (.int .u8 zPE)),(V.sc (.int .u8 zPF)),(V.sc (.int .u8 zPG)),(V.sc (.int .u8 zPH)),(V.sc (.int .u8 zPI)),(V.sc (.int .u8 zPJ)),(V.sc (.int .u8 zPK)),(V.sc (.int .u8 zPL)),(V.sc (.int .u8 zPM)),(V.sc (.int .u8 zPN)),(V.sc (.int .u8 zPO)),(V.sc (.int .u8 zPP)),(V.sc (.int .u8 zPQ)),(V.sc (.int .u8 zPR)),(V.sc (.int .u8 zPS)),(V.sc (.int .u8 zPT)),(V.sc (.int .u8 zPU)),(V.sc (.int .u8 zPV)),(V.sc (.int .u8 zPW)),(V.sc (.int .u8 zPX)),(V.sc (.int .u8 zPY)),(V.sc (.int .u8 zPZ)),(V.sl 5 zP0),(V.sl 5 zP1)] (0:Int))))) (
 k_fin [(V.sc (.int .u8 v3)),(V.sc (.int .u8 v4)),(V.sc (.int .u8 v5)),(V.sc (.int .u8 v6)),(V.sc (.int .u8 v7)),(V.sc (.int .u8 v8)),(V.sc (.int .u8 v9)),(V.sc (.int .u8 v10)),(V.sc (.int .u8 v11)),(V.sc (.int .u8 v12)),(V.sc (.int .u8 v13)),(V.sc (.int .u8 v14)),(V.sc (.int .u8 v15)),(V.sc (.int .u8 v16)),(V.sc (.int .u8 v17)),(V.sc (.int .u8 v18)),(V.sc (.int .u8 v19)),(V.sc (.int .u8 v20)),(V.sc (.int .u8 v21)),(V.sc (.int .u8 v22)),(V.sc (.int .u8 v23)),(V.sc (.int .u8 v24)),(V.sc (.int .u8 v25)),(V.sc (.int .u8 v26)),(V.sc (.int .u8 v27)),(V.sc (.int .u8 v28)),(V.sc (.int .u8 v29)),(V.sc (.int .u8 v30)),(V.sc (.int .u8 v31)),(V.sc (.int .u8 v32)),(V.sc (.int .u8 v33)),(V.sc (.int .u8 v34)),(V.sl 5 v40),(V.sl 5 zNc)] (0:Int))))))))))))) (
 yf β L (zl 5 v35 v37) v2 (fun zMs =>
 chk (0+32≤(List.length p0)) (
 chk (1+3≤(List.length r39)) (
 xf β L (List.take 32 p0) (List.take 3 (List.drop 1 r39)) (fun zP2 =>
 chk (1=1∧0+1≤(List.length r39)) (
 lt (zh r39 0 [(V.sc (.int .i64 zP2))]) fun zMt =>
 cI .i64 zMt 0 fun zNd =>
 ifb (List.isEmpty v38) (
 zf β L (zl 5 v36 v38) zNd (fun zMu zP3 =>
 lt (IntKind.wrap .i64 ((zP3:Int) - zMu)) fun zMB =>
 ifb (decide (zMB ≥ (8:Int))) (
 chk (0≤zMu∧zMu < ((v36:Nat):Int)) (
 chk (((0+((Int.toNat zMu) * 5))+1)+3≤(List.length v38)) (
 chk ((List.length (List.take 3 (List.drop ((0+((Int.toNat zMu) * 5))+1) v38)))=3∧0+3≤3) (
 lt (zh [(V.sc (.int .u32 (0:Int))),(V.sc (.int .u16 (0:Int))),(V.sc (.int .u32 (0:Int)))] 0 (List.take 3 (List.drop ((0+((Int.toNat zMu) * 5))+1) v38))) fun zMv =>
 ifb (List.isEmpty v38) (
 yf β L (zl 5 v36 v38) zMu (fun zP4 =>
 chk (0+5≤(List.length zMt)) (
 xe β L zP4 (List.take 5 zMt) (fun zNe =>
 ifb (decide (zMB ≥ (8:Int))) (
 chk (0+3≤(List.length zMv)) (
 chk (0+3≤(List.length zMv)) (
 yk β L (List.take 3 zMv) (fun zP5 =>
 yC β L [(V.sc (.int .u8 v3)),(V.sc (.int .u8 v4)),(V.sc (.int .u8 v5)),(V.sc (.int .u8 v6)),(V.sc (.int .u8 v7)),(V.sc (.int .u8 v8)),(V.sc (.int .u8 v9)),(V.sc (.int .u8 v10)),(V.sc (.int .u8 v11)),(V.sc (.int .u8 v12)),(V.sc (.int .u8 v13)),(V.sc (.int .u8 v14)),(V.sc (.int .u8 v15)),(V.sc (.int .u8 v16)),(V.sc (.int .u8 v17)),(V.sc (.int .u8 v18)),(V.sc (.int .u8 v19)),(V.sc (.int .u8 v20)),(V.sc (.int .u8 v21)),(V.sc (.int .u8 v22)),(V.sc (.int .u8 v23)),(V.sc (.int .u8 v24)),(V.sc (.int .u8 v25)),(V.sc (.int .u8 v26)),(V.sc (.int .u8 v27)),(V.sc (.int .u8 v28)),(V.sc (.int .u8 v29)),(V.sc (.int .u8 v30)),(V.sc (.int .u8 v31)),(V.sc (.int .u8 v32)),(V.sc (.int .u8 v33)),(V.sc (.int .u8 v34)),(V.sl 5 zMs),(V.sl 5 zNe)] (List.take 3 zMv) zP5 (fun zMm zTA =>
 chk (List.length zMm=34) (
 cI .u8 zMm 0 fun zP6 =>
 cI .u8 zMm 1 fun zP7 =>
 cI .u8 zMm 2 fun zP8 =>
 cI .u8 zMm 3 fun zP9 =>
 cI .u8 zMm 4 fun zQa =>
 cI .u8 zMm 5 fun zQb =>
 cI .u8 zMm 6 fun zQc =>
 cI .u8 zMm 7 fun zQd =>
 cI .u8 zMm 8 fun zQe =>
 cI .u8 zMm 9 fun zQf =>
 cI .u8 zMm 10 fun zQg =>
 cI .u8 zMm 11 fun zQh =>
 cI .u8 zMm 12 fun zQi =>
 cI .u8 zMm 13 fun zQj =>
 cI .u8 zMm 14 fun zQk =>
 cI .u8 zMm 15 fun zQl =>
 cI .u8 zMm 16 fun zQm =>
 cI .u8 zMm 17 fun zQn =>
 cI .u8 zMm 18 fun zQo =>
 cI .u8 zMm 19 fun zQp =>
 cI .u8 zMm 20 fun zQq =>
 cI .u8 zMm 21 fun zQr =>
 cI .u8 zMm 22 fun zQs =>
 cI .u8 zMm 23 fun zQt =>
 cI .u8 zMm 24 fun zQu =>
 cI .u8 zMm 25 fun zQv =>
 cI .u8 zMm 26 fun zQw =>
 cI .u8 zMm 27 fun zQx =>
 cI .u8 zMm 28 fun zQy =>
 cI .u8 zMm 29 fun zQz =>
 cI .u8 zMm 30 fun zQA =>
 cI .u8 zMm 31 fun zQB =>
 cL 5 zMm 32 fun zQC =>
 cL 5 zMm 33 fun zQD =>
 k_fin [(V.sc (.int .u8 zP6)),(V.sc (.int .u8 zP7)),(V.sc (.int .u8 zP8)),(V.sc (.int .u8 zP9)),(V.sc (.int .u8 zQa)),(V.sc (.int .u8 zQb)),(V.sc (.int .u8 zQc)),(V.sc (.int .u8 zQd)),(V.sc (.int .u8 zQe)),(V.sc (.int .u8 zQf)),(V.sc (.int .u8 zQg)),(V.sc (.int .u8 zQh)),(V.sc (.int .u8 zQi)),(V.sc (.int .u8 zQj)),(V.sc (.int .u8 zQk)),(V.sc (.int .u8 zQl)),(V.sc (.int .u8 zQm)),(V.sc (.int .u8 zQn)),(V.sc (.int .u8 zQo)),(V.sc (.int .u8 zQp)),(V.sc (.int .u8 zQq)),(V.sc (.int .u8 zQr)),(V.sc (.int .u8 zQs)),(V.sc (.int .u8 zQt)),(V.sc (.int .u8 zQu)),(V.sc (.int .u8 zQv)),(V.sc (.int .u8 zQw)),(V.sc (.int .u8 zQx)),(V.sc (.int .u8 zQy)),(V.sc (.int .u8 zQz)),(V.sc (.int .u8 zQA)),(V.sc (.int .u8 zQB)),(V.sl 5 zQC),(V.sl 5 zQD)] (0:Int))))))) (
 k_fin [(V.sc (.int .u8 v3)),(V.sc (.int .u8 v4)),(V.sc (.int .u8 v5)),(V.sc (.int .u8 v6)),(V.sc (.int .u8 v7)),(V.sc (.int .u8 v8)),(V.sc (.int .u8 v9)),(V.sc (.int .u8 v10)),(V.sc (.int .u8 v11)),(V.sc (.int .u8 v12)),(V.sc (.int .u8 v13)),(V.sc (.int .u8 v14)),(V.sc (.int .u8 v15)),(V.sc (.int .u8 v16)),(V.sc (.int .u8 v17)),(V.sc (.int .u8 v18)),(V.sc (.int .u8 v19)),(V.sc (.int .u8 v20)),(V.sc (.int .u8 v21)),(V.sc (.int .u8 v22)),(V.sc (.int .u8 v23)),(V.sc (.int .u8 v24)),(V.sc (.int .u8 v25)),(V.sc (.int .u8 v26)),(V.sc (.int .u8 v27)),(V.sc (.int .u8 v28)),(V.sc (.int .u8 v29)),(V.sc (.int .u8 v30)),(V.sc (.int .u8 v31)),(V.sc (.int .u8 v32)),(V.sc (.int .u8 v33)),(V.sc (.int .u8 v34)),(V.sl 5 zMs),(V.sl 5 zNe)] (0:Int)))))) (
 yf β L (zl 5 v36 v38) zMu (fun zQE =>
 chk (0+5≤(List.length zMt)) (
 xe β L zQE (List.take 5 zMt) (fun zNf =>
 ifb (decide (zMB ≥ (8:Int))) (
 chk (0+3≤(List.length zMv)) (
 chk (0+3≤(List.length zMv)) (
 yk β L (List.take 3 zMv) (fun zQF =>
 yC β L [(V.sc (.int .u8 v3)),(V.sc (.int .u8 v4)),(V.sc (.int .u8 v5)),(V.sc (.int .u8 v6)),(V.sc (.int .u8 v7)),(V.sc (.int .u8 v8)),(V.sc (.int .u8 v9)),(V.sc (.int .u8 v10)),(V.sc (.int .u8 v11)),(V.sc (.int .u8 v12)),(V.sc (.int .u8 v13)),(V.sc (.int .u8 v14)),(V.sc (.int .u8 v15)),(V.sc (.int .u8 v16)),(V.sc (.int .u8 v17)),(V.sc (.int .u8 v18)),(V.sc (.int .u8 v19)),(V.sc (.int .u8 v20)),(V.sc (.int .u8 v21)),(V.sc (.int .u8 v22)),(V.sc (.int .u8 v23)),(V.sc (.int .u8 v24)),(V.sc (.int .u8 v25)),(V.sc (.int .u8 v26)),(V.sc (.int .u8 v27)),(V.sc (.int .u8 v28)),(V.sc (.int .u8 v29)),(V.sc (.int .u8 v30)),(V.sc (.int .u8 v31)),(V.sc (.int .u8 v32)),(V.sc (.int .u8 v33)),(V.sc (.int .u8 v34)),(V.sl 5 zMs),(V.sl 5 zNf)] (List.take 3 zMv) zQF (fun zMn zTB =>
 chk (List.length zMn=34) (
 cI .u8 zMn 0 fun zQG =>
 cI .u8 zMn 1 fun zQH =>
 cI .u8 zMn 2 fun zQI =>
 cI .u8 zMn 3 fun zQJ =>
 cI .u8 zMn 4 fun zQK =>
 cI .u8 zMn 5 fun zQL =>
 cI .u8 zMn 6 fun zQM =>
 cI .u8 zMn 7 fun zQN =>
 cI .u8 zMn 8 fun zQO =>
 cI .u8 zMn 9 fun zQP =>
 cI .u8 zMn 10 fun zQQ =>
 cI .u8 zMn 11 fun zQR =>
 cI .u8 zMn 12 fun zQS =>
 cI .u8 zMn 13 fun zQT =>
 cI .u8 zMn 14 fun zQU =>
 cI .u8 zMn 15 fun zQV =>
 cI .u8 zMn 16 fun zQW =>
 cI .u8 zMn 17 fun zQX =>
 cI .u8 zMn 18 fun zQY =>
 cI .u8 zMn 19 fun zQZ =>
 cI .u8 zMn 20 fun zQ0 =>
 cI .u8 zMn 21 fun zQ1 =>
 cI .u8 zMn 22 fun zQ2 =>
 cI .u8 zMn 23 fun zQ3 =>
 cI .u8 zMn 24 fun zQ4 =>
 cI .u8 zMn 25 fun zQ5 =>
 cI .u8 zMn 26 fun zQ6 =>
 cI .u8 zMn 27 fun zQ7 =>
 cI .u8 zMn 28 fun zQ8 =>
 cI .u8 zMn 29 fun zQ9 =>
 cI .u8 zMn 30 fun zRa =>
 cI .u8 zMn 31 fun zRb =>
 cL 5 zMn 32 fun zRc =>
 cL 5 zMn 33 fun zRd =>
 k_fin [(V.sc (.int .u8 zQG)),(V.sc (.int .u8 zQH)),(V.sc (.int .u8 zQI)),(V.sc (.int .u8 zQJ)),(V.sc (.int .u8 zQK)),(V.sc (.int .u8 zQL)),(V.sc (.int .u8 zQM)),(V.sc (.int .u8 zQN)),(V.sc (.int .u8 zQO)),(V.sc (.int .u8 zQP)),(V.sc (.int .u8 zQQ)),(V.sc (.int .u8 zQR)),(V.sc (.int .u8 zQS)),(V.sc (.int .u8 zQT)),(V.sc (.int .u8 zQU)),(V.sc (.int .u8 zQV)),(V.sc (.int .u8 zQW)),(V.sc (.int .u8 zQX)),(V.sc (.int .u8 zQY)),(V.sc (.int .u8 zQZ)),(V.sc (.int .u8 zQ0)),(V.sc (.int .u8 zQ1)),(V.sc (.int .u8 zQ2)),(V.sc (.int .u8 zQ3)),(V.sc (.int .u8 zQ4)),(V.sc (.int .u8 zQ5)),(V.sc (.int .u8 zQ6)),(V.sc (.int .u8 zQ7)),(V.sc (.int .u8 zQ8)),(V.sc (.int .u8 zQ9)),(V.sc (.int .u8 zRa)),(V.sc (.int .u8 zRb)),(V.sl 5 zRc),(V.sl 5 zRd)] (0:Int))))))) (
 k_fin [(V.sc (.int .u8 v3)),(V.sc (.int .u8 v4)),(V.sc (.int .u8 v5)),(V.sc (.int .u8 v6)),(V.sc (.int .u8 v7)),(V.sc (.int .u8 v8)),(V.sc (.int .u8 v9)),(V.sc (.int .u8 v10)),(V.sc (.int .u8 v11)),(V.sc (.int .u8 v12)),(V.sc (.int .u8 v13)),(V.sc (.int .u8 v14)),(V.sc (.int .u8 v15)),(V.sc (.int .u8 v16)),(V.sc (.int .u8 v17)),(V.sc (.int .u8 v18)),(V.sc (.int .u8 v19)),(V.sc (.int .u8 v20)),(V.sc (.int .u8 v21)),(V.sc (.int .u8 v22)),(V.sc (.int .u8 v23)),(V.sc (.int .u8 v24)),(V.sc (.int .u8 v25)),(V.sc (.int .u8 v26)),(V.sc (.int .u8 v27)),(V.sc (.int .u8 v28)),(V.sc (.int .u8 v29)),(V.sc (.int .u8 v30)),(V.sc (.int .u8 v31)),(V.sc (.int .u8 v32)),(V.sc (.int .u8 v33)),(V.sc (.int .u8 v34)),(V.sl 5 zMs),(V.sl 5 zNf)] (0:Int)))))))))) (
 chk (0+5≤(List.length zMt)) (
 ifb (List.isEmpty v38) (
 xe β L (zl 5 v36 v38) (List.take 5 zMt) (fun zNg =>
 ifb (decide (zMB ≥ (8:Int))) (
 yk β L [(V.sc (.int .u32 (0:Int))),(V.sc (.int .u16 (0:Int))),(V.sc (.int .u32 (0:Int)))] (fun zRe =>
 yC β L [(V.sc (.int .u8 v3)),(V.sc (.int .u8 v4)),(V.sc (.int .u8 v5)),(V.sc (.int .u8 v6)),(V.sc (.int .u8 v7)),(V.sc (.int .u8 v8)),(V.sc (.int .u8 v9)),(V.sc (.int .u8 v10)),(V.sc (.int .u8 v11)),(V.sc (.int .u8 v12)),(V.sc (.int .u8 v13)),(V.sc (.int .u8 v14)),(V.sc (.int .u8 v15)),(V.sc (.int .u8 v16)),(V.sc (.int .u8 v17)),(V.sc (.int .u8 v18)),(V.sc (.int .u8 v19)),(V.sc (.int .u8 v20)),(V.sc (.int .u8 v21)),(V.sc (.int .u8 v22)),(V.sc (.int .u8 v23)),(V.sc (.int .u8 v24)),(V.sc (.int .u8 v25)),(V.sc (.int .u8 v26)),(V.sc (.int .u8 v27)),(V.sc (.int .u8 v28)),(V.sc (.int .u8 v29)),(V.sc (.int .u8 v30)),(V.sc (.int .u8 v31)),(V.sc (.int .u8 v32)),(V.sc (.int .u8 v33)),(V.sc (.int .u8 v34)),(V.sl 5 zMs),(V.sl 5 zNg)] [(V.sc (.int .u32 (0:Int))),(V.sc (.int .u16 (0:Int))),(V.sc (.int .u32 (0:Int)))] zRe (fun zMo zTC =>
 chk (List.length zMo=34) (
 cI .u8 zMo 0 fun zRf =>
 cI .u8 zMo 1 fun zRg =>
 cI .u8 zMo 2 fun zRh =>
 cI .u8 zMo 3 fun zRi =>
 cI .u8 zMo 4 fun zRj =>
 cI .u8 zMo 5 fun zRk =>
 cI .u8 zMo 6 fun zRl =>
 cI .u8 zMo 7 fun zRm =>
 cI .u8 zMo 8 fun zRn =>
 cI .u8 zMo 9 fun zRo =>
 cI .u8 zMo 10 fun zRp =>
 cI .u8 zMo 11 fun zRq =>
 cI .u8 zMo 12 fun zRr =>
 cI .u8 zMo 13 fun zRs =>
 cI .u8 zMo 14 fun zRt =>
 cI .u8 zMo 15 fun zRu =>
 cI .u8 zMo 16 fun zRv =>
 cI .u8 zMo 17 fun zRw =>
 cI .u8 zMo 18 fun zRx =>
 cI .u8 zMo 19 fun zRy =>
 cI .u8 zMo 20 fun zRz =>
 cI .u8 zMo 21 fun zRA =>
 cI .u8 zMo 22 fun zRB =>
 cI .u8 zMo 23 fun zRC =>
 cI .u8 zMo 24 fun zRD =>
 cI .u8 zMo 25 fun zRE =>
 cI .u8 zMo 26 fun zRF =>
 cI .u8 zMo 27 fun zRG =>
 cI .u8 zMo 28 fun zRH =>
 cI .u8 zMo 29 fun zRI =>
 cI .u8 zMo 30 fun zRJ =>
 cI .u8 zMo 31 fun zRK =>
 cL 5 zMo 32 fun zRL =>
 cL 5 zMo 33 fun zRM =>
 k_fin [(V.sc (.int .u8 zRf)),(V.sc (.int .u8 zRg)),(V.sc (.int .u8 zRh)),(V.sc (.int .u8 zRi)),(V.sc (.int .u8 zRj)),(V.sc (.int .u8 zRk)),(V.sc (.int .u8 zRl)),(V.sc (.int .u8 zRm)),(V.sc (.int .u8 zRn)),(V.sc (.int .u8 zRo)),(V.sc (.int .u8 zRp)),(V.sc (.int .u8 zRq)),(V.sc (.int .u8 zRr)),(V.sc (.int .u8 zRs)),(V.sc (.int .u8 zRt)),(V.sc (.int .u8 zRu)),(V.sc (.int .u8 zRv)),(V.sc (.int .u8 zRw)),(V.sc (.int .u8 zRx)),(V.sc (.int .u8 zRy)),(V.sc (.int .u8 zRz)),(V.sc (.int .u8 zRA)),(V.sc (.int .u8 zRB)),(V.sc (.int .u8 zRC)),(V.sc (.int .u8 zRD)),(V.sc (.int .u8 zRE)),(V.sc (.int .u8 zRF)),(V.sc (.int .u8 zRG)),(V.sc (.int .u8 zRH)),(V.sc (.int .u8 zRI)),(V.sc (.int .u8 zRJ)),(V.sc (.int .u8 zRK)),(V.sl 5 zRL),(V.sl 5 zRM)] (0:Int))))) (
 k_fin [(V.sc (.int .u8 v3)),(V.sc (.int .u8 v4)),(V.sc (.int .u8 v5)),(V.sc (.int .u8 v6)),(V.sc (.int .u8 v7)),(V.sc (.int .u8 v8)),(V.sc (.int .u8 v9)),(V.sc (.int .u8 v10)),(V.sc (.int .u8 v11)),(V.sc (.int .u8 v12)),(V.sc (.int .u8 v13)),(V.sc (.int .u8 v14)),(V.sc (.int .u8 v15)),(V.sc (.int .u8 v16)),(V.sc (.int .u8 v17)),(V.sc (.int .u8 v18)),(V.sc (.int .u8 v19)),(V.sc (.int .u8 v20)),(V.sc (.int .u8 v21)),(V.sc (.int .u8 v22)),(V.sc (.int .u8 v23)),(V.sc (.int .u8 v24)),(V.sc (.int .u8 v25)),(V.sc (.int .u8 v26)),(V.sc (.int .u8 v27)),(V.sc (.int .u8 v28)),(V.sc (.int .u8 v29)),(V.sc (.int .u8 v30)),(V.sc (.int .u8 v31)),(V.sc (.int .u8 v32)),(V.sc (.int .u8 v33)),(V.sc (.int .u8 v34)),(V.sl 5 zMs),(V.sl 5 zNg)] (0:Int)))) (
 xe β L (zl 5 v36 v38) (List.take 5 zMt) (fun zNh =>
 ifb (decide (zMB ≥ (8:Int))) (
 yk β L [(V.sc (.int .u32 (0:Int))),(V.sc (.int .u16 (0:Int))),(V.sc (.int .u32 (0:Int)))] (fun zRN =>
 yC β L [(V.sc (.int .u8 v3)),(V.sc (.int .u8 v4)),(V.sc (.int .u8 v5)),(V.sc (.int .u8 v6)),(V.sc (.int .u8 v7)),(V.sc (.int .u8 v8)),(V.sc (.int .u8 v9)),(V.sc (.int .u8 v10)),(V.sc (.int .u8 v11)),(V.sc (.int .u8 v12)),(V.sc (.int .u8 v13)),(V.sc (.int .u8 v14)),(V.sc (.int .u8 v15)),(V.sc (.int .u8 v16)),(V.sc (.int .u8 v17)),(V.sc (.int .u8 v18)),(V.sc (.int .u8 v19)),(V.sc (.int .u8 v20)),(V.sc (.int .u8 v21)),(V.sc (.int .u8 v22)),(V.sc (.int .u8 v23)),(V.sc (.int .u8 v24)),(V.sc (.int .u8 v25)),(V.sc (.int .u8 v26)),(V.sc (.int .u8 v27)),(V.sc (.int .u8 v28)),(V.sc (.int .u8 v29)),(V.sc (.int .u8 v30)),(V.sc (.int .u8 v31)),(V.sc (.int .u8 v32)),(V.sc (.int .u8 v33)),(V.sc (.int .u8 v34)),(V.sl 5 zMs),(V.sl 5 zNh)] [(V.sc (.int .u32 (0:Int))),(V.sc (.int .u16 (0:Int))),(V.sc (.int .u32 (0:Int)))] zRN (fun zMp zTD =>
 chk (List.length zMp=34) (
 cI .u8 zMp 0 fun zRO =>
 cI .u8 zMp 1 fun zRP =>
 cI .u8 zMp 2 fun zRQ =>
 cI .u8 zMp 3 fun zRR =>
 cI .u8 zMp 4 fun zRS =>
 cI .u8 zMp 5 fun zRT =>
 cI .u8 zMp 6 fun zRU =>
 cI .u8 zMp 7 fun zRV =>
 cI .u8 zMp 8 fun zRW =>
 cI .u8 zMp 9 fun zRX =>
 cI .u8 zMp 10 fun zRY =>
 cI .u8 zMp 11 fun zRZ =>
 cI .u8 zMp 12 fun zR0 =>
 cI .u8 zMp 13 fun zR1 =>
 cI .u8 zMp 14 fun zR2 =>
 cI .u8 zMp 15 fun zR3 =>
 cI .u8 zMp 16 fun zR4 =>
 cI .u8 zMp 17 fun zR5 =>
 cI .u8 zMp 18 fun zR6 =>
 cI .u8 zMp 19 fun zR7 =>
 cI .u8 zMp 20 fun zR8 =>
 cI .u8 zMp 21 fun zR9 =>
 cI .u8 zMp 22 fun zSa =>
 cI .u8 zMp 23 fun zSb =>
 cI .u8 zMp 24 fun zSc =>
 cI .u8 zMp 25 fun zSd =>
 cI .u8 zMp 26 fun zSe =>
 cI .u8 zMp 27 fun zSf =>
 cI .u8 zMp 28 fun zSg =>
 cI .u8 zMp 29 fun zSh =>
 cI .u8 zMp 30 fun zSi =>
 cI .u8 zMp 31 fun zSj =>
 cL 5 zMp 32 fun zSk =>
 cL 5 zMp 33 fun zSl =>
 k_fin [(V.sc (.int .u8 zRO)),(V.sc (.int .u8 zRP)),(V.sc (.int .u8 zRQ)),(V.sc (.int .u8 zRR)),(V.sc (.int .u8 zRS)),(V.sc (.int .u8 zRT)),(V.sc (.int .u8 zRU)),(V.sc (.int .u8 zRV)),(V.sc (.int .u8 zRW)),(V.sc (.int .u8 zRX)),(V.sc (.int .u8 zRY)),(V.sc (.int .u8 zRZ)),(V.sc (.int .u8 zR0)),(V.sc (.int .u8 zR1)),(V.sc (.int .u8 zR2)),(V.sc (.int .u8 zR3)),(V.sc (.int .u8 zR4)),(V.sc (.int .u8 zR5)),(V.sc (.int .u8 zR6)),(V.sc (.int .u8 zR7)),(V.sc (.int .u8 zR8)),(V.sc (.int .u8 zR9)),(V.sc (.int .u8 zSa)),(V.sc (.int .u8 zSb)),(V.sc (.int .u8 zSc)),(V.sc (.int .u8 zSd)),(V.sc (.int .u8 zSe)),(V.sc (.int .u8 zSf)),(V.sc (.int .u8 zSg)),(V.sc (.int .u8 zSh)),(V.sc (.int .u8 zSi)),(V.sc (.int .u8 zSj)),(V.sl 5 zSk),(V.sl 5 zSl)] (0:Int))))) (
 k_fin [(V.sc (.int .u8 v3)),(V.sc (.int .u8 v4)),(V.sc (.int .u8 v5)),(V.sc (.int .u8 v6)),(V.sc (.int .u8 v7)),(V.sc (.int .u8 v8)),(V.sc (.int .u8 v9)),(V.sc (.int .u8 v10)),(V.sc (.int .u8 v11)),(V.sc (.int .u8 v12)),(V.sc (.int .u8 v13)),(V.sc (.int .u8 v14)),(V.sc (.int .u8 v15)),(V.sc (.int .u8 v16)),(V.sc (.int .u8 v17)),(V.sc (.int .u8 v18)),(V.sc (.int .u8 v19)),(V.sc (.int .u8 v20)),(V.sc (.int .u8 v21)),(V.sc (.int .u8 v22)),(V.sc (.int .u8 v23)),(V.sc (.int .u8 v24)),(V.sc (.int .u8 v25)),(V.sc (.int .u8 v26)),(V.sc (.int .u8 v27)),(V.sc (.int .u8 v28)),(V.sc (.int .u8 v29)),(V.sc (.int .u8 v30)),(V.sc (.int .u8 v31)),(V.sc (.int .u8 v32)),(V.sc (.int .u8 v33)),(V.sc (.int .u8 v34)),(V.sl 5 zMs),(V.sl 5 zNh)] (0:Int)))))))) (
 zf β L (zl 5 v36 v38) zNd (fun zMy zSm =>
 lt (IntKind.wrap .i64 ((zSm:Int) - zMy)) fun zM8 =>
 ifb (decide (zM8 ≥ (8:Int))) (
 chk (0≤zMy∧zMy < ((v36:Nat):Int)) (
 chk (((0+((Int.toNat zMy) * 5))+1)+3≤(List.length v38)) (
 chk ((List.length (List.take 3 (List.drop ((0+((Int.toNat zMy) * 5))+1) v38)))=3∧0+3≤3) (
 lt (zh [(V.sc (.int .u32 (0:Int))),(V.sc (.int .u16 (0:Int))),(V.sc (.int .u32 (0:Int)))] 0 (List.take 3 (List.drop ((0+((Int.toNat zMy) * 5))+1) v38))) fun zMZ =>
 yf β L (zl 5 v36 v38) zMy (fun zSn =>
 chk (0+5≤(List.length zMt)) (
 xe β L zSn (List.take 5 zMt) (fun zNi =>
 ifb (decide (zM8 ≥ (8:Int))) (
 chk (0+3≤(List.length zMZ)) (
 chk (0+3≤(List.length zMZ)) (
 yk β L (List.take 3 zMZ) (fun zSo =>
 yC β L [(V.sc (.int .u8 v3)),(V.sc (.int .u8 v4)),(V.sc (.int .u8 v5)),(V.sc (.int .u8 v6)),(V.sc (.int .u8 v7)),(V.sc (.int .u8 v8)),(V.sc (.int .u8 v9)),(V.sc (.int .u8 v10)),(V.sc (.int .u8 v11)),(V.sc (.int .u8 v12)),(V.sc (.int .u8 v13)),(V.sc (.int .u8 v14)),(V.sc (.int .u8 v15)),(V.sc (.int .u8 v16)),(V.sc (.int .u8 v17)),(V.sc (.int .u8 v18)),(V.sc (.int .u8 v19)),(V.sc (.int .u8 v20)),(V.sc (.int .u8 v21)),(V.sc (.int .u8 v22)),(V.sc (.int .u8 v23)),(V.sc (.int .u8 v24)),(V.sc (.int .u8 v25)),(V.sc (.int .u8 v26)),(V.sc (.int .u8 v27)),(V.sc (.int .u8 v28)),(V.sc (.int .u8 v29)),(V.sc (.int .u8 v30)),(V.sc (.int .u8 v31)),(V.sc (.int .u8 v32)),(V.sc (.int .u8 v33)),(V.sc (.int .u8 v34)),(V.sl 5 zMs),(V.sl 5 zNi)] (List.take 3 zMZ) zSo (fun zMq zTE =>
 chk (List.length zMq=34) (
 cI .u8 zMq 0 fun zSp =>
 cI .u8 zMq 1 fun zSq =>
 cI .u8 zMq 2 fun zSr =>
 cI .u8 zMq 3 fun zSs =>
 cI .u8 zMq 4 fun zSt =>
 cI .u8 zMq 5 fun zSu =>
 cI .u8 zMq 6 fun zSv =>
 cI .u8 zMq 7 fun zSw =>
 cI .u8 zMq 8 fun zSx =>
 cI .u8 zMq 9 fun zSy =>
 cI .u8 zMq 10 fun zSz =>
 cI .u8 zMq 11 fun zSA =>
 cI .u8 zMq 12 fun zSB =>
 cI .u8 zMq 13 fun zSC =>
 cI .u8 zMq 14 fun zSD =>
 cI .u8 zMq 15 fun zSE =>
 cI .u8 zMq 16 fun zSF =>
 cI .u8 zMq 17 fun zSG =>
 cI .u8 zMq 18 fun zSH =>
 cI .u8 zMq 19 fun zSI =>
 cI .u8 zMq 20 fun zSJ =>
 cI .u8 zMq 21 fun zSK =>
 cI .u8 zMq 22 fun zSL =>
 cI .u8 zMq 23 fun zSM =>
 cI .u8 zMq 24 fun zSN =>
 cI .u8 zMq 25 fun zSO =>
 cI .u8 zMq 26 fun zSP =>
 cI .u8 zMq 27 fun zSQ =>
 cI .u8 zMq 28 fun zSR =>
 cI .u8 zMq 29 fun zSS =>
 cI .u8 zMq 30 fun zST =>
 cI .u8 zMq 31 fun zSU =>
 cL 5 zMq 32 fun zSV =>
 cL 5 zMq 33 fun zSW =>
 k_fin [(V.sc (.int .u8 zSp)),(V.sc (.int .u8 zSq)),(V.sc (.int .u8 zSr)),(V.sc (.int .u8 zSs)),(V.sc (.int .u8 zSt)),(V.sc (.int .u8 zSu)),(V.sc (.int .u8 zSv)),(V.sc (.int .u8 zSw)),(V.sc (.int .u8 zSx)),(V.sc (.int .u8 zSy)),(V.sc (.int .u8 zSz)),(V.sc (.int .u8 zSA)),(V.sc (.int .u8 zSB)),(V.sc (.int .u8 zSC)),(V.sc (.int .u8 zSD)),(V.sc (.int .u8 zSE)),(V.sc (.int .u8 zSF)),(V.sc (.int .u8 zSG)),(V.sc (.int .u8 zSH)),(V.sc (.int .u8 zSI)),(V.sc (.int .u8 zSJ)),(V.sc (.int .u8 zSK)),(V.sc (.int .u8 zSL)),(V.sc (.int .u8 zSM)),(V.sc (.int .u8 zSN)),(V.sc (.int .u8 zSO)),(V.sc (.int .u8 zSP)),(V.sc (.int .u8 zSQ)),(V.sc (.int .u8 zSR)),(V.sc (.int .u8 zSS)),(V.sc (.int .u8 zST)),(V.sc (.int .u8 zSU)),(V.sl 5 zSV),(V.sl 5 zSW)] (0:Int))))))) (
 k_fin [(V.sc (.int .u8 v3)),(V.sc (.int .u8 v4)),(V.sc (.int .u8 v5)),(V.sc (.int .u8 v6)),(V.sc (.int .u8 v7)),(V.sc (.int .u8 v8)),(V.sc (.int .u8 v9)),(V.sc (.int .u8 v10)),(V.sc (.int .u8 v11)),(V.sc (.int .u8 v12)),(V.sc (.int .u8 v13)),(V.sc (.int .u8 v14)),(V.sc (.int .u8 v15)),(V.sc (.int .u8 v16)),(V.sc (.int .u8 v17)),(V.sc (.int .u8 v18)),(V.sc (.int .u8 v19)),(V.sc (.int .u8 v20)),(V.sc (.int .u8 v21)),(V.sc (.int .u8 v22)),(V.sc (.int .u8 v23)),(V.sc (.int .u8 v24)),(V.sc (.int .u8 v25)),(V.sc (.int .u8 v26)),(V.sc (.int .u8 v27)),(V.sc (.int .u8 v28)),(V.sc (.int .u8 v29)),(V.sc (.int .u8 v30)),(V.sc (.int .u8 v31)),(V.sc (.int .u8 v32)),(V.sc (.int .u8 v33)),(V.sc (.int .u8 v34)),(V.sl 5 zMs),(V.sl 5 zNi)] (0:Int))))))))) (
 chk (0+5≤(List.length zMt)) (
 xe β L (zl 5 v36 v38) (List.take 5 zMt) (fun zNj =>
 ifb (decide (zM8 ≥ (8:Int))) (
 yk β L [(V.sc (.int .u32 (0:Int))),(V.sc (.int .u16 (0:Int))),(V.sc (.int .u32 (0:Int)))] (fun zSX =>
 yC β L [(V.sc (.int .u8 v3)),(V.sc (.int .u8 v4)),(V.sc (.int .u8 v5)),(V.sc (.int .u8 v6)),(V.sc (.int .u8 v7)),(V.sc (.int .u8 v8)),(V.sc (.int .u8 v9)),(V.sc (.int .u8 v10)),(V.sc (.int .u8 v11)),(V.sc (.int .u8 v12)),(V.sc (.int .u8 v13)),(V.sc (.int .u8 v14)),(V.sc (.int .u8 v15)),(V.sc (.int .u8 v16)),(V.sc (.int .u8 v17)),(V.sc (.int .u8 v18)),(V.sc (.int .u8 v19)),(V.sc (.int .u8 v20)),(V.sc (.int .u8 v21)),(V.sc (.int .u8 v22)),(V.sc (.int .u8 v23)),(V.sc (.int .u8 v24)),(V.sc (.int .u8 v25)),(V.sc (.int .u8 v26)),(V.sc (.int .u8 v27)),(V.sc (.int .u8 v28)),(V.sc (.int .u8 v29)),(V.sc (.int .u8 v30)),(V.sc (.int .u8 v31)),(V.sc (.int .u8 v32)),(V.sc (.int .u8 v33)),(V.sc (.int .u8 v34)),(V.sl 5 zMs),(V.sl 5 zNj)] [(V.sc (.int .u32 (0:Int))),(V.sc (.int .u16 (0:Int))),(V.sc (.int .u32 (0:Int)))] zSX (fun zMr zTF =>
 chk (List.length zMr=34) (
 cI .u8 zMr 0 fun zSY =>
 cI .u8 zMr 1 fun zSZ =>
 cI .u8 zMr 2 fun zS0 =>
 cI .u8 zMr 3 fun zS1 =>
 cI .u8 zMr 4 fun zS2 =>
 cI .u8 zMr 5 fun zS3 =>
 cI .u8 zMr 6 fun zS4 =>
 cI .u8 zMr 7 fun zS5 =>
 cI .u8 zMr 8 fun zS6 =>
 cI .u8 zMr 9 fun zS7 =>
 cI .u8 zMr 10 fun zS8 =>
 cI .u8 zMr 11 fun zS9 =>
 cI .u8 zMr 12 fun zTa =>
 cI .u8 zMr 13 fun zTb =>
 cI .u8 zMr 14 fun zTc =>
 cI .u8 zMr 15 fun zTd =>
 cI .u8 zMr 16 fun zTe =>
 cI .u8 zMr 17 fun zTf =>
 cI .u8 zMr 18 fun zTg =>
 cI .u8 zMr 19 fun zTh =>
 cI .u8 zMr 20 fun zTi =>
 cI .u8 zMr 21 fun zTj =>
 cI .u8 zMr 22 fun zTk =>
 cI .u8 zMr 23 fun zTl =>
 cI .u8 zMr 24 fun zTm =>
 cI .u8 zMr 25 fun zTn =>
 cI .u8 zMr 26 fun zTo =>
 cI .u8 zMr 27 fun zTp =>
 cI .u8 zMr 28 fun zTq =>
 cI .u8 zMr 29 fun zTr =>
 cI .u8 zMr 30 fun zTs =>
 cI .u8 zMr 31 fun zTt =>
 cL 5 zMr 32 fun zTu =>
 cL 5 zMr 33 fun zTv =>
 k_fin [(V.sc (.int .u8 zSY)),(V.sc (.int .u8 zSZ)),(V.sc (.int .u8 zS0)),(V.sc (.int .u8 zS1)),(V.sc (.int .u8 zS2)),(V.sc (.int .u8 zS3)),(V.sc (.int .u8 zS4)),(V.sc (.int .u8 zS5)),(V.sc (.int .u8 zS6)),(V.sc (.int .u8 zS7)),(V.sc (.int .u8 zS8)),(V.sc (.int .u8 zS9)),(V.sc (.int .u8 zTa)),(V.sc (.int .u8 zTb)),(V.sc (.int .u8 zTc)),(V.sc (.int .u8 zTd)),(V.sc (.int .u8 zTe)),(V.sc (.int .u8 zTf)),(V.sc (.int .u8 zTg)),(V.sc (.int .u8 zTh)),(V.sc (.int .u8 zTi)),(V.sc (.int .u8 zTj)),(V.sc (.int .u8 zTk)),(V.sc (.int .u8 zTl)),(V.sc (.int .u8 zTm)),(V.sc (.int .u8 zTn)),(V.sc (.int .u8 zTo)),(V.sc (.int .u8 zTp)),(V.sc (.int .u8 zTq)),(V.sc (.int .u8 zTr)),(V.sc (.int .u8 zTs)),(V.sc (.int .u8 zTt)),(V.sl 5 zTu),(V.sl 5 zTv)] (0:Int))))) (
 k_fin [(V.sc (.int .u8 v3)),(V.sc (.int .u8 v4)),(V.sc (.int .u8 v5)),(V.sc (.int .u8 v6)),(V.sc (.int .u8 v7)),(V.sc (.int .u8 v8)),(V.sc (.int .u8 v9)),(V.sc (.int .u8 v10)),(V.sc (.int .u8 v11)),(V.sc (.int .u8 v12)),(V.sc (.int .u8 v13)),(V.sc (.int .u8 v14)),(V.sc (.int .u8 v15)),(V.sc (.int .u8 v16)),(V.sc (.int .u8 v17)),(V.sc (.int .u8 v18)),(V.sc (.int .u8 v19)),(V.sc (.int .u8 v20)),(V.sc (.int .u8 v21)),(V.sc (.int .u8 v22)),(V.sc (.int .u8 v23)),(V.sc (.int .u8 v24)),(V.sc (.int .u8 v25)),(V.sc (.int .u8 v26)),(V.sc (.int .u8 v27)),(V.sc (.int .u8 v28)),(V.sc (.int .u8 v29)),(V.sc (.int .u8 v30)),(V.sc (.int .u8 v31)),(V.sc (.int .u8 v32)),(V.sc (.int .u8 v33)),(V.sc (.int .u8 v34)),(V.sl 5 zMs),(V.sl 5 zNj)] (0:Int))))))))))))))))))))))))
theorem zAp {β:Type} (xw:za8) (ye:xJ) (yg:zR) (yf:xQ) (xf:xL) (zf:yL) (xe:yR) (yk:zap) (yC:zfB) (L:Nat) (p0 p1:List V) (k:KK β):xt zp8 (zp5 xw ye yg yf xf zf xe yk yC L) L zl0 [(V.agg p0),(V.agg p1)] [] k=zr0 xw ye yg yf xf zf xe yk yC L p0 p1 (fun zMc zMd=>k (V.tup [(V.agg zMc),(V.sc (.int .i64 zMd))]) []):=by kernel_rfl
abbrev zcf:=∀ (β:Type),Nat→List V→List V→(List V→Int→Option β)→Option β
def xz (β:Type) (L:Nat) (p0 p1:List V) (k_fin:List V→Int→Option β):Option β:=zr0 xw ye yg yf xf zf xe yk yC L p0 p1 k_fin
def znv (xz:zcf) (L:Nat) (β:Type) (args:List V) (bor:Bor) (k:KK β):Option β:=match args,bor with
 | [a0,a1],[]=>aG a0 fun p0=>aG a1 fun p1=>xz β L p0 p1 (fun zMc zMd=>k (V.tup [(V.agg zMc),(V.sc (.int .i64 zMd))]) [])
 | _,_=>none
theorem zAU (L:Nat) (β:Type) (args:List V) (bor:Bor) (k:KK β) (r:β) (h:znv xz L β args bor k=some r):xt zp8 (zp5 xw ye yg yf xf zf xe yk yC L) L zl0 args bor k=some r:=by
 unfold znv at h
 split at h
 ·have q:=xZ h; clear h; obtain ⟨p0,rfl,h⟩:=q
  have q:=xZ h; clear h; obtain ⟨p1,rfl,h⟩:=q
  exact (zAp xw ye yg yf xf zf xe yk yC L p0 p1 k).trans h
 ·cases h
def znW:CF:=⟨18,[.cell 2 true 3],
 (.seq (.reg [oo 2 (.alloc true [(.sc (.int .u32 0)),(.sc (.int .u16 0)),(.sc (.int .u32 0))])])
 (.seq (.reg [oo 3 (.move (tq 0) false),
   oo 4 (.call 231 [((tq 3),0),((.const (.sc (.int .i64 6))),0)] []),
   oo 5 (.conv .u32 (tq 4)),
   oo 6 (.bin .shl (tq 5) (.const (.sc (.int .u64 16)))),
   oo 7 (.move (tq 0) false),
   oo 8 (.call 231 [((tq 7),0),((.const (.sc (.int .i64 5))),0)] []),
   oo 9 (.conv .u32 (tq 8)),
   oo 10 (.bin .add (tq 6) (tq 9)),
   oo 11 (.move (tq 0) false),
   oo 12 (.call 231 [((tq 11),0),((.const (.sc (.int .i64 2))),0)] []),
   oo 13 (.conv .u16 (tq 12)),
   oo 14 (.move (tq 0) false),
   oo 15 (.call 231 [((tq 14),0),((.const (.sc (.int .i64 50))),0)] []),
   oo 16 (.conv .u32 (tq 15)),
   oo 17 (.build [(.sc (.int .u32 0)),(.sc (.int .u16 0)),(.sc (.int .u32 0))] [(0,1,(tq 10)),(1,1,(tq 13)),(2,1,(tq 16))]),
   oz (.store 3 (tq 2) (tq 17))])
 .ret))⟩
def zui:Hint:=⟨[],[],[none],[],[],false,false⟩
def zsj:Nat→Sh:=xP []
def zrw (za:xj) (L:Nat):CBC:=(zx 231 (zbs za L) noC)
def zth {β:Type} (za:xj) (L:Nat) (zKX:List (List V)) (zK0:Int) (k_fin:List V→List (List V)→Int→Option β):Option β :=
 za β L (6:Int) zKX zK0 (fun v0 v1 v2 =>
 lt (IntKind.wrap .u32 v0) fun x3 =>
 lt (zr8 .u32 x3 (16:Int)) fun x4 =>
 za β L (5:Int) v1 v2 (fun v5 v6 v7 =>
 lt (IntKind.wrap .u32 v5) fun x8 =>
 lt (IntKind.wrap .u32 ((x4:Int)+x8)) fun x9 =>
 za β L (2:Int) v6 v7 (fun v10 v11 v12 =>
 lt (IntKind.wrap .u16 v10) fun x13 =>
 za β L (50:Int) v11 v12 (fun v14 v15 v16 =>
 lt (IntKind.wrap .u32 v14) fun x17 =>
 lt [(V.sc (.int .u32 x9)),(V.sc (.int .u16 x13)),(V.sc (.int .u32 x17))] fun r18 =>
 chk (0=0∧(List.length r18)=3∧3≠0) (
 k_fin r18 v15 v16)))))
theorem zBr {β:Type} (za:xj) (L:Nat) (zKX:List (List V)) (zK0:Int) (k:KK β):xt zsj (zrw za L) L znW [(V.ptr 0 0)] [(.live false [(V.sl 1 zKX),(V.sc (.int .i64 zK0))])] k=zth za L zKX zK0 (fun p0 zKX zK0=>k (V.agg p0) [(.live false [(V.sl 1 zKX),(V.sc (.int .i64 zK0))])]):=by kernel_rfl
abbrev zy:=∀ (β:Type),Nat→List (List V)→Int→(List V→List (List V)→Int→Option β)→Option β
def zd (β:Type) (L:Nat) (zKX:List (List V)) (zK0:Int) (k_fin:List V→List (List V)→Int→Option β):Option β:=zth za L zKX zK0 k_fin
def ziP (zd:zy) (L:Nat) (β:Type) (args:List V) (bor:Bor) (k:KK β):Option β:=match args,bor with
 | [a0],[(.live false [w0_0,w0_1])]=>aP 0 0 a0 (aL 1 w0_0 fun zKX=>aI .i64 w0_1 fun zK0=>zd β L zKX zK0 (fun p0 zKX zK0=>k (V.agg p0) [(.live false [(V.sl 1 zKX),(V.sc (.int .i64 zK0))])]))
 | _,_=>none
theorem zB0 (L:Nat) (β:Type) (args:List V) (bor:Bor) (k:KK β) (r:β) (h:ziP zd L β args bor k=some r):xt zsj (zrw za L) L znW args bor k=some r:=by
 unfold ziP at h
 split at h
 ·have q:=zlz h; clear h; obtain ⟨rfl,h⟩:=q
  have q:=y4 h; clear h; obtain ⟨zKX,rfl,h⟩:=q
  have q:=za5 h; clear h; obtain ⟨zK0,rfl,h⟩:=q
  exact (zBr za L zKX zK0 k).trans h
 ·cases h
def zkL:CF:=⟨24,[.cell 6 true 34,.tmp 7,.tmp 8],
 (.seq (.reg [oo 3 (.box true (tq 0)),
   oo 4 (.box true (tq 1)),
   oo 6 (.alloc true (rp 32 (.sc (.int .u8 0)) (rp 2 (.gs 5 []) []))),
   oo 7 (.move (.const (.sc (.bool false))) false),
   oo 8 (.move (.const (.sc (.int .i64 0))) false)])
 (.seq (.seq (.reg [oo 11 (.load true 34 (tq 3) false),
   oo 12 (.call 281 [((tq 11),1)] []),
   oo 13 (.un .not (tq 12))])
 (.cond (tq 13)
 (.seq (.reg [oo 14 (.build (rp 32 (.sc (.int .u8 0)) (rp 2 (.sl 5 []) [])) []),
   oz (.store 34 (tq 6) (tq 14)),
   oo 7 (.move (.const (.sc (.bool false))) false),
   oo 8 (.move (.const (.sc (.int .i64 6))) false)])
 .ret)
 .skip))
 (.seq (.reg [oo 16 (.load true 34 (tq 3) false),
   oo 17 (.load true 3 (tq 4) false),
   oo 18 (.move (tq 2) false),
   oo 19 (.call 293 [((tq 16),1),((tq 17),0),((tq 18),0)] []),
   oo 15 (.move (tq 19) true),
   oo 20 (.pull (tq 15) 0),
   oo 21 (.pull (tq 15) 1),
   oo 9 (.alloc true (rp 32 (.sc (.int .u8 0)) (rp 2 (.gs 5 []) []))),
   oz (.store 34 (tq 9) (tq 20)),
   oo 10 (.move (tq 21) false)])
 (.seq (.reg [oo 22 (.load true 34 (tq 9) false),
   oo 23 (.move (tq 10) false),
   oz (.store 34 (tq 6) (tq 22)),
   oo 7 (.move (tq 23) false),
   oo 8 (.move (.const (.sc (.int .i64 0))) false)])
 .ret))))⟩
def zrD:Hint:=⟨[(0,0),(0,2),(3,4),(3,7)],[],[none,none,none],[],[],false,false⟩
def zoO:Nat→Sh:=xP []
def zoN (xw:za8) (yC:zfB) (L:Nat):CBC:=(zx 293 (zjX yC L) (zx 281 (zgk xw L) noC))
def zqc {β:Type} (xw:za8) (yC:zfB) (L:Nat) (p0 p1:List V) (p2:Int) (k_fin:List V→Bool→Int→Option β):Option β :=
 chk (0+34≤(List.length p0)) (
 xw β L (List.map V.dem (List.take 34 p0)) (fun v0 =>
 ifb (!v0) (
 lt (List.replicate 32 (V.sc (.int .u8 (0:Int)))++[(V.sl 5 ([]:List (List V))),(V.sl 5 ([]:List (List V)))]) fun r1 =>
 chk (0=0∧(List.length r1)=34∧34≠0) (
 k_fin r1 false (6:Int))) (
 chk (0+34≤(List.length p0)) (
 chk (0+3≤(List.length p1)) (
 yC β L (List.map V.dem (List.take 34 p0)) (List.take 3 p1) p2 (fun v2 v3 =>
 chk ((List.length v2)=34∧0+34≤34) (
 lt (zh (List.replicate 32 (V.sc (.int .u8 (0:Int)))++[(V.gs 5 ([]:List (List V))),(V.gs 5 ([]:List (List V)))]) 0 v2) fun r4 =>
 chk (0+34≤(List.length r4)) (
 chk ((List.length (List.take 34 r4))=34∧0+34≤34) (
 lt (zh (List.replicate 32 (V.sc (.int .u8 (0:Int)))++[(V.gs 5 ([]:List (List V))),(V.gs 5 ([]:List (List V)))]) 0 (List.take 34 r4)) fun r5 =>
 chk (0=0∧(List.length r5)=34∧34≠0) (
 k_fin r5 v3 (0:Int)))))))))))
theorem zzH {β:Type} (xw:za8) (yC:zfB) (L:Nat) (p0 p1:List V) (p2:Int) (k:KK β):xt zoO (zoN xw yC L) L zkL [(V.agg p0),(V.agg p1),(V.sc (.int .u32 p2))] [] k=zqc xw yC L p0 p1 p2 (fun zMc zMd zMw=>k (V.tup [(V.agg zMc),(V.sc (.bool zMd)),(V.sc (.int .i64 zMw))]) []):=by kernel_rfl
abbrev zbC:=∀ (β:Type),Nat→List V→List V→Int→(List V→Bool→Int→Option β)→Option β
def yw (β:Type) (L:Nat) (p0 p1:List V) (p2:Int) (k_fin:List V→Bool→Int→Option β):Option β:=zqc xw yC L p0 p1 p2 k_fin
def zlY (yw:zbC) (L:Nat) (β:Type) (args:List V) (bor:Bor) (k:KK β):Option β:=match args,bor with
 | [a0,a1,a2],[]=>aG a0 fun p0=>aG a1 fun p1=>aI .u32 a2 fun p2=>yw β L p0 p1 p2 (fun zMc zMd zMw=>k (V.tup [(V.agg zMc),(V.sc (.bool zMd)),(V.sc (.int .i64 zMw))]) [])
 | _,_=>none
theorem zzD (L:Nat) (β:Type) (args:List V) (bor:Bor) (k:KK β) (r:β) (h:zlY yw L β args bor k=some r):xt zoO (zoN xw yC L) L zkL args bor k=some r:=by
 unfold zlY at h
 split at h
 ·have q:=xZ h; clear h; obtain ⟨p0,rfl,h⟩:=q
  have q:=xZ h; clear h; obtain ⟨p1,rfl,h⟩:=q
  have q:=za5 h; clear h; obtain ⟨p2,rfl,h⟩:=q
  exact (zzH xw yC L p0 p1 p2 k).trans h
 ·cases h
def ze7:CC:=(.seq (.seq (.reg [oo 10 (.move (tq 4) false),
   oo 11 (.bin .gtr (tq 10) (.const (.sc (.int .i64 0))))])
 (.cond (tq 11)
 .skip
 (.seq (.mask (bl 12 49) (bl 313358403731439 49))
 (.exit 0))))
 (.seq (.block 1 (.seq (.reg [oo 14 (.move (tq 0) false),
   oo 15 (.call 231 [((tq 14),0),((.const (.sc (.int .i64 4))),0)] [])])
 (.block 2 (.seq (.reg [oo 28 (.bin .eql (tq 15) (.const (.sc (.int .i64 0)))),
   oo 27 (.move (tq 28) false)])
 (.cond (tq 27)
 (.seq (.reg [oo 29 (.fieldAddr 32 (tq 3)),
   oo 30 (.load false 1 (tq 29) false),
   oo 31 (.lenS (tq 30)),
   oo 32 (.bin .gtr (tq 31) (.const (.sc (.int .i64 0))))])
 (.cond (tq 32)
 (.dreg [] [(oo 34 (.load true 34 (tq 3) false),{ q1 with root:=some 3 }),
   (oo 35 (.fieldAddr 32 (tq 3)),q0),
   (oo 36 (.load false 1 (tq 35) false),{ q1 with root:=some 3 }),
   (oo 37 (.move (tq 0) false),q0),
   (oo 38 (.fieldAddr 32 (tq 3)),q0),
   (oo 39 (.load false 1 (tq 38) false),{ q1 with root:=some 3 }),
   (oo 40 (.lenS (tq 39)),q0),
   (oo 41 (.call 231 [((tq 37),0),((tq 40),0)] []),{ q0 with w:=[3] }),
   (oo 42 (.indexAddrS 5 (tq 36) (tq 41)),q0),
   (oo 43 (.fieldAddr 1 (tq 42)),q0),
   (oo 44 (.load true 3 (tq 43) false),q1),
   (oo 45 (.call 272 [((tq 34),1),((tq 44),0)] []),q0),
   (oo 33 (.move (tq 45) true),q0),
   (oo 46 (.pull (tq 33) 0),q0),
   (oo 47 (.pull (tq 33) 1),q0),
   (oz (.store 34 (tq 3) (tq 46)),q0)])
 .skip))
 (.dreg [] [(oo 17 (.load true 34 (tq 3) false),ql 3 [] []),
   (oo 18 (.move (tq 0) false),q0),
   (oo 19 (.call 262 [((tq 18),0)] []),qc [3] []),
   (oo 20 (.move (tq 0) false),q0),
   (oo 21 (.call 231 [((tq 20),0),((.const (.sc (.int .i64 4))),0)] []),qc [3] []),
   (oo 22 (.conv .u32 (tq 21)),q0),
   (oo 23 (.call 273 [((tq 17),1),((tq 19),0),((tq 22),0)] []),q0),
   (oo 16 (.move (tq 23) true),q0),
   (oo 24 (.pull (tq 16) 0),q0),
   (oo 25 (.pull (tq 16) 1),q0),
   (oo 26 (.pull (tq 16) 2),q0),
   (oz (.store 34 (tq 3) (tq 24)),q0)]))))))
 (.reg [oo 12 (.move (tq 4) false),
   oo 13 (.bin .sub (tq 12) (.const (.sc (.int .i64 1)))),
   oo 4 (.move (tq 13) false)])))
def zoU:CC:=(.seq (.reg [oo 48 (.load true 34 (tq 3) false),
   oz (.store 34 (tq 2) (tq 48))])
 .ret)
def zfG:CF:=⟨49,[.cell 2 true 34],
 (.seq (.reg [oo 2 (.alloc true (rp 32 (.sc (.int .u8 0)) (rp 2 (.gs 5 []) [])))])
 (.seq (.reg [oo 5 (.move (tq 0) false),
   oo 6 (.call 236 [((tq 5),0)] []),
   oo 7 (.build (rp 32 (.sc (.int .u8 0)) (rp 2 (.sl 5 []) [])) [(0,32,(tq 6))]),
   oo 3 (.alloc true (rp 32 (.sc (.int .u8 0)) (rp 2 (.gs 5 []) []))),
   oz (.store 34 (tq 3) (tq 7))])
 (.seq (.seq (.reg [oo 8 (.move (tq 0) false),
   oo 9 (.call 231 [((tq 8),0),((.const (.sc (.int .i64 40))),0)] []),
   oo 4 (.move (tq 9) false)])
 (.block 0 (.loop (bl 29 49) (bl 313358403731455 49)
 ze7)))
 zoU)))⟩
def zt6:Hint:=⟨[(0,0),(1,3),(9,12),(6,7)],[],[none,some ((bl 29 49),(bl 313358403731455 49)),none,some ((bl 12 49),(bl 313358403731439 49)),none,none,none,none,none],[],[],false,false⟩
def zdb:Nat→Sh:=xP [(30,(.sl 5)),(36,(.sl 5)),(39,(.sl 5))]
def zda (xB:zcy) (za:xj) (xz:zcf) (zd:zy) (yw:zbC) (L:Nat):CBC:=(zx 273 (zlY yw L) (zx 262 (ziP zd L) (zx 272 (znv xz L) (zx 231 (zbs za L) (zx 236 (zpk xB L) noC)))))
def ziC:St→St:=zaj 1 (bl 29 49) (bl 313358403731455 49)
def zf0 (p4:Int) (zKX:List (List V)) (zK0:Int) (b3 b4:List V):St:=⟨((V.ptr 0 0)::(jn 1 ((V.ptr 3 0)::((V.ptr 4 0)::((V.sc (.int .i64 p4))::(jn 44 [])))))),((.live false [(V.sl 1 zKX),(V.sc (.int .i64 zK0))])::(gn 2 ((.live true b3)::((.live true b4)::(gn 45 [])))))⟩
def znc (zKX:List (List V)) (zK0:Int) (b3 b4:List V):St:=⟨(jn 2 ((V.ptr 3 0)::((V.ptr 4 0)::(jn 45 [])))),((.live false [(V.sl 1 zKX),(V.sc (.int .i64 zK0))])::(gn 2 ((.live true b3)::((.live true b4)::(gn 45 [])))))⟩
def ztf {β:Type} (xB:zcy) (za:xj) (xz:zcf) (zd:zy) (yw:zbC) (L:Nat) (zKX:List (List V)) (zK0:Int) (k_hbbaba:Int→List (List V)→Int→List V→List V→Option β):Option β :=
 xB β L zKX zK0 (fun v0 v1 v2 =>
 chk ((List.length v0)=32∧0+32≤34) (
 chk ((List.length (zh (List.replicate 32 (V.sc (.int .u8 (0:Int)))++[(V.sl 5 ([]:List (List V))),(V.sl 5 ([]:List (List V)))]) 0 v0))=34∧0+34≤34) (
 lt (zh (List.replicate 32 (V.sc (.int .u8 (0:Int)))++[(V.gs 5 ([]:List (List V))),(V.gs 5 ([]:List (List V)))]) 0 (zh (List.replicate 32 (V.sc (.int .u8 (0:Int)))++[(V.sl 5 ([]:List (List V))),(V.sl 5 ([]:List (List V)))]) 0 v0)) fun r3 =>
 za β L (40:Int) v1 v2 (fun v4 v5 v6 =>
 k_hbbaba v4 v5 v6 (List.replicate 32 (V.sc (.int .u8 (0:Int)))++[(V.gs 5 ([]:List (List V))),(V.gs 5 ([]:List (List V)))]) r3))))
theorem zB5 {β:Type} (xB:zcy) (za:xj) (xz:zcf) (zd:zy) (yw:zbC) (L:Nat) (zKX:List (List V)) (zK0:Int) (k:KK β):xt zdb (zda xB za xz zd yw L) L zfG [(V.ptr 0 0)] [(.live false [(V.sl 1 zKX),(V.sc (.int .i64 zK0))])] k=ztf xB za xz zd yw L zKX zK0 (fun p4 zKX zK0 b3 b4=>yF (xm zdb (zda xB za xz zd yw L) 1 L ze7) ziC L (zf0 p4 zKX zK0 b3 b4) (xE 0 (xR (xm zdb (zda xB za xz zd yw L) 1 L zoU) (y5 1 (CF.res zfG) k)))):=by kernel_rfl
def zeb {β:Type} (xB:zcy) (za:xj) (xz:zcf) (zd:zy) (yw:zbC) (L:Nat) (p4:Int) (zKX:List (List V)) (zK0:Int) (b3 b4:List V) (k_hbbaba:Int→List (List V)→Int→List V→List V→Option β) (k_x0:List (List V)→Int→List V→List V→Option β):Option β :=
 ifb (decide (p4 > (0:Int))) (
 za β L (4:Int) zKX zK0 (fun v7 v8 v9 =>
 ifb ((v7:Int) == (0:Int)) (
 cLd 5 b4 32 fun v10 =>
 ifb (decide (((List.length v10:Nat):Int) > (0:Int))) (
 chk (0+34≤(List.length b4)) (
 cLd 5 b4 32 fun v11 =>
 cLd 5 b4 32 fun v12 =>
 za β L ((List.length v12:Nat):Int) v8 v9 (fun v13 v14 v15 =>
 idx v11 v13 fun c16 =>
 xz β L (List.map V.dem (List.take 34 b4)) (List.take 3 (List.drop 1 c16)) (fun v17 v18 =>
 chk ((List.length v17)=34∧0+34≤(List.length b4)) (
 lt (zh b4 0 v17) fun r19 =>
 lt (IntKind.wrap .i64 ((p4:Int) - (1:Int))) fun x20 =>
 k_hbbaba x20 v14 v15 b3 r19))))) (
 lt (IntKind.wrap .i64 ((p4:Int) - (1:Int))) fun x21 =>
 k_hbbaba x21 v8 v9 b3 b4)) (
 chk (0+34≤(List.length b4)) (
 zd β L v8 v9 (fun v22 v23 v24 =>
 za β L (4:Int) v23 v24 (fun v25 v26 v27 =>
 lt (IntKind.wrap .u32 v25) fun x28 =>
 yw β L (List.map V.dem (List.take 34 b4)) v22 x28 (fun v29 v30 v31 =>
 chk ((List.length v29)=34∧0+34≤(List.length b4)) (
 lt (zh b4 0 v29) fun r32 =>
 lt (IntKind.wrap .i64 ((p4:Int) - (1:Int))) fun x33 =>
 k_hbbaba x33 v26 v27 b3 r32)))))))) (
 k_x0 zKX zK0 b3 b4)
theorem zwo {β:Type} (xB:zcy) (za:xj) (xz:zcf) (zd:zy) (yw:zbC) (L:Nat) (p4:Int) (zKX:List (List V)) (zK0:Int) (b3 b4:List V) (X:St→Option β) (K:KT β):xm zdb (zda xB za xz zd yw L) 1 L ze7 (zf0 p4 zKX zK0 b3 b4) (zbR ziC X K)=zeb xB za xz zd yw L p4 zKX zK0 b3 b4 (fun p4 zKX zK0 b3 b4=>X (zf0 p4 zKX zK0 b3 b4)) (fun zKX zK0 b3 b4=>K (.exit 0) (znc zKX zK0 b3 b4)):=by kernel_rfl
def zj4 {β:Type} (xB:zcy) (za:xj) (xz:zcf) (zd:zy) (yw:zbC) (L:Nat) (zKX:List (List V)) (zK0:Int) (b3 b4:List V) (k_fin:List V→List (List V)→Int→Option β):Option β :=
 chk (0+34≤(List.length b4)) (
 chk ((List.length (List.take 34 b4))=34∧0+34≤(List.length b3)) (
 lt (zh b3 0 (List.take 34 b4)) fun r34 =>
 chk (0=0∧(List.length r34)=34∧34≠0) (
 k_fin r34 zKX zK0)))
theorem ztU {β:Type} (xB:zcy) (za:xj) (xz:zcf) (zd:zy) (yw:zbC) (L:Nat) (zKX:List (List V)) (zK0:Int) (b3 b4:List V) (k:KK β):(xE 0 (xR (xm zdb (zda xB za xz zd yw L) 1 L zoU) (y5 1 (CF.res zfG) k))) (.exit 0) (znc zKX zK0 b3 b4)=zj4 xB za xz zd yw L zKX zK0 b3 b4 (fun p0 zKX zK0=>k (V.agg p0) [(.live false [(V.sl 1 zKX),(V.sc (.int .i64 zK0))])]):=by kernel_rfl
def zcr {β:Type} (xB:zcy) (za:xj) (xz:zcf) (zd:zy) (yw:zbC) (L:Nat) (k_x0:List (List V)→Int→List V→List V→Option β):Nat→Int→List (List V)→Int→List V→List V→Option β
 | 0,_,_,_,_,_=>none
 | n+1,p4,zKX,zK0,b3,b4=>zeb xB za xz zd yw L p4 zKX zK0 b3 b4 (fun p4 zKX zK0 b3 b4=>zcr xB za xz zd yw L k_x0 n p4 zKX zK0 b3 b4) k_x0
theorem zoi {β:Type} (xB:zcy) (za:xj) (xz:zcf) (zd:zy) (yw:zbC) (L:Nat) (K:KT β):∀ (n:Nat) (p4:Int) (zKX:List (List V)) (zK0:Int) (b3 b4:List V),yF (xm zdb (zda xB za xz zd yw L) 1 L ze7) ziC n (zf0 p4 zKX zK0 b3 b4) K=zcr xB za xz zd yw L (fun zKX zK0 b3 b4=>K (.exit 0) (znc zKX zK0 b3 b4)) n p4 zKX zK0 b3 b4:=by
 intro n
 induction n with
 | zero=>intros; rfl
 | succ n ih =>
  intro p4 zKX zK0 b3 b4
  refine (zwo xB za xz zd yw L p4 zKX zK0 b3 b4 (fun σ=>yF (xm zdb (zda xB za xz zd yw L) 1 L ze7) ziC n σ K) K).trans ?_
  simp only [ih]
  rfl
def zpi {β:Type} (xB:zcy) (za:xj) (xz:zcf) (zd:zy) (yw:zbC) (L:Nat) (zKX:List (List V)) (zK0:Int) (k_fin:List V→List (List V)→Int→Option β):Option β :=
 ztf xB za xz zd yw L zKX zK0 (fun p4 zKX zK0 b3 b4=>zcr xB za xz zd yw L (fun zKX zK0 b3 b4=>zj4 xB za xz zd yw L zKX zK0 b3 b4 k_fin) L p4 zKX zK0 b3 b4)
theorem zBO {β:Type} (xB:zcy) (za:xj) (xz:zcf) (zd:zy) (yw:zbC) (L:Nat) (zKX:List (List V)) (zK0:Int) (k:KK β):xt zdb (zda xB za xz zd yw L) L zfG [(V.ptr 0 0)] [(.live false [(V.sl 1 zKX),(V.sc (.int .i64 zK0))])] k=zpi xB za xz zd yw L zKX zK0 (fun p0 zKX zK0=>k (V.agg p0) [(.live false [(V.sl 1 zKX),(V.sc (.int .i64 zK0))])]):=by
 refine (zB5 xB za xz zd yw L zKX zK0 k).trans ?_
 unfold zpi
 first
  | (simp only [zoi,ztU]; done)
  | (simp only [zoi]; rfl)
abbrev xv:=∀ (β:Type),Nat→List (List V)→Int→(List V→List (List V)→Int→Option β)→Option β
def xd (β:Type) (L:Nat) (zKX:List (List V)) (zK0:Int) (k_fin:List V→List (List V)→Int→Option β):Option β:=zpi xB za xz zd yw L zKX zK0 k_fin
def zg0 (xd:xv) (L:Nat) (β:Type) (args:List V) (bor:Bor) (k:KK β):Option β:=match args,bor with
 | [a0],[(.live false [w0_0,w0_1])]=>aP 0 0 a0 (aL 1 w0_0 fun zKX=>aI .i64 w0_1 fun zK0=>xd β L zKX zK0 (fun p0 zKX zK0=>k (V.agg p0) [(.live false [(V.sl 1 zKX),(V.sc (.int .i64 zK0))])]))
 | _,_=>none
theorem zB3 (L:Nat) (β:Type) (args:List V) (bor:Bor) (k:KK β) (r:β) (h:zg0 xd L β args bor k=some r):xt zdb (zda xB za xz zd yw L) L zfG args bor k=some r:=by
 unfold zg0 at h
 split at h
 ·have q:=zlz h; clear h; obtain ⟨rfl,h⟩:=q
  have q:=y4 h; clear h; obtain ⟨zKX,rfl,h⟩:=q
  have q:=za5 h; clear h; obtain ⟨zK0,rfl,h⟩:=q
  exact (zBO xB za xz zd yw L zKX zK0 k).trans h
 ·cases h
def zpO:CF:=⟨15,[.tmp 6],
 (.seq (.reg [oo 6 (.move (.const (.sc (.int .i64 0))) false)])
 (.seq (.reg [oo 7 (.move (tq 1) false),
   oo 8 (.move (tq 0) false),
   oo 9 (.move (tq 2) false),
   oo 10 (.move (tq 1) false),
   oo 11 (.bin .sub (tq 9) (tq 10)),
   oo 12 (.bin .add (tq 11) (.const (.sc (.int .i64 1)))),
   oo 13 (.call 231 [((tq 8),0),((tq 12),0)] []),
   oo 14 (.bin .add (tq 7) (tq 13)),
   oo 6 (.move (tq 14) false)])
 .ret))⟩
def znK:Hint:=⟨[],[],[none],[],[],false,false⟩
def zHF:Nat→Sh:=xP []
def zHb (za:xj) (L:Nat):CBC:=(zx 231 (zbs za L) noC)
def zyF {β:Type} (za:xj) (L:Nat) (p1 p2:Int) (zKX:List (List V)) (zK0:Int) (k_fin:Int→List (List V)→Int→Option β):Option β :=
 lt (IntKind.wrap .i64 ((p2:Int) - p1)) fun x0 =>
 lt (IntKind.wrap .i64 ((x0:Int)+(1:Int))) fun x1 =>
 za β L x1 zKX zK0 (fun v2 v3 v4 =>
 lt (IntKind.wrap .i64 ((p1:Int)+v2)) fun x5 =>
 k_fin x5 v3 v4)
abbrev zcP:=∀ (β:Type),Nat→Int→Int→List (List V)→Int→(Int→List (List V)→Int→Option β)→Option β
def zU (β:Type) (L:Nat) (p1 p2:Int) (zKX:List (List V)) (zK0:Int) (k_fin:Int→List (List V)→Int→Option β):Option β:=zyF za L p1 p2 zKX zK0 k_fin
def zx3 (zU:zcP) (L:Nat) (β:Type) (args:List V) (bor:Bor) (k:KK β):Option β:=match args,bor with
 | [a0,a1,a2],[(.live false [w0_0,w0_1])]=>aP 0 0 a0 (aI .i64 a1 fun p1=>aI .i64 a2 fun p2=>aL 1 w0_0 fun zKX=>aI .i64 w0_1 fun zK0=>zU β L p1 p2 zKX zK0 (fun p0 zKX zK0=>k (V.sc (.int .i64 p0)) [(.live false [(V.sl 1 zKX),(V.sc (.int .i64 zK0))])]))
 | _,_=>none
def zwB:CC:=(.seq (.seq (.reg [oo 5 (.move (tq 4) false),
   oo 6 (.bin .lss (tq 5) (.const (.sc (.int .i64 8))))])
 (.cond (tq 6)
 .skip
 (.seq (.mask (bl 8 30) (bl 662158319 30))
 (.exit 0))))
 (.seq (.block 1 (.seq (.reg [oo 9 (.move (tq 0) false),
   oo 10 (.call 231 [((tq 9),0),((.const (.sc (.int .i64 2))),0)] []),
   oo 11 (.bin .eql (tq 10) (.const (.sc (.int .i64 0))))])
 (.cond (tq 11)
 (.reg [oo 12 (.move (tq 3) true),
   oo 13 (.move (tq 0) false),
   oo 14 (.call 274 [((tq 13),0),((.const (.sc (.int .i64 1))),0),((.const (.sc (.int .i64 3))),0)] []),
   oo 15 (.move (tq 4) false),
   oo 16 (.conv .u32 (tq 15)),
   oo 17 (.bin .shl (tq 16) (.const (.sc (.int .u64 16)))),
   oo 18 (.move (tq 0) false),
   oo 19 (.call 231 [((tq 18),0),((.const (.sc (.int .i64 3))),0)] []),
   oo 20 (.conv .u32 (tq 19)),
   oo 21 (.bin .add (tq 17) (tq 20)),
   oo 22 (.move (tq 0) false),
   oo 23 (.call 231 [((tq 22),0),((.const (.sc (.int .i64 2))),0)] []),
   oo 24 (.conv .u16 (tq 23)),
   oo 25 (.build [(.sc (.int .u32 0)),(.sc (.int .u16 0)),(.sc (.int .u32 0))] [(0,1,(tq 21)),(1,1,(tq 24))]),
   oo 26 (.build [(.sc (.int .i64 0)),(.sc (.int .u32 0)),(.sc (.int .u16 0)),(.sc (.int .u32 0))] [(0,1,(tq 14)),(1,3,(tq 25))]),
   oo 27 (.buildSlice 4 1 [(.sc (.int .i64 0)),(.sc (.int .u32 0)),(.sc (.int .u16 0)),(.sc (.int .u32 0))] [(0,4,(tq 26))]),
   oo 28 (.append 4 24 (tq 12) (tq 27)),
   oo 3 (.move (tq 28) true)])
 .skip)))
 (.reg [oo 7 (.move (tq 4) false),
   oo 8 (.bin .add (tq 7) (.const (.sc (.int .i64 1)))),
   oo 4 (.move (tq 8) false)])))
def zAm:CC:=(.seq (.reg [oo 29 (.move (tq 3) true),
   oo 2 (.move (tq 29) true)])
 .ret)
def zvU:CF:=⟨30,[.tmp 2],
 (.seq (.reg [oo 2 (.move (.const (.gs 4 [])) true)])
 (.seq (.reg [oo 3 (.move (.const (.gs 4 [])) true)])
 (.seq (.seq (.reg [oo 4 (.move (.const (.sc (.int .i64 0))) false)])
 (.block 0 (.loop (bl 25 30) (bl 662158335 30)
 zwB)))
 zAm)))⟩
def zs4:Hint:=⟨[(0,0),(1,0),(6,0),(6,17),(7,0),(7,1)],[],[none,some ((bl 25 30),(bl 662158335 30)),none,some ((bl 8 30),(bl 662158319 30)),none,none,none],[],[],false,false⟩
def zJ0:Nat→Sh:=xP []
def zJZ (za:xj) (zU:zcP) (L:Nat):CBC:=(zx 274 (zx3 zU L) (zx 231 (zbs za L) noC))
def zHW:St→St:=zaj 1 (bl 25 30) (bl 662158335 30)
def zGq (p3:List (List V)) (p4:Int) (zKX:List (List V)) (zK0:Int):St:=⟨((V.ptr 0 0)::(jn 2 ((V.gs 4 p3)::((V.sc (.int .i64 p4))::(jn 25 []))))),((.live false [(V.sl 1 zKX),(V.sc (.int .i64 zK0))])::(gn 30 []))⟩
def zIs (p3 zKX:List (List V)) (zK0:Int):St:=⟨(jn 3 ((V.gs 4 p3)::(jn 26 []))),((.live false [(V.sl 1 zKX),(V.sc (.int .i64 zK0))])::(gn 30 []))⟩
def zDT {β:Type} (za:xj) (zU:zcP) (L:Nat) (zKX:List (List V)) (zK0:Int) (k_hbbaba:List (List V)→Int→List (List V)→Int→Option β):Option β :=
 k_hbbaba ([]:List (List V)) (0:Int) zKX zK0
def zyd {β:Type} (za:xj) (zU:zcP) (L:Nat) (p3:List (List V)) (p4:Int) (zKX:List (List V)) (zK0:Int) (k_hbbaba:List (List V)→Int→List (List V)→Int→Option β) (k_x0:List (List V)→List (List V)→Int→Option β):Option β :=
 ifb (decide (p4 < (8:Int))) (
 za β L (2:Int) zKX zK0 (fun v0 v1 v2 =>
 ifb ((v0:Int) == (0:Int)) (
 zU β L (1:Int) (3:Int) v1 v2 (fun v3 v4 v5 =>
 lt (IntKind.wrap .u32 p4) fun x6 =>
 lt (zr8 .u32 x6 (16:Int)) fun x7 =>
 za β L (3:Int) v4 v5 (fun v8 v9 v10 =>
 lt (IntKind.wrap .u32 v8) fun x11 =>
 lt (IntKind.wrap .u32 ((x7:Int)+x11)) fun x12 =>
 za β L (2:Int) v9 v10 (fun v13 v14 v15 =>
 lt (IntKind.wrap .u16 v13) fun x16 =>
 chk ((List.length p3+List.length (zl 4 1 [(V.sc (.int .i64 v3)),(V.sc (.int .u32 x12)),(V.sc (.int .u16 x16)),(V.sc (.int .u32 (0:Int)))])) * 24≤zt∧List.length p3+List.length (zl 4 1 [(V.sc (.int .i64 v3)),(V.sc (.int .u32 x12)),(V.sc (.int .u16 x16)),(V.sc (.int .u32 (0:Int)))])≤zt) (
 lt (p3++(zl 4 1 [(V.sc (.int .i64 v3)),(V.sc (.int .u32 x12)),(V.sc (.int .u16 x16)),(V.sc (.int .u32 (0:Int)))])) fun l17 =>
 lt (IntKind.wrap .i64 ((p4:Int)+(1:Int))) fun x18 =>
 k_hbbaba l17 x18 v14 v15))))) (
 lt (IntKind.wrap .i64 ((p4:Int)+(1:Int))) fun x19 =>
 k_hbbaba p3 x19 v1 v2))) (
 k_x0 p3 zKX zK0)
def zv1 {β:Type} (za:xj) (zU:zcP) (L:Nat) (p3 zKX:List (List V)) (zK0:Int) (k_fin:List (List V)→List (List V)→Int→Option β):Option β :=
 k_fin p3 zKX zK0
def zqA {β:Type} (za:xj) (zU:zcP) (L:Nat) (k_x0:List (List V)→List (List V)→Int→Option β):Nat→List (List V)→Int→List (List V)→Int→Option β
 | 0,_,_,_,_=>none
 | n+1,p3,p4,zKX,zK0=>zyd za zU L p3 p4 zKX zK0 (fun p3 p4 zKX zK0=>zqA za zU L k_x0 n p3 p4 zKX zK0) k_x0
def zDM {β:Type} (za:xj) (zU:zcP) (L:Nat) (zKX:List (List V)) (zK0:Int) (k_fin:List (List V)→List (List V)→Int→Option β):Option β :=
 zDT za zU L zKX zK0 (fun p3 p4 zKX zK0=>zqA za zU L (fun p3 zKX zK0=>zv1 za zU L p3 zKX zK0 k_fin) L p3 p4 zKX zK0)
abbrev zaC:=∀ (β:Type),Nat→List (List V)→Int→(List (List V)→List (List V)→Int→Option β)→Option β
def xC (β:Type) (L:Nat) (zKX:List (List V)) (zK0:Int) (k_fin:List (List V)→List (List V)→Int→Option β):Option β:=zDM za zU L zKX zK0 k_fin
def zED (xC:zaC) (L:Nat) (β:Type) (args:List V) (bor:Bor) (k:KK β):Option β:=match args,bor with
 | [a0],[(.live false [w0_0,w0_1])]=>aP 0 0 a0 (aL 1 w0_0 fun zKX=>aI .i64 w0_1 fun zK0=>xC β L zKX zK0 (fun p0 zKX zK0=>k (V.gs 4 p0) [(.live false [(V.sl 1 zKX),(V.sc (.int .i64 zK0))])]))
 | _,_=>none
def zxb:CC:=(.seq (.seq (.reg [oo 6 (.move (tq 5) false),
   oo 7 (.move (tq 0) false),
   oo 8 (.lenS (tq 7)),
   oo 9 (.bin .lss (tq 6) (tq 8))])
 (.cond (tq 9)
 .skip
 (.seq (.mask (bl 0 21) (bl 1441479 21))
 (.exit 0))))
 (.seq (.block 1 (.seq (.dreg [] [(oo 12 (.move (tq 0) false),q0),
   (oo 13 (.move (tq 5) false),q0),
   (oo 14 (.indexAddrS 4 (tq 12) (tq 13)),q0),
   (oo 15 (.fieldAddr 1 (tq 14)),q0),
   (oo 16 (.load true 3 (tq 15) false),q1),
   (oo 17 (.call 294 [((tq 16),0)] []),{ q0 with w:=[3] }),
   (oo 18 (.load true 3 (tq 3) false),{ q1 with root:=some 3 }),
   (oo 19 (.call 294 [((tq 18),0)] []),q0),
   (oo 20 (.bin .eql (tq 17) (tq 19)),q0)])
 (.cond (tq 20)
 (.seq (.reg [oo 4 (.move (.const (.sc (.bool true))) false)])
 (.seq (.mask (bl 16 21) (bl 1441495 21))
 .ret))
 .skip)))
 (.reg [oo 10 (.move (tq 5) false),
   oo 11 (.bin .add (tq 10) (.const (.sc (.int .i64 1)))),
   oo 5 (.move (tq 11) false)])))
def zAL:CC:=(.seq (.reg [oo 4 (.move (.const (.sc (.bool false))) false)])
 .ret)
def zuG:CF:=⟨21,[.tmp 4],
 (.seq (.reg [oo 3 (.box true (tq 1)),
   oo 4 (.move (.const (.sc (.bool false))) false)])
 (.seq (.seq (.reg [oo 5 (.move (.const (.sc (.int .i64 0))) false)])
 (.block 0 (.loop (bl 41 21) (bl 1441519 21)
 zxb)))
 zAL))⟩
def zrG:Hint:=⟨[],[],[none,some ((bl 41 21),(bl 1441519 21)),none,some ((bl 0 21),(bl 1441479 21)),none,none,some ((bl 16 21),(bl 1441495 21)),none],[],[],false,false⟩
def zJC:Nat→Sh:=xP []
def zJY (yk:zap) (L:Nat):CBC:=(zx 294 (ze1 yk L) noC)
def zHY:St→St:=zaj 0 (bl 41 21) (bl 1441519 21)
def zFU (p0:List (List V)) (p5:Int) (b3:List V):St:=⟨((V.sl 4 p0)::(jn 2 ((V.ptr 3 0)::(jn 1 ((V.sc (.int .i64 p5))::(jn 15 [])))))),(gn 3 ((.live true b3)::(gn 17 [])))⟩
def zG2 (p4:Bool):St:=⟨(jn 4 ((V.sc (.bool p4))::(jn 16 []))),(gn 21 [])⟩
def zHV:St:=⟨(jn 21 []),(gn 21 [])⟩
def zDe {β:Type} (yk:zap) (L:Nat) (p0:List (List V)) (p1:List V) (k_hbaba:List (List V)→Int→List V→Option β):Option β :=
 k_hbaba p0 (0:Int) p1
def zyh {β:Type} (yk:zap) (L:Nat) (p0:List (List V)) (p5:Int) (b3:List V) (k_ret:Bool→Option β) (k_hbaba:List (List V)→Int→List V→Option β) (k_x0:Option β):Option β :=
 ifb (decide (p5 < ((List.length p0:Nat):Int))) (
 idx p0 p5 fun c0 =>
 yk β L (List.take 3 (List.drop 1 c0)) (fun v1 =>
 chk (0+3≤(List.length b3)) (
 yk β L (List.take 3 b3) (fun v2 =>
 ifb ((v1:Int) == v2) (
 k_ret true) (
 lt (IntKind.wrap .i64 ((p5:Int)+(1:Int))) fun x3 =>
 k_hbaba p0 x3 b3))))) (
 k_x0)
def zuV {β:Type} (yk:zap) (L:Nat) (p4:Bool) (k_fin:Bool→Option β):Option β :=
 k_fin p4
def zwn {β:Type} (yk:zap) (L:Nat) (k_fin:Bool→Option β):Option β :=
 k_fin false
def zqp {β:Type} (yk:zap) (L:Nat) (k_ret:Bool→Option β) (k_x0:Option β):Nat→List (List V)→Int→List V→Option β
 | 0,_,_,_=>none
 | n+1,p0,p5,b3=>zyh yk L p0 p5 b3 k_ret (fun p0 p5 b3=>zqp yk L k_ret k_x0 n p0 p5 b3) k_x0
def zC6 {β:Type} (yk:zap) (L:Nat) (p0:List (List V)) (p1:List V) (k_fin:Bool→Option β):Option β :=
 zDe yk L p0 p1 (fun p0 p5 b3=>zqp yk L (fun p4=>zuV yk L p4 k_fin) (zwn yk L k_fin) L p0 p5 b3)
abbrev xO:=∀ (β:Type),Nat→List (List V)→List V→(Bool→Option β)→Option β
def yo (β:Type) (L:Nat) (p0:List (List V)) (p1:List V) (k_fin:Bool→Option β):Option β:=zC6 yk L p0 p1 k_fin
def zp1 (yo:xO) (L:Nat) (β:Type) (args:List V) (bor:Bor) (k:KK β):Option β:=match args,bor with
 | [a0,a1],[]=>aL 4 a0 fun p0=>aG a1 fun p1=>yo β L p0 p1 (fun p0=>k (V.sc (.bool p0)) [])
 | _,_=>none
def zxF:CC:=(.seq (.seq (.reg [oo 4 (.move (tq 3) false),
   oo 5 (.move (tq 0) false),
   oo 6 (.lenS (tq 5)),
   oo 7 (.bin .lss (tq 4) (tq 6))])
 (.cond (tq 7)
 .skip
 (.seq (.mask (bl 1 38) (bl 266287972275 38))
 (.exit 0))))
 (.seq (.block 1 (.seq (.dreg [] [(oo 10 (.move (tq 0) false),q0),
   (oo 11 (.move (tq 3) false),q0),
   (oo 12 (.indexAddrS 4 (tq 10) (tq 11)),q0),
   (oo 13 (.fieldAddr 0 (tq 12)),q0),
   (oo 14 (.load false 1 (tq 13) false),q0),
   (oo 15 (.bin .lss (tq 14) (.const (.sc (.int .i64 1)))),q0),
   (oo 16 (.move (tq 15) false),q0),
   (⟨(some 17),false,(some (16,false)),.move (tq 0) false⟩,q0),
   (⟨(some 18),false,(some (16,false)),.move (tq 3) false⟩,q0),
   (⟨(some 19),false,(some (16,false)),.indexAddrS 4 (tq 17) (tq 18)⟩,q0),
   (⟨(some 20),false,(some (16,false)),.fieldAddr 0 (tq 19)⟩,q0),
   (⟨(some 21),false,(some (16,false)),.load false 1 (tq 20) false⟩,q0),
   (⟨(some 22),false,(some (16,false)),.bin .gtr (tq 21) (.const (.sc (.int .i64 3)))⟩,q0),
   (oo 23 (.pick (tq 16) (.const (.sc (.bool true))) (tq 22)),q0),
   (oo 24 (.move (tq 23) false),q0),
   (⟨(some 25),false,(some (24,false)),.move (tq 0) false⟩,q0),
   (⟨(some 26),false,(some (24,false)),.move (tq 3) false⟩,q0),
   (⟨(some 27),false,(some (24,false)),.sliceS 4 (tq 25) none (some (tq 26)) none⟩,q0),
   (⟨(some 28),false,(some (24,false)),.move (tq 0) false⟩,q0),
   (⟨(some 29),false,(some (24,false)),.move (tq 3) false⟩,q0),
   (⟨(some 30),false,(some (24,false)),.indexAddrS 4 (tq 28) (tq 29)⟩,q0),
   (⟨(some 31),false,(some (24,false)),.fieldAddr 1 (tq 30)⟩,q0),
   (⟨(some 32),false,(some (24,false)),.load true 3 (tq 31) false⟩,q0),
   (⟨(some 33),false,(some (24,false)),.call 283 [((tq 27),0),((tq 32),0)] []⟩,q0),
   (oo 34 (.pick (tq 24) (.const (.sc (.bool true))) (tq 33)),q0)])
 (.cond (tq 34)
 (.seq (.reg [oo 2 (.move (.const (.sc (.bool false))) false)])
 (.seq (.mask (bl 4 38) (bl 266287972279 38))
 .ret))
 .skip)))
 (.reg [oo 8 (.move (tq 3) false),
   oo 9 (.bin .add (tq 8) (.const (.sc (.int .i64 1)))),
   oo 3 (.move (tq 9) false)])))
def zA8:CC:=(.seq (.reg [oo 35 (.move (tq 0) false),
   oo 36 (.lenS (tq 35)),
   oo 37 (.bin .leq (tq 36) (.const (.sc (.int .i64 8)))),
   oo 2 (.move (tq 37) false)])
 .ret)
def zuq:CF:=⟨38,[.tmp 2],
 (.seq (.reg [oo 2 (.move (.const (.sc (.bool false))) false)])
 (.seq (.seq (.reg [oo 3 (.move (.const (.sc (.int .i64 0))) false)])
 (.block 0 (.loop (bl 9 38) (bl 266287972283 38)
 zxF)))
 zA8))⟩
def zrs:Hint:=⟨[],[],[none,some ((bl 9 38),(bl 266287972283 38)),none,some ((bl 1 38),(bl 266287972275 38)),none,none,some ((bl 4 38),(bl 266287972279 38)),none],[],[],false,false⟩
def zJt:Nat→Sh:=xP [(14,(.int .i64)),(21,(.int .i64))]
def zJv (yo:xO) (L:Nat):CBC:=(zx 283 (zp1 yo L) noC)
def zHX:St→St:=zaj 0 (bl 9 38) (bl 266287972283 38)
def zF0 (p0:List (List V)) (p3:Int):St:=⟨((V.sl 4 p0)::(jn 2 ((V.sc (.int .i64 p3))::(jn 34 [])))),(gn 38 [])⟩
def zHv (p2:Bool):St:=⟨(jn 2 ((V.sc (.bool p2))::(jn 35 []))),(gn 38 [])⟩
def zHU (p0:List (List V)):St:=⟨((V.sl 4 p0)::(jn 37 [])),(gn 38 [])⟩
def zC4 {β:Type} (yo:xO) (L:Nat) (p0:List (List V)) (k_hbaba:List (List V)→Int→Option β):Option β :=
 k_hbaba p0 (0:Int)
def zyk {β:Type} (yo:xO) (L:Nat) (p0:List (List V)) (p3:Int) (k_ret:Bool→Option β) (k_hbaba:List (List V)→Int→Option β) (k_x0:List (List V)→Option β):Option β :=
 ifb (decide (p3 < ((List.length p0:Nat):Int))) (
 idx p0 p3 fun c0 =>
 cI .i64 c0 0 fun v1 =>
 ifb (decide (v1 < (1:Int))) (
 k_ret false) (
 idx p0 p3 fun c2 =>
 cI .i64 c2 0 fun v3 =>
 ifb (decide (v3 > (3:Int))) (
 k_ret false) (
 chk (0≤p3∧p3≤(((List.length p0):Nat):Int)) (
 idx p0 p3 fun c4 =>
 yo β L (List.take ((Int.toNat p3) - 0) (List.drop 0 p0)) (List.take 3 (List.drop 1 c4)) (fun v5 =>
 ifb v5 (
 k_ret false) (
 lt (IntKind.wrap .i64 ((p3:Int)+(1:Int))) fun x6 =>
 k_hbaba p0 x6)))))) (
 k_x0 p0)
def zvv {β:Type} (yo:xO) (L:Nat) (p2:Bool) (k_fin:Bool→Option β):Option β :=
 k_fin p2
def zwf {β:Type} (yo:xO) (L:Nat) (p0:List (List V)) (k_fin:Bool→Option β):Option β :=
 k_fin (decide (((List.length p0:Nat):Int)≤(8:Int)))
def zqu {β:Type} (yo:xO) (L:Nat) (k_ret:Bool→Option β) (k_x0:List (List V)→Option β):Nat→List (List V)→Int→Option β
 | 0,_,_=>none
 | n+1,p0,p3=>zyk yo L p0 p3 k_ret (fun p0 p3=>zqu yo L k_ret k_x0 n p0 p3) k_x0
def zDr {β:Type} (yo:xO) (L:Nat) (p0:List (List V)) (k_fin:Bool→Option β):Option β :=
 zC4 yo L p0 (fun p0 p3=>zqu yo L (fun p2=>zvv yo L p2 k_fin) (fun p0=>zwf yo L p0 k_fin) L p0 p3)
abbrev zdT:=∀ (β:Type),Nat→List (List V)→(Bool→Option β)→Option β
def zae (β:Type) (L:Nat) (p0:List (List V)) (k_fin:Bool→Option β):Option β:=zDr yo L p0 k_fin
def zDc (zae:zdT) (L:Nat) (β:Type) (args:List V) (bor:Bor) (k:KK β):Option β:=match args,bor with
 | [a0],[]=>aL 4 a0 fun p0=>zae β L p0 (fun p0=>k (V.sc (.bool p0)) [])
 | _,_=>none
def zwa:CC:=(.seq (.seq (.reg [oo 7 (.move (tq 6) false),
   oo 8 (.move (tq 0) false),
   oo 9 (.lenS (tq 8)),
   oo 10 (.bin .lss (tq 7) (tq 9))])
 (.cond (tq 10)
 .skip
 (.seq (.mask (bl 32 23) (bl 8388031 23))
 (.exit 0))))
 (.seq (.block 1 (.seq (.reg [oo 13 (.move (tq 0) false),
   oo 14 (.move (tq 6) false),
   oo 15 (.indexAddrS 4 (tq 13) (tq 14)),
   oo 16 (.fieldAddr 0 (tq 15)),
   oo 17 (.load false 1 (tq 16) false),
   oo 18 (.move (tq 1) false),
   oo 19 (.bin .eql (tq 17) (tq 18))])
 (.cond (tq 19)
 (.reg [oo 20 (.move (tq 5) false),
   oo 21 (.bin .add (tq 20) (.const (.sc (.int .i64 1)))),
   oo 5 (.move (tq 21) false)])
 .skip)))
 (.reg [oo 11 (.move (tq 6) false),
   oo 12 (.bin .add (tq 11) (.const (.sc (.int .i64 1)))),
   oo 6 (.move (tq 12) false)])))
def zzb:CC:=(.seq (.reg [oo 22 (.move (tq 5) false),
   oo 4 (.move (tq 22) false)])
 .ret)
def zun:CF:=⟨23,[.tmp 4],
 (.seq (.reg [oo 4 (.move (.const (.sc (.int .i64 0))) false)])
 (.seq (.reg [oo 5 (.move (.const (.sc (.int .i64 0))) false)])
 (.seq (.seq (.reg [oo 6 (.move (.const (.sc (.int .i64 0))) false)])
 (.block 0 (.loop (bl 99 23) (bl 8388095 23)
 zwa)))
 zzb)))⟩
def zr4:Hint:=⟨[],[],[none,some ((bl 99 23),(bl 8388095 23)),none,some ((bl 32 23),(bl 8388031 23)),none,none,none],[],[],false,false⟩
def zJb:Nat→Sh:=xP [(17,(.int .i64))]
def zJm (L:Nat):CBC:=noC
def zGN:St→St:=zaj 0 (bl 99 23) (bl 8388095 23)
def zFt (p0:List (List V)) (p1 p5 p6:Int):St:=⟨((V.sl 4 p0)::((V.sc (.int .i64 p1))::(jn 3 ((V.sc (.int .i64 p5))::((V.sc (.int .i64 p6))::(jn 16 [])))))),(gn 23 [])⟩
def zHT (p5:Int):St:=⟨(jn 5 ((V.sc (.int .i64 p5))::(jn 17 []))),(gn 23 [])⟩
def zDv {β:Type} (L:Nat) (p0:List (List V)) (p1:Int) (k_hbbaba:List (List V)→Int→Int→Int→Option β):Option β :=
 k_hbbaba p0 p1 (0:Int) (0:Int)
def zwH {β:Type} (L:Nat) (p0:List (List V)) (p1 p5 p6:Int) (k_hbbaba:List (List V)→Int→Int→Int→Option β) (k_x0:Int→Option β):Option β :=
 ifb (decide (p6 < ((List.length p0:Nat):Int))) (
 idx p0 p6 fun c0 =>
 cI .i64 c0 0 fun v1 =>
 ifb ((v1:Int) == p1) (
 lt (IntKind.wrap .i64 ((p5:Int)+(1:Int))) fun x2 =>
 lt (IntKind.wrap .i64 ((p6:Int)+(1:Int))) fun x3 =>
 k_hbbaba p0 p1 x2 x3) (
 lt (IntKind.wrap .i64 ((p6:Int)+(1:Int))) fun x4 =>
 k_hbbaba p0 p1 p5 x4)) (
 k_x0 p5)
def zvz {β:Type} (L:Nat) (p5:Int) (k_fin:Int→Option β):Option β :=
 k_fin p5
def zpM {β:Type} (L:Nat) (k_x0:Int→Option β):Nat→List (List V)→Int→Int→Int→Option β
 | 0,_,_,_,_=>none
 | n+1,p0,p1,p5,p6=>zwH L p0 p1 p5 p6 (fun p0 p1 p5 p6=>zpM L k_x0 n p0 p1 p5 p6) k_x0
def zDt {β:Type} (L:Nat) (p0:List (List V)) (p1:Int) (k_fin:Int→Option β):Option β :=
 zDv L p0 p1 (fun p0 p1 p5 p6=>zpM L (fun p5=>zvz L p5 k_fin) L p0 p1 p5 p6)
abbrev zdR:=∀ (β:Type),Nat→List (List V)→Int→(Int→Option β)→Option β
def xV (β:Type) (L:Nat) (p0:List (List V)) (p1:Int) (k_fin:Int→Option β):Option β:=zDt L p0 p1 k_fin
def zDa (xV:zdR) (L:Nat) (β:Type) (args:List V) (bor:Bor) (k:KK β):Option β:=match args,bor with
 | [a0,a1],[]=>aL 4 a0 fun p0=>aI .i64 a1 fun p1=>xV β L p0 p1 (fun p0=>k (V.sc (.int .i64 p0)) [])
 | _,_=>none
end
end Go.Proofs.Ytpafdnidhnldhaa
