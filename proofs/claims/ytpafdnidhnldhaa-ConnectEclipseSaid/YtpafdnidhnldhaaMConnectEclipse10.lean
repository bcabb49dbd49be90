/- Part 10 of the proof of ConnectEclipse: an abstract machine over plain values, its soundness, and the functions of the program on plain values. -/
import Derived.Test.YtpafdnidhnldhaaMConnectEclipse9
namespace Go.Proofs.Ytpafdnidhnldhaa
section
set_option maxRecDepth 100000
set_option linter.unusedVariables false
set_option linter.unusedSimpArgs false
def y4:CC:=(.seq (.seq (.reg [oo 86 (.move (tq 15) false),
   oo 87 (.move (tq 13) false),
   oo 88 (.bin .lss (tq 86) (tq 87))])
 (.cond (tq 88)
 .skip
 (.seq (.mask (bl 18768 129) (bl 680564733841876926926749214863536390135 129))
 (.exit 0))))
 (.seq (.block 1 (.seq (.dreg [] [(oo 91 (.fieldAddr 32 (tq 8)),q0),
   (oo 92 (.load false 1 (tq 91) false),{ q1 with root:=some 8 }),
   (oo 93 (.move (tq 15) false),q0),
   (oo 94 (.indexAddrS 5 (tq 92) (tq 93)),q0),
   (oo 95 (.fieldAddr 1 (tq 94)),q0),
   (oo 96 (.fieldAddr 2 (tq 95)),q0),
   (oo 97 (.load false 1 (tq 96) false),q1),
   (oo 98 (.fieldAddr 32 (tq 8)),q0),
   (oo 99 (.load false 1 (tq 98) false),{ q1 with root:=some 8 }),
   (oo 100 (.move (tq 14) false),q0),
   (oo 101 (.indexAddrS 5 (tq 99) (tq 100)),q0),
   (oo 102 (.fieldAddr 1 (tq 101)),q0),
   (oo 103 (.fieldAddr 2 (tq 102)),q0),
   (oo 104 (.load false 1 (tq 103) false),q1),
   (oo 105 (.bin .lss (tq 97) (tq 104)),q0)])
 (.cond (tq 105)
 (.reg [oo 106 (.move (tq 15) false),
   oo 14 (.move (tq 106) false)])
 .skip)))
 (.reg [oo 89 (.move (tq 15) false),
   oo 90 (.bin .add (tq 89) (.const (.sc (.int .i64 1)))),
   oo 15 (.move (tq 90) false)])))
def zcw:CC:=(.seq (.seq (.dreg [] [(oo 107 (.fieldAddr 32 (tq 8)),q0),
   (oo 108 (.load false 1 (tq 107) false),{ q1 with root:=some 8 }),
   (oo 109 (.move (tq 14) false),q0),
   (oo 110 (.indexAddrS 5 (tq 108) (tq 109)),q0),
   (oo 111 (.fieldAddr 1 (tq 110)),q0),
   (oo 112 (.fieldAddr 2 (tq 111)),q0),
   (oo 113 (.load false 1 (tq 112) false),q1),
   (oo 114 (.fieldAddr 2 (tq 4)),q0),
   (oo 115 (.load false 1 (tq 114) false),{ q1 with root:=some 4 }),
   (oo 116 (.bin .geq (tq 113) (tq 115)),q0)])
 (.cond (tq 116)
 (.seq (.reg [oo 117 (.load true 34 (tq 8) true),
   oz (.store 34 (tq 6) (tq 117)),
   oo 7 (.move (.const (.sc (.bool false))) false)])
 .ret)
 .skip))
 (.reg [oo 118 (.fieldAddr 32 (tq 8)),
   oo 119 (.load false 1 (tq 118) false),
   oo 120 (.move (tq 14) false),
   oo 121 (.call 289 [((tq 119),0),((tq 120),0)] []),
   oo 122 (.fieldAddr 32 (tq 8)),
   oz (.store 1 (tq 122) (tq 121))]))
def zdO:CC:=(.seq (.reg [oo 123 (.fieldAddr 32 (tq 8)),
   oo 124 (.load false 1 (tq 123) false),
   oo 125 (.load true 5 (tq 11) false),
   oo 126 (.call 292 [((tq 124),0),((tq 125),0)] []),
   oo 127 (.fieldAddr 32 (tq 8)),
   oz (.store 1 (tq 127) (tq 126))])
 (.seq (.reg [oo 128 (.load true 34 (tq 8) true),
   oz (.store 34 (tq 6) (tq 128)),
   oo 7 (.move (.const (.sc (.bool true))) false)])
 .ret))
def zcZ:CF:=⟨129,[.cellS 6 34 true,.tmpP 7],
 (.seq (.reg [oo 3 (.box true (tq 0)),
   oo 4 (.box true (tq 1)),
   oo 6 (.alloc false (rp 32 (.sc (.int .u8 0)) (rp 2 (.gs 5 []) []))),
   oo 7 (.move (.const (.sc (.bool false))) false)])
 (.seq (.reg [oo 16 (.load true 34 (tq 3) false),
   oo 17 (.call 288 [((tq 16),1)] [18,23]),
   oo 8 (.alloc false (rp 32 (.sc (.int .u8 0)) (rp 2 (.gs 5 []) []))),
   oz (.store 34 (tq 8) (tq 17))])
 (.seq (.seq (.reg [oo 18 (.fieldAddr 33 (tq 8)),
   oo 19 (.load false 1 (tq 18) false),
   oo 20 (.load true 3 (tq 4) false),
   oo 21 (.call 287 [((tq 19),2),((tq 20),2)] []),
   oo 9 (.move (tq 21) false)])
 (.seq (.reg [oo 22 (.move (tq 9) false),
   oo 23 (.bin .geq (tq 22) (.const (.sc (.int .i64 0))))])
 (.cond (tq 23)
 (.seq (.dreg [] [(oo 24 (.fieldAddr 33 (tq 8)),q0),
   (oo 25 (.load false 1 (tq 24) false),{ q1 with root:=some 8 }),
   (oo 26 (.move (tq 9) false),q0),
   (oo 27 (.fieldAddr 33 (tq 8)),q0),
   (oo 28 (.load false 1 (tq 27) false),{ q1 with root:=some 8 }),
   (oo 29 (.move (tq 9) false),q0),
   (oo 30 (.indexAddrS 5 (tq 28) (tq 29)),q0),
   (oo 31 (.fieldAddr 1 (tq 30)),q0),
   (oo 32 (.fieldAddr 2 (tq 31)),q0),
   (oo 33 (.load false 1 (tq 32) false),q1),
   (oo 34 (.fieldAddr 2 (tq 4)),q0),
   (oo 35 (.load false 1 (tq 34) false),{ q1 with root:=some 4 }),
   (oo 36 (.mm true (tq 33) (tq 35)),q0),
   (oo 37 (.indexAddrS 5 (tq 25) (tq 26)),q0),
   (oo 38 (.fieldAddr 1 (tq 37)),q0),
   (oo 39 (.fieldAddr 2 (tq 38)),q0),
   (oz (.store 1 (tq 39) (tq 36)),q0)])
 (.seq (.reg [oo 40 (.load true 34 (tq 8) true),
   oz (.store 34 (tq 6) (tq 40)),
   oo 7 (.move (.const (.sc (.bool false))) false)])
 .ret))
 .skip)))
 (.seq (.seq (.reg [oo 41 (.fieldAddr 32 (tq 8)),
   oo 42 (.load false 1 (tq 41) false),
   oo 43 (.load true 3 (tq 4) false),
   oo 44 (.call 287 [((tq 42),2),((tq 43),2)] []),
   oo 10 (.move (tq 44) false)])
 (.seq (.reg [oo 45 (.move (tq 10) false),
   oo 46 (.bin .geq (tq 45) (.const (.sc (.int .i64 0))))])
 (.cond (tq 46)
 (.seq (.dreg [] [(oo 47 (.fieldAddr 32 (tq 8)),q0),
   (oo 48 (.load false 1 (tq 47) false),{ q1 with root:=some 8 }),
   (oo 49 (.move (tq 10) false),q0),
   (oo 50 (.fieldAddr 32 (tq 8)),q0),
   (oo 51 (.load false 1 (tq 50) false),{ q1 with root:=some 8 }),
   (oo 52 (.move (tq 10) false),q0),
   (oo 53 (.indexAddrS 5 (tq 51) (tq 52)),q0),
   (oo 54 (.fieldAddr 1 (tq 53)),q0),
   (oo 55 (.fieldAddr 2 (tq 54)),q0),
   (oo 56 (.load false 1 (tq 55) false),q1),
   (oo 57 (.fieldAddr 2 (tq 4)),q0),
   (oo 58 (.load false 1 (tq 57) false),{ q1 with root:=some 4 }),
   (oo 59 (.mm true (tq 56) (tq 58)),q0),
   (oo 60 (.indexAddrS 5 (tq 48) (tq 49)),q0),
   (oo 61 (.fieldAddr 1 (tq 60)),q0),
   (oo 62 (.fieldAddr 2 (tq 61)),q0),
   (oz (.store 1 (tq 62) (tq 59)),q0)])
 (.seq (.reg [oo 63 (.load true 34 (tq 8) true),
   oz (.store 34 (tq 6) (tq 63)),
   oo 7 (.move (.const (.sc (.bool false))) false)])
 .ret))
 .skip)))
 (.seq (.dreg [] [(oo 64 (.fieldAddr 0 (tq 3)),q0),
   (oo 65 (.load true 32 (tq 64) false),ql 3 [4] [11]),
   (oo 66 (.load true 3 (tq 4) false),ql 4 [3] [11]),
   (oo 67 (.move (tq 2) false),q0),
   (oo 68 (.call 305 [((tq 65),0),((tq 66),0),((tq 67),0)] []),qc [4] [11]),
   (oo 69 (.load true 3 (tq 4) false),ql 4 [3] [11]),
   (oo 70 (.move (tq 2) false),q0),
   (oo 71 (.build [(.sc (.int .i64 0)),(.sc (.int .u32 0)),(.sc (.int .u16 0)),(.sc (.int .u32 0)),(.sc (.int .u32 0))] [(0,1,(tq 68)),(1,3,(tq 69)),(4,1,(tq 70))]),q0),
   (oo 11 (.alloc true [(.sc (.int .i64 0)),(.sc (.int .u32 0)),(.sc (.int .u16 0)),(.sc (.int .u32 0)),(.sc (.int .u32 0))]),qn [3,4] []),
   (oz (.store 5 (tq 11) (tq 71)),q0)])
 (.seq (.reg [oo 73 (.fieldAddr 32 (tq 8)),
   oo 74 (.load false 1 (tq 73) false),
   oo 75 (.fieldAddr 0 (tq 11)),
   oo 76 (.load false 1 (tq 75) false),
   oo 77 (.call 291 [((tq 74),0),((tq 76),0)] []),
   oo 72 (.move (tq 77) true),
   oo 78 (.pull (tq 72) 0),
   oo 79 (.pull (tq 72) 1),
   oo 12 (.move (tq 78) false),
   oo 13 (.move (tq 79) false)])
 (.seq (.seq (.reg [oo 80 (.move (tq 13) false),
   oo 81 (.move (tq 12) false),
   oo 82 (.bin .sub (tq 80) (tq 81)),
   oo 83 (.bin .geq (tq 82) (.const (.sc (.int .i64 8))))])
 (.cond (tq 83)
 (.seq (.reg [oo 84 (.move (tq 12) false),
   oo 14 (.move (tq 84) false)])
 (.seq (.seq (.reg [oo 85 (.move (tq 12) false),
   oo 15 (.move (tq 85) false)])
 (.block 0 (.loop (bl 59728 129) (bl 680564733841876926926749214863536422903 129)
 y4)))
 zcw))
 .skip))
 zdO)))))))⟩
def zsV:Hint:=⟨[(0,0),(2,3),(5,0),(6,3),(9,0),(11,5),(20,0),(23,0)],[],[none,none,none,none,none,none,some ((bl 59728 129),(bl 680564733841876926926749214863536422903 129)),none,some ((bl 18768 129),(bl 680564733841876926926749214863536390135 129)),none,none,none,none,none],[],[(1,1,[18,23])],true,true⟩
def xV:Nat→Sh:=zP [(33,(.int .u32)),(35,(.int .u32)),(56,(.int .u32)),(58,(.int .u32)),(76,(.int .i64)),(97,(.int .u32)),(104,(.int .u32)),(113,(.int .u32)),(115,(.int .u32))]
def zV (zg:yQ) (yh:zY) (xa:zu) (xe:yK) (ze:zQ) (zf:xQ) (L:Nat):CBC:=(zw 289 (zhq zf L) (zw 292 (zhx ze L) (zw 291 (zfi xe L) (zw 305 (zdS xa L) (zw 287 (zkt yh L) (zw 288 (zhf zg L) noC))))))
def zap:St→St:=zae 0 (bl 59728 129) (bl 680564733841876926926749214863536422903 129)
def zcu (p13 p14 p15:Int) (b4:List V) (zLX zLY zLZ zL0 zL1 zL2 zL3 zL4 zL5 zL6 zLp zLq zLr zLs zLt zLu zLv zLw zLx zLy zLz zLA zLB zLC zLD zLE zLF zLG zLH zLI zLJ zLK:Int) (zLL zLM:List (List V)) (zKV zKW zKX zKY zLR zLS zLT zLU zLV zLW zK3 zK4 zK5 zK6 zK7 zK8 zK9 zLa zLb zLc zLd zLe zLf zLg zLh zLi zLj zLk zLl zLm zLn zLo:Int) (zKZ zK0:Nat) (b11 b18 b23:List V):St:=⟨(jn 4 ((V.ptr 4 0)::(jn 1 ((V.ptr 6 0)::(jn 1 ((V.ptr 8 0)::(jn 2 ((V.ptr 11 0)::(jn 1 ((V.sc (.int .i64 p13))::((V.sc (.int .i64 p14))::((V.sc (.int .i64 p15))::(jn 113 []))))))))))))),(gn 4 ((.live true b4)::(gn 1 ((.live false [(V.sc (.int .u8 zLX)),(V.sc (.int .u8 zLY)),(V.sc (.int .u8 zLZ)),(V.sc (.int .u8 zL0)),(V.sc (.int .u8 zL1)),(V.sc (.int .u8 zL2)),(V.sc (.int .u8 zL3)),(V.sc (.int .u8 zL4)),(V.sc (.int .u8 zL5)),(V.sc (.int .u8 zL6)),(V.sc (.int .u8 zLp)),(V.sc (.int .u8 zLq)),(V.sc (.int .u8 zLr)),(V.sc (.int .u8 zLs)),(V.sc (.int .u8 zLt)),(V.sc (.int .u8 zLu)),(V.sc (.int .u8 zLv)),(V.sc (.int .u8 zLw)),(V.sc (.int .u8 zLx)),(V.sc (.int .u8 zLy)),(V.sc (.int .u8 zLz)),(V.sc (.int .u8 zLA)),(V.sc (.int .u8 zLB)),(V.sc (.int .u8 zLC)),(V.sc (.int .u8 zLD)),(V.sc (.int .u8 zLE)),(V.sc (.int .u8 zLF)),(V.sc (.int .u8 zLG)),(V.sc (.int .u8 zLH)),(V.sc (.int .u8 zLI)),(V.sc (.int .u8 zLJ)),(V.sc (.int .u8 zLK)),(V.gs 5 zLL),(V.gs 5 zLM)])::(gn 1 ((.live false [(V.sc (.int .u8 zKV)),(V.sc (.int .u8 zKW)),(V.sc (.int .u8 zKX)),(V.sc (.int .u8 zKY)),(V.sc (.int .u8 zLR)),(V.sc (.int .u8 zLS)),(V.sc (.int .u8 zLT)),(V.sc (.int .u8 zLU)),(V.sc (.int .u8 zLV)),(V.sc (.int .u8 zLW)),(V.sc (.int .u8 zK3)),(V.sc (.int .u8 zK4)),(V.sc (.int .u8 zK5)),(V.sc (.int .u8 zK6)),(V.sc (.int .u8 zK7)),(V.sc (.int .u8 zK8)),(V.sc (.int .u8 zK9)),(V.sc (.int .u8 zLa)),(V.sc (.int .u8 zLb)),(V.sc (.int .u8 zLc)),(V.sc (.int .u8 zLd)),(V.sc (.int .u8 zLe)),(V.sc (.int .u8 zLf)),(V.sc (.int .u8 zLg)),(V.sc (.int .u8 zLh)),(V.sc (.int .u8 zLi)),(V.sc (.int .u8 zLj)),(V.sc (.int .u8 zLk)),(V.sc (.int .u8 zLl)),(V.sc (.int .u8 zLm)),(V.sc (.int .u8 zLn)),(V.sc (.int .u8 zLo)),(V.own 18 0 zKZ 5),(V.own 23 0 zK0 5)])::(gn 2 ((.live true b11)::(gn 6 ((.live true b18)::(gn 4 ((.live true b23)::(gn 105 [])))))))))))))⟩
def zcc (p13 p14 p15:Int) (b4:List V) (zLX zLY zLZ zL0 zL1 zL2 zL3 zL4 zL5 zL6 zLp zLq zLr zLs zLt zLu zLv zLw zLx zLy zLz zLA zLB zLC zLD zLE zLF zLG zLH zLI zLJ zLK:Int) (zLL zLM:List (List V)) (zKV zKW zKX zKY zLR zLS zLT zLU zLV zLW zK3 zK4 zK5 zK6 zK7 zK8 zK9 zLa zLb zLc zLd zLe zLf zLg zLh zLi zLj zLk zLl zLm zLn zLo:Int) (zKZ zK0:Nat) (b11 b18 b23:List V):St:=⟨(jn 4 ((V.ptr 4 0)::(jn 1 ((V.ptr 6 0)::(jn 1 ((V.ptr 8 0)::(jn 2 ((V.ptr 11 0)::(jn 1 ((V.sc (.int .i64 p13))::((V.sc (.int .i64 p14))::((V.sc (.int .i64 p15))::(jn 113 []))))))))))))),(gn 4 ((.live true b4)::(gn 1 ((.live false [(V.sc (.int .u8 zLX)),(V.sc (.int .u8 zLY)),(V.sc (.int .u8 zLZ)),(V.sc (.int .u8 zL0)),(V.sc (.int .u8 zL1)),(V.sc (.int .u8 zL2)),(V.sc (.int .u8 zL3)),(V.sc (.int .u8 zL4)),(V.sc (.int .u8 zL5)),(V.sc (.int .u8 zL6)),(V.sc (.int .u8 zLp)),(V.sc (.int .u8 zLq)),(V.sc (.int .u8 zLr)),(V.sc (.int .u8 zLs)),(V.sc (.int .u8 zLt)),(V.sc (.int .u8 zLu)),(V.sc (.int .u8 zLv)),(V.sc (.int .u8 zLw)),(V.sc (.int .u8 zLx)),(V.sc (.int .u8 zLy)),(V.sc (.int .u8 zLz)),(V.sc (.int .u8 zLA)),(V.sc (.int .u8 zLB)),(V.sc (.int .u8 zLC)),(V.sc (.int .u8 zLD)),(V.sc (.int .u8 zLE)),(V.sc (.int .u8 zLF)),(V.sc (.int .u8 zLG)),(V.sc (.int .u8 zLH)),(V.sc (.int .u8 zLI)),(V.sc (.int .u8 zLJ)),(V.sc (.int .u8 zLK)),(V.gs 5 zLL),(V.gs 5 zLM)])::(gn 1 ((.live false [(V.sc (.int .u8 zKV)),(V.sc (.int .u8 zKW)),(V.sc (.int .u8 zKX)),(V.sc (.int .u8 zKY)),(V.sc (.int .u8 zLR)),(V.sc (.int .u8 zLS)),(V.sc (.int .u8 zLT)),(V.sc (.int .u8 zLU)),(V.sc (.int .u8 zLV)),(V.sc (.int .u8 zLW)),(V.sc (.int .u8 zK3)),(V.sc (.int .u8 zK4)),(V.sc (.int .u8 zK5)),(V.sc (.int .u8 zK6)),(V.sc (.int .u8 zK7)),(V.sc (.int .u8 zK8)),(V.sc (.int .u8 zK9)),(V.sc (.int .u8 zLa)),(V.sc (.int .u8 zLb)),(V.sc (.int .u8 zLc)),(V.sc (.int .u8 zLd)),(V.sc (.int .u8 zLe)),(V.sc (.int .u8 zLf)),(V.sc (.int .u8 zLg)),(V.sc (.int .u8 zLh)),(V.sc (.int .u8 zLi)),(V.sc (.int .u8 zLj)),(V.sc (.int .u8 zLk)),(V.sc (.int .u8 zLl)),(V.sc (.int .u8 zLm)),(V.sc (.int .u8 zLn)),(V.sc (.int .u8 zLo)),(V.own 18 0 zKZ 5),(V.own 23 0 zK0 5)])::(gn 2 ((.live true b11)::(gn 6 ((.fz b18)::(gn 4 ((.live true b23)::(gn 105 [])))))))))))))⟩
def zmf (p14:Int) (b4:List V) (zLX zLY zLZ zL0 zL1 zL2 zL3 zL4 zL5 zL6 zLp zLq zLr zLs zLt zLu zLv zLw zLx zLy zLz zLA zLB zLC zLD zLE zLF zLG zLH zLI zLJ zLK:Int) (zLL zLM:List (List V)) (zKV zKW zKX zKY zLR zLS zLT zLU zLV zLW zK3 zK4 zK5 zK6 zK7 zK8 zK9 zLa zLb zLc zLd zLe zLf zLg zLh zLi zLj zLk zLl zLm zLn zLo:Int) (zKZ zK0:Nat) (b11 b18 b23:List V):St:=⟨(jn 4 ((V.ptr 4 0)::(jn 1 ((V.ptr 6 0)::(jn 1 ((V.ptr 8 0)::(jn 2 ((V.ptr 11 0)::(jn 2 ((V.sc (.int .i64 p14))::(jn 114 []))))))))))),(gn 4 ((.live true b4)::(gn 1 ((.live false [(V.sc (.int .u8 zLX)),(V.sc (.int .u8 zLY)),(V.sc (.int .u8 zLZ)),(V.sc (.int .u8 zL0)),(V.sc (.int .u8 zL1)),(V.sc (.int .u8 zL2)),(V.sc (.int .u8 zL3)),(V.sc (.int .u8 zL4)),(V.sc (.int .u8 zL5)),(V.sc (.int .u8 zL6)),(V.sc (.int .u8 zLp)),(V.sc (.int .u8 zLq)),(V.sc (.int .u8 zLr)),(V.sc (.int .u8 zLs)),(V.sc (.int .u8 zLt)),(V.sc (.int .u8 zLu)),(V.sc (.int .u8 zLv)),(V.sc (.int .u8 zLw)),(V.sc (.int .u8 zLx)),(V.sc (.int .u8 zLy)),(V.sc (.int .u8 zLz)),(V.sc (.int .u8 zLA)),(V.sc (.int .u8 zLB)),(V.sc (.int .u8 zLC)),(V.sc (.int .u8 zLD)),(V.sc (.int .u8 zLE)),(V.sc (.int .u8 zLF)),(V.sc (.int .u8 zLG)),(V.sc (.int .u8 zLH)),(V.sc (.int .u8 zLI)),(V.sc (.int .u8 zLJ)),(V.sc (.int .u8 zLK)),(V.gs 5 zLL),(V.gs 5 zLM)])::(gn 1 ((.live false [(V.sc (.int .u8 zKV)),(V.sc (.int .u8 zKW)),(V.sc (.int .u8 zKX)),(V.sc (.int .u8 zKY)),(V.sc (.int .u8 zLR)),(V.sc (.int .u8 zLS)),(V.sc (.int .u8 zLT)),(V.sc (.int .u8 zLU)),(V.sc (.int .u8 zLV)),(V.sc (.int .u8 zLW)),(V.sc (.int .u8 zK3)),(V.sc (.int .u8 zK4)),(V.sc (.int .u8 zK5)),(V.sc (.int .u8 zK6)),(V.sc (.int .u8 zK7)),(V.sc (.int .u8 zK8)),(V.sc (.int .u8 zK9)),(V.sc (.int .u8 zLa)),(V.sc (.int .u8 zLb)),(V.sc (.int .u8 zLc)),(V.sc (.int .u8 zLd)),(V.sc (.int .u8 zLe)),(V.sc (.int .u8 zLf)),(V.sc (.int .u8 zLg)),(V.sc (.int .u8 zLh)),(V.sc (.int .u8 zLi)),(V.sc (.int .u8 zLj)),(V.sc (.int .u8 zLk)),(V.sc (.int .u8 zLl)),(V.sc (.int .u8 zLm)),(V.sc (.int .u8 zLn)),(V.sc (.int .u8 zLo)),(V.own 18 0 zKZ 5),(V.own 23 0 zK0 5)])::(gn 2 ((.live true b11)::(gn 6 ((.live true b18)::(gn 4 ((.live true b23)::(gn 105 [])))))))))))))⟩
def zkk (p14:Int) (b4:List V) (zLX zLY zLZ zL0 zL1 zL2 zL3 zL4 zL5 zL6 zLp zLq zLr zLs zLt zLu zLv zLw zLx zLy zLz zLA zLB zLC zLD zLE zLF zLG zLH zLI zLJ zLK:Int) (zLL zLM:List (List V)) (zKV zKW zKX zKY zLR zLS zLT zLU zLV zLW zK3 zK4 zK5 zK6 zK7 zK8 zK9 zLa zLb zLc zLd zLe zLf zLg zLh zLi zLj zLk zLl zLm zLn zLo:Int) (zKZ zK0:Nat) (b11 b18 b23:List V):St:=⟨(jn 4 ((V.ptr 4 0)::(jn 1 ((V.ptr 6 0)::(jn 1 ((V.ptr 8 0)::(jn 2 ((V.ptr 11 0)::(jn 2 ((V.sc (.int .i64 p14))::(jn 114 []))))))))))),(gn 4 ((.live true b4)::(gn 1 ((.live false [(V.sc (.int .u8 zLX)),(V.sc (.int .u8 zLY)),(V.sc (.int .u8 zLZ)),(V.sc (.int .u8 zL0)),(V.sc (.int .u8 zL1)),(V.sc (.int .u8 zL2)),(V.sc (.int .u8 zL3)),(V.sc (.int .u8 zL4)),(V.sc (.int .u8 zL5)),(V.sc (.int .u8 zL6)),(V.sc (.int .u8 zLp)),(V.sc (.int .u8 zLq)),(V.sc (.int .u8 zLr)),(V.sc (.int .u8 zLs)),(V.sc (.int .u8 zLt)),(V.sc (.int .u8 zLu)),(V.sc (.int .u8 zLv)),(V.sc (.int .u8 zLw)),(V.sc (.int .u8 zLx)),(V.sc (.int .u8 zLy)),(V.sc (.int .u8 zLz)),(V.sc (.int .u8 zLA)),(V.sc (.int .u8 zLB)),(V.sc (.int .u8 zLC)),(V.sc (.int .u8 zLD)),(V.sc (.int .u8 zLE)),(V.sc (.int .u8 zLF)),(V.sc (.int .u8 zLG)),(V.sc (.int .u8 zLH)),(V.sc (.int .u8 zLI)),(V.sc (.int .u8 zLJ)),(V.sc (.int .u8 zLK)),(V.gs 5 zLL),(V.gs 5 zLM)])::(gn 1 ((.live false [(V.sc (.int .u8 zKV)),(V.sc (.int .u8 zKW)),(V.sc (.int .u8 zKX)),(V.sc (.int .u8 zKY)),(V.sc (.int .u8 zLR)),(V.sc (.int .u8 zLS)),(V.sc (.int .u8 zLT)),(V.sc (.int .u8 zLU)),(V.sc (.int .u8 zLV)),(V.sc (.int .u8 zLW)),(V.sc (.int .u8 zK3)),(V.sc (.int .u8 zK4)),(V.sc (.int .u8 zK5)),(V.sc (.int .u8 zK6)),(V.sc (.int .u8 zK7)),(V.sc (.int .u8 zK8)),(V.sc (.int .u8 zK9)),(V.sc (.int .u8 zLa)),(V.sc (.int .u8 zLb)),(V.sc (.int .u8 zLc)),(V.sc (.int .u8 zLd)),(V.sc (.int .u8 zLe)),(V.sc (.int .u8 zLf)),(V.sc (.int .u8 zLg)),(V.sc (.int .u8 zLh)),(V.sc (.int .u8 zLi)),(V.sc (.int .u8 zLj)),(V.sc (.int .u8 zLk)),(V.sc (.int .u8 zLl)),(V.sc (.int .u8 zLm)),(V.sc (.int .u8 zLn)),(V.sc (.int .u8 zLo)),(V.own 18 0 zKZ 5),(V.own 23 0 zK0 5)])::(gn 2 ((.live true b11)::(gn 6 ((.fz b18)::(gn 4 ((.live true b23)::(gn 105 [])))))))))))))⟩
abbrev ziy (β:Type):Type:=Int→Int→Int→List V→Int→Int→Int→Int→Int→Int→Int→Int→Int→Int→Int→Int→Int→Int→Int→Int→Int→Int→Int→Int→Int→Int→Int→Int→Int→Int→Int→Int→Int→Int→Int→Int→List (List V)→List (List V)→Int→Int→Int→Int→Int→Int→Int→Int→Int→Int→Int→Int→Int→Int→Int→Int→Int→Int→Int→Int→Int→Int→Int→Int→Int→Int→Int→Int→Int→Int→Int→Int→Nat→Nat→List V→List V→List V→Option β
abbrev zhn (β:Type):Type:=Int→Int→Int→List V→Int→Int→Int→Int→Int→Int→Int→Int→Int→Int→Int→Int→Int→Int→Int→Int→Int→Int→Int→Int→Int→Int→Int→Int→Int→Int→Int→Int→Int→Int→Int→Int→List (List V)→List (List V)→Int→Int→Int→Int→Int→Int→Int→Int→Int→Int→Int→Int→Int→Int→Int→Int→Int→Int→Int→Int→Int→Int→Int→Int→Int→Int→Int→Int→Int→Int→Int→Int→Nat→Nat→List V→List V→List V→Option β
abbrev zuy (β:Type):Type:=Int→List V→Int→Int→Int→Int→Int→Int→Int→Int→Int→Int→Int→Int→Int→Int→Int→Int→Int→Int→Int→Int→Int→Int→Int→Int→Int→Int→Int→Int→Int→Int→Int→Int→List (List V)→List (List V)→Int→Int→Int→Int→Int→Int→Int→Int→Int→Int→Int→Int→Int→Int→Int→Int→Int→Int→Int→Int→Int→Int→Int→Int→Int→Int→Int→Int→Int→Int→Int→Int→Nat→Nat→List V→List V→List V→Option β
abbrev zme (β:Type):Type:=Int→List V→Int→Int→Int→Int→Int→Int→Int→Int→Int→Int→Int→Int→Int→Int→Int→Int→Int→Int→Int→Int→Int→Int→Int→Int→Int→Int→Int→Int→Int→Int→Int→Int→List (List V)→List (List V)→Int→Int→Int→Int→Int→Int→Int→Int→Int→Int→Int→Int→Int→Int→Int→Int→Int→Int→Int→Int→Int→Int→Int→Int→Int→Int→Int→Int→Int→Int→Int→Int→Nat→Nat→List V→List V→List V→Option β
def zrE {β:Type} (zg:yQ) (yh:zY) (xa:zu) (xe:yK) (ze:zQ) (zf:xQ) (L:Nat) (p0 p1:List V) (p2:Int) (k_fin:List V→Bool→Option β) (k_hbbbbbbabababa:ziy β) (k_hbbbbbbabababav1:zhn β):Option β :=
 chk (0+34≤(List.length p0)) (
 zg β L (List.map V.dem (List.take 34 p0)) (fun v0 v1 v2 v3 v4 v5 v6 v7 v8 v9 v10 v11 v12 v13 v14 v15 v16 v17 v18 v19 v20 v21 v22 v23 v24 v25 v26 v27 v28 v29 v30 v31 v32 v33 v34 v35 =>
 chk (0+3≤(List.length p1)) (
 yh β L v33 (List.take 3 p1) v35 (fun v36 v37 =>
 chk ([(List.length v37)]=[(List.length v35)]) (
 ifb (decide (v36 ≥ (0:Int))) (
 chk (0≤v36∧v36 < ((v33:Nat):Int)) (
 cI .u32 v37 (((0+((Int.toNat v36) * 5))+1)+2) fun v38 =>
 cI .u32 p1 2 fun v39 =>
 lt (zGc v38 v39) fun x40 =>
 chk (0≤v36∧v36 < ((v33:Nat):Int)) (
 chk (1=1∧(((0+((Int.toNat v36) * 5))+1)+2)+1≤(List.length v37)) (
 lt (xg v37 (((0+((Int.toNat v36) * 5))+1)+2) [(V.sc (.int .u32 x40))]) fun r41 =>
 k_fin [(V.sc (.int .u8 v0)),(V.sc (.int .u8 v1)),(V.sc (.int .u8 v2)),(V.sc (.int .u8 v3)),(V.sc (.int .u8 v4)),(V.sc (.int .u8 v5)),(V.sc (.int .u8 v6)),(V.sc (.int .u8 v7)),(V.sc (.int .u8 v8)),(V.sc (.int .u8 v9)),(V.sc (.int .u8 v10)),(V.sc (.int .u8 v11)),(V.sc (.int .u8 v12)),(V.sc (.int .u8 v13)),(V.sc (.int .u8 v14)),(V.sc (.int .u8 v15)),(V.sc (.int .u8 v16)),(V.sc (.int .u8 v17)),(V.sc (.int .u8 v18)),(V.sc (.int .u8 v19)),(V.sc (.int .u8 v20)),(V.sc (.int .u8 v21)),(V.sc (.int .u8 v22)),(V.sc (.int .u8 v23)),(V.sc (.int .u8 v24)),(V.sc (.int .u8 v25)),(V.sc (.int .u8 v26)),(V.sc (.int .u8 v27)),(V.sc (.int .u8 v28)),(V.sc (.int .u8 v29)),(V.sc (.int .u8 v30)),(V.sc (.int .u8 v31)),(V.sl 5 (yl 5 v32 v34)),(V.sl 5 (yl 5 v33 r41))] false)))) (
 chk (0+3≤(List.length p1)) (
 yh β L v32 (List.take 3 p1) v34 (fun v42 v43 =>
 chk ([(List.length v43)]=[(List.length v34)]) (
 ifb (decide (v42 ≥ (0:Int))) (
 chk (0≤v42∧v42 < ((v32:Nat):Int)) (
 cI .u32 v43 (((0+((Int.toNat v42) * 5))+1)+2) fun v44 =>
 cI .u32 p1 2 fun v45 =>
 lt (zGc v44 v45) fun x46 =>
 chk (0≤v42∧v42 < ((v32:Nat):Int)) (
 chk (1=1∧(((0+((Int.toNat v42) * 5))+1)+2)+1≤(List.length v43)) (
 lt (xg v43 (((0+((Int.toNat v42) * 5))+1)+2) [(V.sc (.int .u32 x46))]) fun r47 =>
 k_fin [(V.sc (.int .u8 v0)),(V.sc (.int .u8 v1)),(V.sc (.int .u8 v2)),(V.sc (.int .u8 v3)),(V.sc (.int .u8 v4)),(V.sc (.int .u8 v5)),(V.sc (.int .u8 v6)),(V.sc (.int .u8 v7)),(V.sc (.int .u8 v8)),(V.sc (.int .u8 v9)),(V.sc (.int .u8 v10)),(V.sc (.int .u8 v11)),(V.sc (.int .u8 v12)),(V.sc (.int .u8 v13)),(V.sc (.int .u8 v14)),(V.sc (.int .u8 v15)),(V.sc (.int .u8 v16)),(V.sc (.int .u8 v17)),(V.sc (.int .u8 v18)),(V.sc (.int .u8 v19)),(V.sc (.int .u8 v20)),(V.sc (.int .u8 v21)),(V.sc (.int .u8 v22)),(V.sc (.int .u8 v23)),(V.sc (.int .u8 v24)),(V.sc (.int .u8 v25)),(V.sc (.int .u8 v26)),(V.sc (.int .u8 v27)),(V.sc (.int .u8 v28)),(V.sc (.int .u8 v29)),(V.sc (.int .u8 v30)),(V.sc (.int .u8 v31)),(V.sl 5 (yl 5 v32 r47)),(V.sl 5 (yl 5 v33 v37))] false)))) (
 chk (0+32≤(List.length p0)) (
 chk (0+3≤(List.length p1)) (
 xa β L (List.take 32 p0) (List.take 3 p1) p2 (fun v48 =>
 chk (0+3≤(List.length p1)) (
 chk ((List.length (List.take 3 p1))=3∧1+3≤5) (
 chk (1=1∧4+1≤(List.length (xg [(V.sc (.int .i64 v48)),(V.sc (.int .u32 (0:Int))),(V.sc (.int .u16 (0:Int))),(V.sc (.int .u32 (0:Int))),(V.sc (.int .u32 (0:Int)))] 1 (List.take 3 p1)))) (
 chk ((List.length (xg (xg [(V.sc (.int .i64 v48)),(V.sc (.int .u32 (0:Int))),(V.sc (.int .u16 (0:Int))),(V.sc (.int .u32 (0:Int))),(V.sc (.int .u32 (0:Int)))] 1 (List.take 3 p1)) 4 [(V.sc (.int .u32 p2))]))=5∧0+5≤5) (
 lt (xg [(V.sc (.int .i64 (0:Int))),(V.sc (.int .u32 (0:Int))),(V.sc (.int .u16 (0:Int))),(V.sc (.int .u32 (0:Int))),(V.sc (.int .u32 (0:Int)))] 0 (xg (xg [(V.sc (.int .i64 v48)),(V.sc (.int .u32 (0:Int))),(V.sc (.int .u16 (0:Int))),(V.sc (.int .u32 (0:Int))),(V.sc (.int .u32 (0:Int)))] 1 (List.take 3 p1)) 4 [(V.sc (.int .u32 p2))])) fun r49 =>
 cI .i64 r49 0 fun v50 =>
 ifb (List.isEmpty v43) (
 xe β L (yl 5 v32 v43) v50 (fun v51 v52 =>
 lt (IntKind.wrap .i64 ((v52:Int) - v51)) fun x53 =>
 ifb (decide (x53 ≥ (8:Int))) (
 k_hbbbbbbabababa v52 v51 v51 p1 (0:Int) (0:Int) (0:Int) (0:Int) (0:Int) (0:Int) (0:Int) (0:Int) (0:Int) (0:Int) (0:Int) (0:Int) (0:Int) (0:Int) (0:Int) (0:Int) (0:Int) (0:Int) (0:Int) (0:Int) (0:Int) (0:Int) (0:Int) (0:Int) (0:Int) (0:Int) (0:Int) (0:Int) (0:Int) (0:Int) (0:Int) (0:Int) ([]:List (List V)) ([]:List (List V)) v0 v1 v2 v3 v4 v5 v6 v7 v8 v9 v10 v11 v12 v13 v14 v15 v16 v17 v18 v19 v20 v21 v22 v23 v24 v25 v26 v27 v28 v29 v30 v31 v32 v33 r49 v43 v37) (
 chk (0+5≤(List.length r49)) (
 ifb (List.isEmpty v43) (
 ze β L (yl 5 v32 v43) (List.take 5 r49) (fun v54 =>
 k_fin [(V.sc (.int .u8 v0)),(V.sc (.int .u8 v1)),(V.sc (.int .u8 v2)),(V.sc (.int .u8 v3)),(V.sc (.int .u8 v4)),(V.sc (.int .u8 v5)),(V.sc (.int .u8 v6)),(V.sc (.int .u8 v7)),(V.sc (.int .u8 v8)),(V.sc (.int .u8 v9)),(V.sc (.int .u8 v10)),(V.sc (.int .u8 v11)),(V.sc (.int .u8 v12)),(V.sc (.int .u8 v13)),(V.sc (.int .u8 v14)),(V.sc (.int .u8 v15)),(V.sc (.int .u8 v16)),(V.sc (.int .u8 v17)),(V.sc (.int .u8 v18)),(V.sc (.int .u8 v19)),(V.sc (.int .u8 v20)),(V.sc (.int .u8 v21)),(V.sc (.int .u8 v22)),(V.sc (.int .u8 v23)),(V.sc (.int .u8 v24)),(V.sc (.int .u8 v25)),(V.sc (.int .u8 v26)),(V.sc (.int .u8 v27)),(V.sc (.int .u8 v28)),(V.sc (.int .u8 v29)),(V.sc (.int .u8 v30)),(V.sc (.int .u8 v31)),(V.sl 5 v54),(V.sl 5 (yl 5 v33 v37))] true)) (
 ze β L (yl 5 v32 v43) (List.take 5 r49) (fun v55 =>
 k_fin [(V.sc (.int .u8 v0)),(V.sc (.int .u8 v1)),(V.sc (.int .u8 v2)),(V.sc (.int .u8 v3)),(V.sc (.int .u8 v4)),(V.sc (.int .u8 v5)),(V.sc (.int .u8 v6)),(V.sc (.int .u8 v7)),(V.sc (.int .u8 v8)),(V.sc (.int .u8 v9)),(V.sc (.int .u8 v10)),(V.sc (.int .u8 v11)),(V.sc (.int .u8 v12)),(V.sc (.int .u8 v13)),(V.sc (.int .u8 v14)),(V.sc (.int .u8 v15)),(V.sc (.int .u8 v16)),(V.sc (.int .u8 v17)),(V.sc (.int .u8 v18)),(V.sc (.int .u8 v19)),(V.sc (.int .u8 v20)),(V.sc (.int .u8 v21)),(V.sc (.int .u8 v22)),(V.sc (.int .u8 v23)),(V.sc (.int .u8 v24)),(V.sc (.int .u8 v25)),(V.sc (.int .u8 v26)),(V.sc (.int .u8 v27)),(V.sc (.int .u8 v28)),(V.sc (.int .u8 v29)),(V.sc (.int .u8 v30)),(V.sc (.int .u8 v31)),(V.sl 5 v55),(V.sl 5 (yl 5 v33 v37))] true)))))) (
 xe β L (yl 5 v32 v43) v50 (fun v56 v57 =>
 lt (IntKind.wrap .i64 ((v57:Int) - v56)) fun x58 =>
 ifb (decide (x58 ≥ (8:Int))) (
 k_hbbbbbbabababav1 v57 v56 v56 p1 (0:Int) (0:Int) (0:Int) (0:Int) (0:Int) (0:Int) (0:Int) (0:Int) (0:Int) (0:Int) (0:Int) (0:Int) (0:Int) (0:Int) (0:Int) (0:Int) (0:Int) (0:Int) (0:Int) (0:Int) (0:Int) (0:Int) (0:Int) (0:Int) (0:Int) (0:Int) (0:Int) (0:Int) (0:Int) (0:Int) (0:Int) (0:Int) ([]:List (List V)) ([]:List (List V)) v0 v1 v2 v3 v4 v5 v6 v7 v8 v9 v10 v11 v12 v13 v14 v15 v16 v17 v18 v19 v20 v21 v22 v23 v24 v25 v26 v27 v28 v29 v30 v31 v32 v33 r49 v43 v37) (
 chk (0+5≤(List.length r49)) (
 ze β L (yl 5 v32 v43) (List.take 5 r49) (fun v59 =>
 k_fin [(V.sc (.int .u8 v0)),(V.sc (.int .u8 v1)),(V.sc (.int .u8 v2)),(V.sc (.int .u8 v3)),(V.sc (.int .u8 v4)),(V.sc (.int .u8 v5)),(V.sc (.int .u8 v6)),(V.sc (.int .u8 v7)),(V.sc (.int .u8 v8)),(V.sc (.int .u8 v9)),(V.sc (.int .u8 v10)),(V.sc (.int .u8 v11)),(V.sc (.int .u8 v12)),(V.sc (.int .u8 v13)),(V.sc (.int .u8 v14)),(V.sc (.int .u8 v15)),(V.sc (.int .u8 v16)),(V.sc (.int .u8 v17)),(V.sc (.int .u8 v18)),(V.sc (.int .u8 v19)),(V.sc (.int .u8 v20)),(V.sc (.int .u8 v21)),(V.sc (.int .u8 v22)),(V.sc (.int .u8 v23)),(V.sc (.int .u8 v24)),(V.sc (.int .u8 v25)),(V.sc (.int .u8 v26)),(V.sc (.int .u8 v27)),(V.sc (.int .u8 v28)),(V.sc (.int .u8 v29)),(V.sc (.int .u8 v30)),(V.sc (.int .u8 v31)),(V.sl 5 v59),(V.sl 5 (yl 5 v33 v37))] true))))))))))))))))))))))
theorem zAW {β:Type} (zg:yQ) (yh:zY) (xa:zu) (xe:yK) (ze:zQ) (zf:xQ) (L:Nat) (p0 p1:List V) (p2:Int) (k:KK β):zt xV (zV zg yh xa xe ze zf L) L zcZ [(V.agg p0),(V.agg p1),(V.sc (.int .u32 p2))] [] k=zrE zg yh xa xe ze zf L p0 p1 p2 (fun zL8 zL9=>k (V.tup [(V.agg zL8),(V.sc (.bool zL9))]) []) (fun p13 p14 p15 b4 zLX zLY zLZ zL0 zL1 zL2 zL3 zL4 zL5 zL6 zLp zLq zLr zLs zLt zLu zLv zLw zLx zLy zLz zLA zLB zLC zLD zLE zLF zLG zLH zLI zLJ zLK zLL zLM zKV zKW zKX zKY zLR zLS zLT zLU zLV zLW zK3 zK4 zK5 zK6 zK7 zK8 zK9 zLa zLb zLc zLd zLe zLf zLg zLh zLi zLj zLk zLl zLm zLn zLo zKZ zK0 b11 b18 b23=>yE (yo xV (zV zg yh xa xe ze zf L) 0 L y4) zap L (zcu p13 p14 p15 b4 zLX zLY zLZ zL0 zL1 zL2 zL3 zL4 zL5 zL6 zLp zLq zLr zLs zLt zLu zLv zLw zLx zLy zLz zLA zLB zLC zLD zLE zLF zLG zLH zLI zLJ zLK zLL zLM zKV zKW zKX zKY zLR zLS zLT zLU zLV zLW zK3 zK4 zK5 zK6 zK7 zK8 zK9 zLa zLb zLc zLd zLe zLf zLg zLh zLi zLj zLk zLl zLm zLn zLo zKZ zK0 b11 b18 b23) (xG 0 (yU (yo xV (zV zg yh xa xe ze zf L) 0 L zcw) (yU (yo xV (zV zg yh xa xe ze zf L) 0 L zdO) (xZ 0 (CF.res zcZ) k))))) (fun p13 p14 p15 b4 zLX zLY zLZ zL0 zL1 zL2 zL3 zL4 zL5 zL6 zLp zLq zLr zLs zLt zLu zLv zLw zLx zLy zLz zLA zLB zLC zLD zLE zLF zLG zLH zLI zLJ zLK zLL zLM zKV zKW zKX zKY zLR zLS zLT zLU zLV zLW zK3 zK4 zK5 zK6 zK7 zK8 zK9 zLa zLb zLc zLd zLe zLf zLg zLh zLi zLj zLk zLl zLm zLn zLo zKZ zK0 b11 b18 b23=>yE (yo xV (zV zg yh xa xe ze zf L) 0 L y4) zap L (zcc p13 p14 p15 b4 zLX zLY zLZ zL0 zL1 zL2 zL3 zL4 zL5 zL6 zLp zLq zLr zLs zLt zLu zLv zLw zLx zLy zLz zLA zLB zLC zLD zLE zLF zLG zLH zLI zLJ zLK zLL zLM zKV zKW zKX zKY zLR zLS zLT zLU zLV zLW zK3 zK4 zK5 zK6 zK7 zK8 zK9 zLa zLb zLc zLd zLe zLf zLg zLh zLi zLj zLk zLl zLm zLn zLo zKZ zK0 b11 b18 b23) (xG 0 (yU (yo xV (zV zg yh xa xe ze zf L) 0 L zcw) (yU (yo xV (zV zg yh xa xe ze zf L) 0 L zdO) (xZ 0 (CF.res zcZ) k))))):=by kernel_rfl
def zjl {β:Type} (zg:yQ) (yh:zY) (xa:zu) (xe:yK) (ze:zQ) (zf:xQ) (L:Nat) (p13 p14 p15:Int) (b4:List V) (zLX zLY zLZ zL0 zL1 zL2 zL3 zL4 zL5 zL6 zLp zLq zLr zLs zLt zLu zLv zLw zLx zLy zLz zLA zLB zLC zLD zLE zLF zLG zLH zLI zLJ zLK:Int) (zLL zLM:List (List V)) (zKV zKW zKX zKY zLR zLS zLT zLU zLV zLW zK3 zK4 zK5 zK6 zK7 zK8 zK9 zLa zLb zLc zLd zLe zLf zLg zLh zLi zLj zLk zLl zLm zLn zLo:Int) (zKZ zK0:Nat) (b11 b18 b23:List V) (k_hbbbbbbabababa:ziy β) (k_x0:zuy β):Option β :=
 ifb (decide (p15 < p13)) (
 chk (0≤p15∧p15 < ((zKZ:Nat):Int)) (
 cI .u32 b18 (((0+((Int.toNat p15) * 5))+1)+2) fun v60 =>
 chk (0≤p14∧p14 < ((zKZ:Nat):Int)) (
 cI .u32 b18 (((0+((Int.toNat p14) * 5))+1)+2) fun v61 =>
 ifb (decide (v60 < v61)) (
 lt (IntKind.wrap .i64 ((p15:Int)+(1:Int))) fun x62 =>
 k_hbbbbbbabababa p13 p15 x62 b4 zLX zLY zLZ zL0 zL1 zL2 zL3 zL4 zL5 zL6 zLp zLq zLr zLs zLt zLu zLv zLw zLx zLy zLz zLA zLB zLC zLD zLE zLF zLG zLH zLI zLJ zLK zLL zLM zKV zKW zKX zKY zLR zLS zLT zLU zLV zLW zK3 zK4 zK5 zK6 zK7 zK8 zK9 zLa zLb zLc zLd zLe zLf zLg zLh zLi zLj zLk zLl zLm zLn zLo zKZ zK0 b11 b18 b23) (
 lt (IntKind.wrap .i64 ((p15:Int)+(1:Int))) fun x63 =>
 k_hbbbbbbabababa p13 p14 x63 b4 zLX zLY zLZ zL0 zL1 zL2 zL3 zL4 zL5 zL6 zLp zLq zLr zLs zLt zLu zLv zLw zLx zLy zLz zLA zLB zLC zLD zLE zLF zLG zLH zLI zLJ zLK zLL zLM zKV zKW zKX zKY zLR zLS zLT zLU zLV zLW zK3 zK4 zK5 zK6 zK7 zK8 zK9 zLa zLb zLc zLd zLe zLf zLg zLh zLi zLj zLk zLl zLm zLn zLo zKZ zK0 b11 b18 b23)))) (
 k_x0 p14 b4 zLX zLY zLZ zL0 zL1 zL2 zL3 zL4 zL5 zL6 zLp zLq zLr zLs zLt zLu zLv zLw zLx zLy zLz zLA zLB zLC zLD zLE zLF zLG zLH zLI zLJ zLK zLL zLM zKV zKW zKX zKY zLR zLS zLT zLU zLV zLW zK3 zK4 zK5 zK6 zK7 zK8 zK9 zLa zLb zLc zLd zLe zLf zLg zLh zLi zLj zLk zLl zLm zLn zLo zKZ zK0 b11 b18 b23)
theorem zoC {β:Type} (zg:yQ) (yh:zY) (xa:zu) (xe:yK) (ze:zQ) (zf:xQ) (L:Nat) (p13 p14 p15:Int) (b4:List V) (zLX zLY zLZ zL0 zL1 zL2 zL3 zL4 zL5 zL6 zLp zLq zLr zLs zLt zLu zLv zLw zLx zLy zLz zLA zLB zLC zLD zLE zLF zLG zLH zLI zLJ zLK:Int) (zLL zLM:List (List V)) (zKV zKW zKX zKY zLR zLS zLT zLU zLV zLW zK3 zK4 zK5 zK6 zK7 zK8 zK9 zLa zLb zLc zLd zLe zLf zLg zLh zLi zLj zLk zLl zLm zLn zLo:Int) (zKZ zK0:Nat) (b11 b18 b23:List V) (X:St→Option β) (K:KT β):yo xV (zV zg yh xa xe ze zf L) 0 L y4 (zcu p13 p14 p15 b4 zLX zLY zLZ zL0 zL1 zL2 zL3 zL4 zL5 zL6 zLp zLq zLr zLs zLt zLu zLv zLw zLx zLy zLz zLA zLB zLC zLD zLE zLF zLG zLH zLI zLJ zLK zLL zLM zKV zKW zKX zKY zLR zLS zLT zLU zLV zLW zK3 zK4 zK5 zK6 zK7 zK8 zK9 zLa zLb zLc zLd zLe zLf zLg zLh zLi zLj zLk zLl zLm zLn zLo zKZ zK0 b11 b18 b23) (zcr zap X K)=zjl zg yh xa xe ze zf L p13 p14 p15 b4 zLX zLY zLZ zL0 zL1 zL2 zL3 zL4 zL5 zL6 zLp zLq zLr zLs zLt zLu zLv zLw zLx zLy zLz zLA zLB zLC zLD zLE zLF zLG zLH zLI zLJ zLK zLL zLM zKV zKW zKX zKY zLR zLS zLT zLU zLV zLW zK3 zK4 zK5 zK6 zK7 zK8 zK9 zLa zLb zLc zLd zLe zLf zLg zLh zLi zLj zLk zLl zLm zLn zLo zKZ zK0 b11 b18 b23 (fun p13 p14 p15 b4 zLX zLY zLZ zL0 zL1 zL2 zL3 zL4 zL5 zL6 zLp zLq zLr zLs zLt zLu zLv zLw zLx zLy zLz zLA zLB zLC zLD zLE zLF zLG zLH zLI zLJ zLK zLL zLM zKV zKW zKX zKY zLR zLS zLT zLU zLV zLW zK3 zK4 zK5 zK6 zK7 zK8 zK9 zLa zLb zLc zLd zLe zLf zLg zLh zLi zLj zLk zLl zLm zLn zLo zKZ zK0 b11 b18 b23=>X (zcu p13 p14 p15 b4 zLX zLY zLZ zL0 zL1 zL2 zL3 zL4 zL5 zL6 zLp zLq zLr zLs zLt zLu zLv zLw zLx zLy zLz zLA zLB zLC zLD zLE zLF zLG zLH zLI zLJ zLK zLL zLM zKV zKW zKX zKY zLR zLS zLT zLU zLV zLW zK3 zK4 zK5 zK6 zK7 zK8 zK9 zLa zLb zLc zLd zLe zLf zLg zLh zLi zLj zLk zLl zLm zLn zLo zKZ zK0 b11 b18 b23)) (fun p14 b4 zLX zLY zLZ zL0 zL1 zL2 zL3 zL4 zL5 zL6 zLp zLq zLr zLs zLt zLu zLv zLw zLx zLy zLz zLA zLB zLC zLD zLE zLF zLG zLH zLI zLJ zLK zLL zLM zKV zKW zKX zKY zLR zLS zLT zLU zLV zLW zK3 zK4 zK5 zK6 zK7 zK8 zK9 zLa zLb zLc zLd zLe zLf zLg zLh zLi zLj zLk zLl zLm zLn zLo zKZ zK0 b11 b18 b23=>K (.exit 0) (zmf p14 b4 zLX zLY zLZ zL0 zL1 zL2 zL3 zL4 zL5 zL6 zLp zLq zLr zLs zLt zLu zLv zLw zLx zLy zLz zLA zLB zLC zLD zLE zLF zLG zLH zLI zLJ zLK zLL zLM zKV zKW zKX zKY zLR zLS zLT zLU zLV zLW zK3 zK4 zK5 zK6 zK7 zK8 zK9 zLa zLb zLc zLd zLe zLf zLg zLh zLi zLj zLk zLl zLm zLn zLo zKZ zK0 b11 b18 b23)):=by kernel_rfl
def zep {β:Type} (zg:yQ) (yh:zY) (xa:zu) (xe:yK) (ze:zQ) (zf:xQ) (L:Nat) (p13 p14 p15:Int) (b4:List V) (zLX zLY zLZ zL0 zL1 zL2 zL3 zL4 zL5 zL6 zLp zLq zLr zLs zLt zLu zLv zLw zLx zLy zLz zLA zLB zLC zLD zLE zLF zLG zLH zLI zLJ zLK:Int) (zLL zLM:List (List V)) (zKV zKW zKX zKY zLR zLS zLT zLU zLV zLW zK3 zK4 zK5 zK6 zK7 zK8 zK9 zLa zLb zLc zLd zLe zLf zLg zLh zLi zLj zLk zLl zLm zLn zLo:Int) (zKZ zK0:Nat) (b11 b18 b23:List V) (k_hbbbbbbabababav1:zhn β) (k_x0v1:zme β):Option β :=
 ifb (decide (p15 < p13)) (
 chk (0≤p15∧p15 < ((zKZ:Nat):Int)) (
 cI .u32 b18 (((0+((Int.toNat p15) * 5))+1)+2) fun v64 =>
 chk (0≤p14∧p14 < ((zKZ:Nat):Int)) (
 cI .u32 b18 (((0+((Int.toNat p14) * 5))+1)+2) fun v65 =>
 ifb (decide (v64 < v65)) (
 lt (IntKind.wrap .i64 ((p15:Int)+(1:Int))) fun x66 =>
 k_hbbbbbbabababav1 p13 p15 x66 b4 zLX zLY zLZ zL0 zL1 zL2 zL3 zL4 zL5 zL6 zLp zLq zLr zLs zLt zLu zLv zLw zLx zLy zLz zLA zLB zLC zLD zLE zLF zLG zLH zLI zLJ zLK zLL zLM zKV zKW zKX zKY zLR zLS zLT zLU zLV zLW zK3 zK4 zK5 zK6 zK7 zK8 zK9 zLa zLb zLc zLd zLe zLf zLg zLh zLi zLj zLk zLl zLm zLn zLo zKZ zK0 b11 b18 b23) (
 lt (IntKind.wrap .i64 ((p15:Int)+(1:Int))) fun x67 =>
 k_hbbbbbbabababav1 p13 p14 x67 b4 zLX zLY zLZ zL0 zL1 zL2 zL3 zL4 zL5 zL6 zLp zLq zLr zLs zLt zLu zLv zLw zLx zLy zLz zLA zLB zLC zLD zLE zLF zLG zLH zLI zLJ zLK zLL zLM zKV zKW zKX zKY zLR zLS zLT zLU zLV zLW zK3 zK4 zK5 zK6 zK7 zK8 zK9 zLa zLb zLc zLd zLe zLf zLg zLh zLi zLj zLk zLl zLm zLn zLo zKZ zK0 b11 b18 b23)))) (
 k_x0v1 p14 b4 zLX zLY zLZ zL0 zL1 zL2 zL3 zL4 zL5 zL6 zLp zLq zLr zLs zLt zLu zLv zLw zLx zLy zLz zLA zLB zLC zLD zLE zLF zLG zLH zLI zLJ zLK zLL zLM zKV zKW zKX zKY zLR zLS zLT zLU zLV zLW zK3 zK4 zK5 zK6 zK7 zK8 zK9 zLa zLb zLc zLd zLe zLf zLg zLh zLi zLj zLk zLl zLm zLn zLo zKZ zK0 b11 b18 b23)
theorem znY {β:Type} (zg:yQ) (yh:zY) (xa:zu) (xe:yK) (ze:zQ) (zf:xQ) (L:Nat) (p13 p14 p15:Int) (b4:List V) (zLX zLY zLZ zL0 zL1 zL2 zL3 zL4 zL5 zL6 zLp zLq zLr zLs zLt zLu zLv zLw zLx zLy zLz zLA zLB zLC zLD zLE zLF zLG zLH zLI zLJ zLK:Int) (zLL zLM:List (List V)) (zKV zKW zKX zKY zLR zLS zLT zLU zLV zLW zK3 zK4 zK5 zK6 zK7 zK8 zK9 zLa zLb zLc zLd zLe zLf zLg zLh zLi zLj zLk zLl zLm zLn zLo:Int) (zKZ zK0:Nat) (b11 b18 b23:List V) (X:St→Option β) (K:KT β):yo xV (zV zg yh xa xe ze zf L) 0 L y4 (zcc p13 p14 p15 b4 zLX zLY zLZ zL0 zL1 zL2 zL3 zL4 zL5 zL6 zLp zLq zLr zLs zLt zLu zLv zLw zLx zLy zLz zLA zLB zLC zLD zLE zLF zLG zLH zLI zLJ zLK zLL zLM zKV zKW zKX zKY zLR zLS zLT zLU zLV zLW zK3 zK4 zK5 zK6 zK7 zK8 zK9 zLa zLb zLc zLd zLe zLf zLg zLh zLi zLj zLk zLl zLm zLn zLo zKZ zK0 b11 b18 b23) (zcr zap X K)=zep zg yh xa xe ze zf L p13 p14 p15 b4 zLX zLY zLZ zL0 zL1 zL2 zL3 zL4 zL5 zL6 zLp zLq zLr zLs zLt zLu zLv zLw zLx zLy zLz zLA zLB zLC zLD zLE zLF zLG zLH zLI zLJ zLK zLL zLM zKV zKW zKX zKY zLR zLS zLT zLU zLV zLW zK3 zK4 zK5 zK6 zK7 zK8 zK9 zLa zLb zLc zLd zLe zLf zLg zLh zLi zLj zLk zLl zLm zLn zLo zKZ zK0 b11 b18 b23 (fun p13 p14 p15 b4 zLX zLY zLZ zL0 zL1 zL2 zL3 zL4 zL5 zL6 zLp zLq zLr zLs zLt zLu zLv zLw zLx zLy zLz zLA zLB zLC zLD zLE zLF zLG zLH zLI zLJ zLK zLL zLM zKV zKW zKX zKY zLR zLS zLT zLU zLV zLW zK3 zK4 zK5 zK6 zK7 zK8 zK9 zLa zLb zLc zLd zLe zLf zLg zLh zLi zLj zLk zLl zLm zLn zLo zKZ zK0 b11 b18 b23=>X (zcc p13 p14 p15 b4 zLX zLY zLZ zL0 zL1 zL2 zL3 zL4 zL5 zL6 zLp zLq zLr zLs zLt zLu zLv zLw zLx zLy zLz zLA zLB zLC zLD zLE zLF zLG zLH zLI zLJ zLK zLL zLM zKV zKW zKX zKY zLR zLS zLT zLU zLV zLW zK3 zK4 zK5 zK6 zK7 zK8 zK9 zLa zLb zLc zLd zLe zLf zLg zLh zLi zLj zLk zLl zLm zLn zLo zKZ zK0 b11 b18 b23)) (fun p14 b4 zLX zLY zLZ zL0 zL1 zL2 zL3 zL4 zL5 zL6 zLp zLq zLr zLs zLt zLu zLv zLw zLx zLy zLz zLA zLB zLC zLD zLE zLF zLG zLH zLI zLJ zLK zLL zLM zKV zKW zKX zKY zLR zLS zLT zLU zLV zLW zK3 zK4 zK5 zK6 zK7 zK8 zK9 zLa zLb zLc zLd zLe zLf zLg zLh zLi zLj zLk zLl zLm zLn zLo zKZ zK0 b11 b18 b23=>K (.exit 0) (zkk p14 b4 zLX zLY zLZ zL0 zL1 zL2 zL3 zL4 zL5 zL6 zLp zLq zLr zLs zLt zLu zLv zLw zLx zLy zLz zLA zLB zLC zLD zLE zLF zLG zLH zLI zLJ zLK zLL zLM zKV zKW zKX zKY zLR zLS zLT zLU zLV zLW zK3 zK4 zK5 zK6 zK7 zK8 zK9 zLa zLb zLc zLd zLe zLf zLg zLh zLi zLj zLk zLl zLm zLn zLo zKZ zK0 b11 b18 b23)):=by kernel_rfl
def zhC {β:Type} (zg:yQ) (yh:zY) (xa:zu) (xe:yK) (ze:zQ) (zf:xQ) (L:Nat) (p14:Int) (b4:List V) (zLX zLY zLZ zL0 zL1 zL2 zL3 zL4 zL5 zL6 zLp zLq zLr zLs zLt zLu zLv zLw zLx zLy zLz zLA zLB zLC zLD zLE zLF zLG zLH zLI zLJ zLK:Int) (zLL zLM:List (List V)) (zKV zKW zKX zKY zLR zLS zLT zLU zLV zLW zK3 zK4 zK5 zK6 zK7 zK8 zK9 zLa zLb zLc zLd zLe zLf zLg zLh zLi zLj zLk zLl zLm zLn zLo:Int) (zKZ zK0:Nat) (b11 b18 b23:List V) (k_fin:List V→Bool→Option β):Option β :=
 chk (0≤p14∧p14 < ((zKZ:Nat):Int)) (
 cI .u32 b18 (((0+((Int.toNat p14) * 5))+1)+2) fun v68 =>
 cI .u32 b4 2 fun v69 =>
 ifb (decide (v68 ≥ v69)) (
 k_fin [(V.sc (.int .u8 zKV)),(V.sc (.int .u8 zKW)),(V.sc (.int .u8 zKX)),(V.sc (.int .u8 zKY)),(V.sc (.int .u8 zLR)),(V.sc (.int .u8 zLS)),(V.sc (.int .u8 zLT)),(V.sc (.int .u8 zLU)),(V.sc (.int .u8 zLV)),(V.sc (.int .u8 zLW)),(V.sc (.int .u8 zK3)),(V.sc (.int .u8 zK4)),(V.sc (.int .u8 zK5)),(V.sc (.int .u8 zK6)),(V.sc (.int .u8 zK7)),(V.sc (.int .u8 zK8)),(V.sc (.int .u8 zK9)),(V.sc (.int .u8 zLa)),(V.sc (.int .u8 zLb)),(V.sc (.int .u8 zLc)),(V.sc (.int .u8 zLd)),(V.sc (.int .u8 zLe)),(V.sc (.int .u8 zLf)),(V.sc (.int .u8 zLg)),(V.sc (.int .u8 zLh)),(V.sc (.int .u8 zLi)),(V.sc (.int .u8 zLj)),(V.sc (.int .u8 zLk)),(V.sc (.int .u8 zLl)),(V.sc (.int .u8 zLm)),(V.sc (.int .u8 zLn)),(V.sc (.int .u8 zLo)),(V.sl 5 (yl 5 zKZ b18)),(V.sl 5 (yl 5 zK0 b23))] false) (
 ifb (List.isEmpty b18) (
 zf β L (yl 5 zKZ b18) p14 (fun v70 =>
 chk (0+5≤(List.length b11)) (
 ze β L v70 (List.take 5 b11) (fun v71 =>
 k_fin [(V.sc (.int .u8 zKV)),(V.sc (.int .u8 zKW)),(V.sc (.int .u8 zKX)),(V.sc (.int .u8 zKY)),(V.sc (.int .u8 zLR)),(V.sc (.int .u8 zLS)),(V.sc (.int .u8 zLT)),(V.sc (.int .u8 zLU)),(V.sc (.int .u8 zLV)),(V.sc (.int .u8 zLW)),(V.sc (.int .u8 zK3)),(V.sc (.int .u8 zK4)),(V.sc (.int .u8 zK5)),(V.sc (.int .u8 zK6)),(V.sc (.int .u8 zK7)),(V.sc (.int .u8 zK8)),(V.sc (.int .u8 zK9)),(V.sc (.int .u8 zLa)),(V.sc (.int .u8 zLb)),(V.sc (.int .u8 zLc)),(V.sc (.int .u8 zLd)),(V.sc (.int .u8 zLe)),(V.sc (.int .u8 zLf)),(V.sc (.int .u8 zLg)),(V.sc (.int .u8 zLh)),(V.sc (.int .u8 zLi)),(V.sc (.int .u8 zLj)),(V.sc (.int .u8 zLk)),(V.sc (.int .u8 zLl)),(V.sc (.int .u8 zLm)),(V.sc (.int .u8 zLn)),(V.sc (.int .u8 zLo)),(V.sl 5 v71),(V.sl 5 (yl 5 zK0 b23))] true)))) (
 zf β L (yl 5 zKZ b18) p14 (fun v72 =>
 chk (0+5≤(List.length b11)) (
 ze β L v72 (List.take 5 b11) (fun v73 =>
 k_fin [(V.sc (.int .u8 zKV)),(V.sc (.int .u8 zKW)),(V.sc (.int .u8 zKX)),(V.sc (.int .u8 zKY)),(V.sc (.int .u8 zLR)),(V.sc (.int .u8 zLS)),(V.sc (.int .u8 zLT)),(V.sc (.int .u8 zLU)),(V.sc (.int .u8 zLV)),(V.sc (.int .u8 zLW)),(V.sc (.int .u8 zK3)),(V.sc (.int .u8 zK4)),(V.sc (.int .u8 zK5)),(V.sc (.int .u8 zK6)),(V.sc (.int .u8 zK7)),(V.sc (.int .u8 zK8)),(V.sc (.int .u8 zK9)),(V.sc (.int .u8 zLa)),(V.sc (.int .u8 zLb)),(V.sc (.int .u8 zLc)),(V.sc (.int .u8 zLd)),(V.sc (.int .u8 zLe)),(V.sc (.int .u8 zLf)),(V.sc (.int .u8 zLg)),(V.sc (.int .u8 zLh)),(V.sc (.int .u8 zLi)),(V.sc (.int .u8 zLj)),(V.sc (.int .u8 zLk)),(V.sc (.int .u8 zLl)),(V.sc (.int .u8 zLm)),(V.sc (.int .u8 zLn)),(V.sc (.int .u8 zLo)),(V.sl 5 v73),(V.sl 5 (yl 5 zK0 b23))] true))))))
theorem zm1 {β:Type} (zg:yQ) (yh:zY) (xa:zu) (xe:yK) (ze:zQ) (zf:xQ) (L:Nat) (p14:Int) (b4:List V) (zLX zLY zLZ zL0 zL1 zL2 zL3 zL4 zL5 zL6 zLp zLq zLr zLs zLt zLu zLv zLw zLx zLy zLz zLA zLB zLC zLD zLE zLF zLG zLH zLI zLJ zLK:Int) (zLL zLM:List (List V)) (zKV zKW zKX zKY zLR zLS zLT zLU zLV zLW zK3 zK4 zK5 zK6 zK7 zK8 zK9 zLa zLb zLc zLd zLe zLf zLg zLh zLi zLj zLk zLl zLm zLn zLo:Int) (zKZ zK0:Nat) (b11 b18 b23:List V) (k:KK β):(xG 0 (yU (yo xV (zV zg yh xa xe ze zf L) 0 L zcw) (yU (yo xV (zV zg yh xa xe ze zf L) 0 L zdO) (xZ 0 (CF.res zcZ) k)))) (.exit 0) (zmf p14 b4 zLX zLY zLZ zL0 zL1 zL2 zL3 zL4 zL5 zL6 zLp zLq zLr zLs zLt zLu zLv zLw zLx zLy zLz zLA zLB zLC zLD zLE zLF zLG zLH zLI zLJ zLK zLL zLM zKV zKW zKX zKY zLR zLS zLT zLU zLV zLW zK3 zK4 zK5 zK6 zK7 zK8 zK9 zLa zLb zLc zLd zLe zLf zLg zLh zLi zLj zLk zLl zLm zLn zLo zKZ zK0 b11 b18 b23)=zhC zg yh xa xe ze zf L p14 b4 zLX zLY zLZ zL0 zL1 zL2 zL3 zL4 zL5 zL6 zLp zLq zLr zLs zLt zLu zLv zLw zLx zLy zLz zLA zLB zLC zLD zLE zLF zLG zLH zLI zLJ zLK zLL zLM zKV zKW zKX zKY zLR zLS zLT zLU zLV zLW zK3 zK4 zK5 zK6 zK7 zK8 zK9 zLa zLb zLc zLd zLe zLf zLg zLh zLi zLj zLk zLl zLm zLn zLo zKZ zK0 b11 b18 b23 (fun zL8 zL9=>k (V.tup [(V.agg zL8),(V.sc (.bool zL9))]) []):=by kernel_rfl
def zdk {β:Type} (zg:yQ) (yh:zY) (xa:zu) (xe:yK) (ze:zQ) (zf:xQ) (L:Nat) (p14:Int) (b4:List V) (zLX zLY zLZ zL0 zL1 zL2 zL3 zL4 zL5 zL6 zLp zLq zLr zLs zLt zLu zLv zLw zLx zLy zLz zLA zLB zLC zLD zLE zLF zLG zLH zLI zLJ zLK:Int) (zLL zLM:List (List V)) (zKV zKW zKX zKY zLR zLS zLT zLU zLV zLW zK3 zK4 zK5 zK6 zK7 zK8 zK9 zLa zLb zLc zLd zLe zLf zLg zLh zLi zLj zLk zLl zLm zLn zLo:Int) (zKZ zK0:Nat) (b11 b18 b23:List V) (k_fin:List V→Bool→Option β):Option β :=
 chk (0≤p14∧p14 < ((zKZ:Nat):Int)) (
 cI .u32 b18 (((0+((Int.toNat p14) * 5))+1)+2) fun v74 =>
 cI .u32 b4 2 fun v75 =>
 ifb (decide (v74 ≥ v75)) (
 k_fin [(V.sc (.int .u8 zKV)),(V.sc (.int .u8 zKW)),(V.sc (.int .u8 zKX)),(V.sc (.int .u8 zKY)),(V.sc (.int .u8 zLR)),(V.sc (.int .u8 zLS)),(V.sc (.int .u8 zLT)),(V.sc (.int .u8 zLU)),(V.sc (.int .u8 zLV)),(V.sc (.int .u8 zLW)),(V.sc (.int .u8 zK3)),(V.sc (.int .u8 zK4)),(V.sc (.int .u8 zK5)),(V.sc (.int .u8 zK6)),(V.sc (.int .u8 zK7)),(V.sc (.int .u8 zK8)),(V.sc (.int .u8 zK9)),(V.sc (.int .u8 zLa)),(V.sc (.int .u8 zLb)),(V.sc (.int .u8 zLc)),(V.sc (.int .u8 zLd)),(V.sc (.int .u8 zLe)),(V.sc (.int .u8 zLf)),(V.sc (.int .u8 zLg)),(V.sc (.int .u8 zLh)),(V.sc (.int .u8 zLi)),(V.sc (.int .u8 zLj)),(V.sc (.int .u8 zLk)),(V.sc (.int .u8 zLl)),(V.sc (.int .u8 zLm)),(V.sc (.int .u8 zLn)),(V.sc (.int .u8 zLo)),(V.sl 5 (yl 5 zKZ b18)),(V.sl 5 (yl 5 zK0 b23))] false) (
 zf β L (yl 5 zKZ b18) p14 (fun v76 =>
 chk (0+5≤(List.length b11)) (
 ze β L v76 (List.take 5 b11) (fun v77 =>
 k_fin [(V.sc (.int .u8 zKV)),(V.sc (.int .u8 zKW)),(V.sc (.int .u8 zKX)),(V.sc (.int .u8 zKY)),(V.sc (.int .u8 zLR)),(V.sc (.int .u8 zLS)),(V.sc (.int .u8 zLT)),(V.sc (.int .u8 zLU)),(V.sc (.int .u8 zLV)),(V.sc (.int .u8 zLW)),(V.sc (.int .u8 zK3)),(V.sc (.int .u8 zK4)),(V.sc (.int .u8 zK5)),(V.sc (.int .u8 zK6)),(V.sc (.int .u8 zK7)),(V.sc (.int .u8 zK8)),(V.sc (.int .u8 zK9)),(V.sc (.int .u8 zLa)),(V.sc (.int .u8 zLb)),(V.sc (.int .u8 zLc)),(V.sc (.int .u8 zLd)),(V.sc (.int .u8 zLe)),(V.sc (.int .u8 zLf)),(V.sc (.int .u8 zLg)),(V.sc (.int .u8 zLh)),(V.sc (.int .u8 zLi)),(V.sc (.int .u8 zLj)),(V.sc (.int .u8 zLk)),(V.sc (.int .u8 zLl)),(V.sc (.int .u8 zLm)),(V.sc (.int .u8 zLn)),(V.sc (.int .u8 zLo)),(V.sl 5 v77),(V.sl 5 (yl 5 zK0 b23))] true)))))
theorem zkS {β:Type} (zg:yQ) (yh:zY) (xa:zu) (xe:yK) (ze:zQ) (zf:xQ) (L:Nat) (p14:Int) (b4:List V) (zLX zLY zLZ zL0 zL1 zL2 zL3 zL4 zL5 zL6 zLp zLq zLr zLs zLt zLu zLv zLw zLx zLy zLz zLA zLB zLC zLD zLE zLF zLG zLH zLI zLJ zLK:Int) (zLL zLM:List (List V)) (zKV zKW zKX zKY zLR zLS zLT zLU zLV zLW zK3 zK4 zK5 zK6 zK7 zK8 zK9 zLa zLb zLc zLd zLe zLf zLg zLh zLi zLj zLk zLl zLm zLn zLo:Int) (zKZ zK0:Nat) (b11 b18 b23:List V) (k:KK β):(xG 0 (yU (yo xV (zV zg yh xa xe ze zf L) 0 L zcw) (yU (yo xV (zV zg yh xa xe ze zf L) 0 L zdO) (xZ 0 (CF.res zcZ) k)))) (.exit 0) (zkk p14 b4 zLX zLY zLZ zL0 zL1 zL2 zL3 zL4 zL5 zL6 zLp zLq zLr zLs zLt zLu zLv zLw zLx zLy zLz zLA zLB zLC zLD zLE zLF zLG zLH zLI zLJ zLK zLL zLM zKV zKW zKX zKY zLR zLS zLT zLU zLV zLW zK3 zK4 zK5 zK6 zK7 zK8 zK9 zLa zLb zLc zLd zLe zLf zLg zLh zLi zLj zLk zLl zLm zLn zLo zKZ zK0 b11 b18 b23)=zdk zg yh xa xe ze zf L p14 b4 zLX zLY zLZ zL0 zL1 zL2 zL3 zL4 zL5 zL6 zLp zLq zLr zLs zLt zLu zLv zLw zLx zLy zLz zLA zLB zLC zLD zLE zLF zLG zLH zLI zLJ zLK zLL zLM zKV zKW zKX zKY zLR zLS zLT zLU zLV zLW zK3 zK4 zK5 zK6 zK7 zK8 zK9 zLa zLb zLc zLd zLe zLf zLg zLh zLi zLj zLk zLl zLm zLn zLo zKZ zK0 b11 b18 b23 (fun zL8 zL9=>k (V.tup [(V.agg zL8),(V.sc (.bool zL9))]) []):=by kernel_rfl
def zfd {β:Type} (zg:yQ) (yh:zY) (xa:zu) (xe:yK) (ze:zQ) (zf:xQ) (L:Nat) (k_x0:zuy β):Nat→Int→Int→Int→List V→Int→Int→Int→Int→Int→Int→Int→Int→Int→Int→Int→Int→Int→Int→Int→Int→Int→Int→Int→Int→Int→Int→Int→Int→Int→Int→Int→Int→Int→Int→Int→Int→List (List V)→List (List V)→Int→Int→Int→Int→Int→Int→Int→Int→Int→Int→Int→Int→Int→Int→Int→Int→Int→Int→Int→Int→Int→Int→Int→Int→Int→Int→Int→Int→Int→Int→Int→Int→Nat→Nat→List V→List V→List V→Option β
 | 0,_,_,_,_,_,_,_,_,_,_,_,_,_,_,_,_,_,_,_,_,_,_,_,_,_,_,_,_,_,_,_,_,_,_,_,_,_,_,_,_,_,_,_,_,_,_,_,_,_,_,_,_,_,_,_,_,_,_,_,_,_,_,_,_,_,_,_,_,_,_,_,_,_,_,_=>none
 | n+1,p13,p14,p15,b4,zLX,zLY,zLZ,zL0,zL1,zL2,zL3,zL4,zL5,zL6,zLp,zLq,zLr,zLs,zLt,zLu,zLv,zLw,zLx,zLy,zLz,zLA,zLB,zLC,zLD,zLE,zLF,zLG,zLH,zLI,zLJ,zLK,zLL,zLM,zKV,zKW,zKX,zKY,zLR,zLS,zLT,zLU,zLV,zLW,zK3,zK4,zK5,zK6,zK7,zK8,zK9,zLa,zLb,zLc,zLd,zLe,zLf,zLg,zLh,zLi,zLj,zLk,zLl,zLm,zLn,zLo,zKZ,zK0,b11,b18,b23=>zjl zg yh xa xe ze zf L p13 p14 p15 b4 zLX zLY zLZ zL0 zL1 zL2 zL3 zL4 zL5 zL6 zLp zLq zLr zLs zLt zLu zLv zLw zLx zLy zLz zLA zLB zLC zLD zLE zLF zLG zLH zLI zLJ zLK zLL zLM zKV zKW zKX zKY zLR zLS zLT zLU zLV zLW zK3 zK4 zK5 zK6 zK7 zK8 zK9 zLa zLb zLc zLd zLe zLf zLg zLh zLi zLj zLk zLl zLm zLn zLo zKZ zK0 b11 b18 b23 (fun p13 p14 p15 b4 zLX zLY zLZ zL0 zL1 zL2 zL3 zL4 zL5 zL6 zLp zLq zLr zLs zLt zLu zLv zLw zLx zLy zLz zLA zLB zLC zLD zLE zLF zLG zLH zLI zLJ zLK zLL zLM zKV zKW zKX zKY zLR zLS zLT zLU zLV zLW zK3 zK4 zK5 zK6 zK7 zK8 zK9 zLa zLb zLc zLd zLe zLf zLg zLh zLi zLj zLk zLl zLm zLn zLo zKZ zK0 b11 b18 b23=>zfd zg yh xa xe ze zf L k_x0 n p13 p14 p15 b4 zLX zLY zLZ zL0 zL1 zL2 zL3 zL4 zL5 zL6 zLp zLq zLr zLs zLt zLu zLv zLw zLx zLy zLz zLA zLB zLC zLD zLE zLF zLG zLH zLI zLJ zLK zLL zLM zKV zKW zKX zKY zLR zLS zLT zLU zLV zLW zK3 zK4 zK5 zK6 zK7 zK8 zK9 zLa zLb zLc zLd zLe zLf zLg zLh zLi zLj zLk zLl zLm zLn zLo zKZ zK0 b11 b18 b23) k_x0
theorem zhg {β:Type} (zg:yQ) (yh:zY) (xa:zu) (xe:yK) (ze:zQ) (zf:xQ) (L:Nat) (K:KT β):∀ (n:Nat) (p13 p14 p15:Int) (b4:List V) (zLX zLY zLZ zL0 zL1 zL2 zL3 zL4 zL5 zL6 zLp zLq zLr zLs zLt zLu zLv zLw zLx zLy zLz zLA zLB zLC zLD zLE zLF zLG zLH zLI zLJ zLK:Int) (zLL zLM:List (List V)) (zKV zKW zKX zKY zLR zLS zLT zLU zLV zLW zK3 zK4 zK5 zK6 zK7 zK8 zK9 zLa zLb zLc zLd zLe zLf zLg zLh zLi zLj zLk zLl zLm zLn zLo:Int) (zKZ zK0:Nat) (b11 b18 b23:List V),yE (yo xV (zV zg yh xa xe ze zf L) 0 L y4) zap n (zcu p13 p14 p15 b4 zLX zLY zLZ zL0 zL1 zL2 zL3 zL4 zL5 zL6 zLp zLq zLr zLs zLt zLu zLv zLw zLx zLy zLz zLA zLB zLC zLD zLE zLF zLG zLH zLI zLJ zLK zLL zLM zKV zKW zKX zKY zLR zLS zLT zLU zLV zLW zK3 zK4 zK5 zK6 zK7 zK8 zK9 zLa zLb zLc zLd zLe zLf zLg zLh zLi zLj zLk zLl zLm zLn zLo zKZ zK0 b11 b18 b23) K=zfd zg yh xa xe ze zf L (fun p14 b4 zLX zLY zLZ zL0 zL1 zL2 zL3 zL4 zL5 zL6 zLp zLq zLr zLs zLt zLu zLv zLw zLx zLy zLz zLA zLB zLC zLD zLE zLF zLG zLH zLI zLJ zLK zLL zLM zKV zKW zKX zKY zLR zLS zLT zLU zLV zLW zK3 zK4 zK5 zK6 zK7 zK8 zK9 zLa zLb zLc zLd zLe zLf zLg zLh zLi zLj zLk zLl zLm zLn zLo zKZ zK0 b11 b18 b23=>K (.exit 0) (zmf p14 b4 zLX zLY zLZ zL0 zL1 zL2 zL3 zL4 zL5 zL6 zLp zLq zLr zLs zLt zLu zLv zLw zLx zLy zLz zLA zLB zLC zLD zLE zLF zLG zLH zLI zLJ zLK zLL zLM zKV zKW zKX zKY zLR zLS zLT zLU zLV zLW zK3 zK4 zK5 zK6 zK7 zK8 zK9 zLa zLb zLc zLd zLe zLf zLg zLh zLi zLj zLk zLl zLm zLn zLo zKZ zK0 b11 b18 b23)) n p13 p14 p15 b4 zLX zLY zLZ zL0 zL1 zL2 zL3 zL4 zL5 zL6 zLp zLq zLr zLs zLt zLu zLv zLw zLx zLy zLz zLA zLB zLC zLD zLE zLF zLG zLH zLI zLJ zLK zLL zLM zKV zKW zKX zKY zLR zLS zLT zLU zLV zLW zK3 zK4 zK5 zK6 zK7 zK8 zK9 zLa zLb zLc zLd zLe zLf zLg zLh zLi zLj zLk zLl zLm zLn zLo zKZ zK0 b11 b18 b23:=by
 intro n
 induction n with
 | zero=>intros; rfl
 | succ n ih =>
  intro p13 p14 p15 b4 zLX zLY zLZ zL0 zL1 zL2 zL3 zL4 zL5 zL6 zLp zLq zLr zLs zLt zLu zLv zLw zLx zLy zLz zLA zLB zLC zLD zLE zLF zLG zLH zLI zLJ zLK zLL zLM zKV zKW zKX zKY zLR zLS zLT zLU zLV zLW zK3 zK4 zK5 zK6 zK7 zK8 zK9 zLa zLb zLc zLd zLe zLf zLg zLh zLi zLj zLk zLl zLm zLn zLo zKZ zK0 b11 b18 b23
  refine (zoC zg yh xa xe ze zf L p13 p14 p15 b4 zLX zLY zLZ zL0 zL1 zL2 zL3 zL4 zL5 zL6 zLp zLq zLr zLs zLt zLu zLv zLw zLx zLy zLz zLA zLB zLC zLD zLE zLF zLG zLH zLI zLJ zLK zLL zLM zKV zKW zKX zKY zLR zLS zLT zLU zLV zLW zK3 zK4 zK5 zK6 zK7 zK8 zK9 zLa zLb zLc zLd zLe zLf zLg zLh zLi zLj zLk zLl zLm zLn zLo zKZ zK0 b11 b18 b23 (fun σ=>yE (yo xV (zV zg yh xa xe ze zf L) 0 L y4) zap n σ K) K).trans ?_
  simp only [ih]
  rfl
def zbQ {β:Type} (zg:yQ) (yh:zY) (xa:zu) (xe:yK) (ze:zQ) (zf:xQ) (L:Nat) (k_x0v1:zme β):Nat→Int→Int→Int→List V→Int→Int→Int→Int→Int→Int→Int→Int→Int→Int→Int→Int→Int→Int→Int→Int→Int→Int→Int→Int→Int→Int→Int→Int→Int→Int→Int→Int→Int→Int→Int→Int→List (List V)→List (List V)→Int→Int→Int→Int→Int→Int→Int→Int→Int→Int→Int→Int→Int→Int→Int→Int→Int→Int→Int→Int→Int→Int→Int→Int→Int→Int→Int→Int→Int→Int→Int→Int→Nat→Nat→List V→List V→List V→Option β
 | 0,_,_,_,_,_,_,_,_,_,_,_,_,_,_,_,_,_,_,_,_,_,_,_,_,_,_,_,_,_,_,_,_,_,_,_,_,_,_,_,_,_,_,_,_,_,_,_,_,_,_,_,_,_,_,_,_,_,_,_,_,_,_,_,_,_,_,_,_,_,_,_,_,_,_,_=>none
 | n+1,p13,p14,p15,b4,zLX,zLY,zLZ,zL0,zL1,zL2,zL3,zL4,zL5,zL6,zLp,zLq,zLr,zLs,zLt,zLu,zLv,zLw,zLx,zLy,zLz,zLA,zLB,zLC,zLD,zLE,zLF,zLG,zLH,zLI,zLJ,zLK,zLL,zLM,zKV,zKW,zKX,zKY,zLR,zLS,zLT,zLU,zLV,zLW,zK3,zK4,zK5,zK6,zK7,zK8,zK9,zLa,zLb,zLc,zLd,zLe,zLf,zLg,zLh,zLi,zLj,zLk,zLl,zLm,zLn,zLo,zKZ,zK0,b11,b18,b23=>zep zg yh xa xe ze zf L p13 p14 p15 b4 zLX zLY zLZ zL0 zL1 zL2 zL3 zL4 zL5 zL6 zLp zLq zLr zLs zLt zLu zLv zLw zLx zLy zLz zLA zLB zLC zLD zLE zLF zLG zLH zLI zLJ zLK zLL zLM zKV zKW zKX zKY zLR zLS zLT zLU zLV zLW zK3 zK4 zK5 zK6 zK7 zK8 zK9 zLa zLb zLc zLd zLe zLf zLg zLh zLi zLj zLk zLl zLm zLn zLo zKZ zK0 b11 b18 b23 (fun p13 p14 p15 b4 zLX zLY zLZ zL0 zL1 zL2 zL3 zL4 zL5 zL6 zLp zLq zLr zLs zLt zLu zLv zLw zLx zLy zLz zLA zLB zLC zLD zLE zLF zLG zLH zLI zLJ zLK zLL zLM zKV zKW zKX zKY zLR zLS zLT zLU zLV zLW zK3 zK4 zK5 zK6 zK7 zK8 zK9 zLa zLb zLc zLd zLe zLf zLg zLh zLi zLj zLk zLl zLm zLn zLo zKZ zK0 b11 b18 b23=>zbQ zg yh xa xe ze zf L k_x0v1 n p13 p14 p15 b4 zLX zLY zLZ zL0 zL1 zL2 zL3 zL4 zL5 zL6 zLp zLq zLr zLs zLt zLu zLv zLw zLx zLy zLz zLA zLB zLC zLD zLE zLF zLG zLH zLI zLJ zLK zLL zLM zKV zKW zKX zKY zLR zLS zLT zLU zLV zLW zK3 zK4 zK5 zK6 zK7 zK8 zK9 zLa zLb zLc zLd zLe zLf zLg zLh zLi zLj zLk zLl zLm zLn zLo zKZ zK0 b11 b18 b23) k_x0v1
theorem zgb {β:Type} (zg:yQ) (yh:zY) (xa:zu) (xe:yK) (ze:zQ) (zf:xQ) (L:Nat) (K:KT β):∀ (n:Nat) (p13 p14 p15:Int) (b4:List V) (zLX zLY zLZ zL0 zL1 zL2 zL3 zL4 zL5 zL6 zLp zLq zLr zLs zLt zLu zLv zLw zLx zLy zLz zLA zLB zLC zLD zLE zLF zLG zLH zLI zLJ zLK:Int) (zLL zLM:List (List V)) (zKV zKW zKX zKY zLR zLS zLT zLU zLV zLW zK3 zK4 zK5 zK6 zK7 zK8 zK9 zLa zLb zLc zLd zLe zLf zLg zLh zLi zLj zLk zLl zLm zLn zLo:Int) (zKZ zK0:Nat) (b11 b18 b23:List V),yE (yo xV (zV zg yh xa xe ze zf L) 0 L y4) zap n (zcc p13 p14 p15 b4 zLX zLY zLZ zL0 zL1 zL2 zL3 zL4 zL5 zL6 zLp zLq zLr zLs zLt zLu zLv zLw zLx zLy zLz zLA zLB zLC zLD zLE zLF zLG zLH zLI zLJ zLK zLL zLM zKV zKW zKX zKY zLR zLS zLT zLU zLV zLW zK3 zK4 zK5 zK6 zK7 zK8 zK9 zLa zLb zLc zLd zLe zLf zLg zLh zLi zLj zLk zLl zLm zLn zLo zKZ zK0 b11 b18 b23) K=zbQ zg yh xa xe ze zf L (fun p14 b4 zLX zLY zLZ zL0 zL1 zL2 zL3 zL4 zL5 zL6 zLp zLq zLr zLs zLt zLu zLv zLw zLx zLy zLz zLA zLB zLC zLD zLE zLF zLG zLH zLI zLJ zLK zLL zLM zKV zKW zKX zKY zLR zLS zLT zLU zLV zLW zK3 zK4 zK5 zK6 zK7 zK8 zK9 zLa zLb zLc zLd zLe zLf zLg zLh zLi zLj zLk zLl zLm zLn zLo zKZ zK0 b11 b18 b23=>K (.exit 0) (zkk p14 b4 zLX zLY zLZ zL0 zL1 zL2 zL3 zL4 zL5 zL6 zLp zLq zLr zLs zLt zLu zLv zLw zLx zLy zLz zLA zLB zLC zLD zLE zLF zLG zLH zLI zLJ zLK zLL zLM zKV zKW zKX zKY zLR zLS zLT zLU zLV zLW zK3 zK4 zK5 zK6 zK7 zK8 zK9 zLa zLb zLc zLd zLe zLf zLg zLh zLi zLj zLk zLl zLm zLn zLo zKZ zK0 b11 b18 b23)) n p13 p14 p15 b4 zLX zLY zLZ zL0 zL1 zL2 zL3 zL4 zL5 zL6 zLp zLq zLr zLs zLt zLu zLv zLw zLx zLy zLz zLA zLB zLC zLD zLE zLF zLG zLH zLI zLJ zLK zLL zLM zKV zKW zKX zKY zLR zLS zLT zLU zLV zLW zK3 zK4 zK5 zK6 zK7 zK8 zK9 zLa zLb zLc zLd zLe zLf zLg zLh zLi zLj zLk zLl zLm zLn zLo zKZ zK0 b11 b18 b23:=by
 intro n
 induction n with
 | zero=>intros; rfl
 | succ n ih =>
  intro p13 p14 p15 b4 zLX zLY zLZ zL0 zL1 zL2 zL3 zL4 zL5 zL6 zLp zLq zLr zLs zLt zLu zLv zLw zLx zLy zLz zLA zLB zLC zLD zLE zLF zLG zLH zLI zLJ zLK zLL zLM zKV zKW zKX zKY zLR zLS zLT zLU zLV zLW zK3 zK4 zK5 zK6 zK7 zK8 zK9 zLa zLb zLc zLd zLe zLf zLg zLh zLi zLj zLk zLl zLm zLn zLo zKZ zK0 b11 b18 b23
  refine (znY zg yh xa xe ze zf L p13 p14 p15 b4 zLX zLY zLZ zL0 zL1 zL2 zL3 zL4 zL5 zL6 zLp zLq zLr zLs zLt zLu zLv zLw zLx zLy zLz zLA zLB zLC zLD zLE zLF zLG zLH zLI zLJ zLK zLL zLM zKV zKW zKX zKY zLR zLS zLT zLU zLV zLW zK3 zK4 zK5 zK6 zK7 zK8 zK9 zLa zLb zLc zLd zLe zLf zLg zLh zLi zLj zLk zLl zLm zLn zLo zKZ zK0 b11 b18 b23 (fun σ=>yE (yo xV (zV zg yh xa xe ze zf L) 0 L y4) zap n σ K) K).trans ?_
  simp only [ih]
  rfl
def znc {β:Type} (zg:yQ) (yh:zY) (xa:zu) (xe:yK) (ze:zQ) (zf:xQ) (L:Nat) (p0 p1:List V) (p2:Int) (k_fin:List V→Bool→Option β):Option β :=
 zrE zg yh xa xe ze zf L p0 p1 p2 k_fin (fun p13 p14 p15 b4 zLX zLY zLZ zL0 zL1 zL2 zL3 zL4 zL5 zL6 zLp zLq zLr zLs zLt zLu zLv zLw zLx zLy zLz zLA zLB zLC zLD zLE zLF zLG zLH zLI zLJ zLK zLL zLM zKV zKW zKX zKY zLR zLS zLT zLU zLV zLW zK3 zK4 zK5 zK6 zK7 zK8 zK9 zLa zLb zLc zLd zLe zLf zLg zLh zLi zLj zLk zLl zLm zLn zLo zKZ zK0 b11 b18 b23=>zfd zg yh xa xe ze zf L (fun p14 b4 zLX zLY zLZ zL0 zL1 zL2 zL3 zL4 zL5 zL6 zLp zLq zLr zLs zLt zLu zLv zLw zLx zLy zLz zLA zLB zLC zLD zLE zLF zLG zLH zLI zLJ zLK zLL zLM zKV zKW zKX zKY zLR zLS zLT zLU zLV zLW zK3 zK4 zK5 zK6 zK7 zK8 zK9 zLa zLb zLc zLd zLe zLf zLg zLh zLi zLj zLk zLl zLm zLn zLo zKZ zK0 b11 b18 b23=>zhC zg yh xa xe ze zf L p14 b4 zLX zLY zLZ zL0 zL1 zL2 zL3 zL4 zL5 zL6 zLp zLq zLr zLs zLt zLu zLv zLw zLx zLy zLz zLA zLB zLC zLD zLE zLF zLG zLH zLI zLJ zLK zLL zLM zKV zKW zKX zKY zLR zLS zLT zLU zLV zLW zK3 zK4 zK5 zK6 zK7 zK8 zK9 zLa zLb zLc zLd zLe zLf zLg zLh zLi zLj zLk zLl zLm zLn zLo zKZ zK0 b11 b18 b23 k_fin) L p13 p14 p15 b4 zLX zLY zLZ zL0 zL1 zL2 zL3 zL4 zL5 zL6 zLp zLq zLr zLs zLt zLu zLv zLw zLx zLy zLz zLA zLB zLC zLD zLE zLF zLG zLH zLI zLJ zLK zLL zLM zKV zKW zKX zKY zLR zLS zLT zLU zLV zLW zK3 zK4 zK5 zK6 zK7 zK8 zK9 zLa zLb zLc zLd zLe zLf zLg zLh zLi zLj zLk zLl zLm zLn zLo zKZ zK0 b11 b18 b23) (fun p13 p14 p15 b4 zLX zLY zLZ zL0 zL1 zL2 zL3 zL4 zL5 zL6 zLp zLq zLr zLs zLt zLu zLv zLw zLx zLy zLz zLA zLB zLC zLD zLE zLF zLG zLH zLI zLJ zLK zLL zLM zKV zKW zKX zKY zLR zLS zLT zLU zLV zLW zK3 zK4 zK5 zK6 zK7 zK8 zK9 zLa zLb zLc zLd zLe zLf zLg zLh zLi zLj zLk zLl zLm zLn zLo zKZ zK0 b11 b18 b23=>zbQ zg yh xa xe ze zf L (fun p14 b4 zLX zLY zLZ zL0 zL1 zL2 zL3 zL4 zL5 zL6 zLp zLq zLr zLs zLt zLu zLv zLw zLx zLy zLz zLA zLB zLC zLD zLE zLF zLG zLH zLI zLJ zLK zLL zLM zKV zKW zKX zKY zLR zLS zLT zLU zLV zLW zK3 zK4 zK5 zK6 zK7 zK8 zK9 zLa zLb zLc zLd zLe zLf zLg zLh zLi zLj zLk zLl zLm zLn zLo zKZ zK0 b11 b18 b23=>zdk zg yh xa xe ze zf L p14 b4 zLX zLY zLZ zL0 zL1 zL2 zL3 zL4 zL5 zL6 zLp zLq zLr zLs zLt zLu zLv zLw zLx zLy zLz zLA zLB zLC zLD zLE zLF zLG zLH zLI zLJ zLK zLL zLM zKV zKW zKX zKY zLR zLS zLT zLU zLV zLW zK3 zK4 zK5 zK6 zK7 zK8 zK9 zLa zLb zLc zLd zLe zLf zLg zLh zLi zLj zLk zLl zLm zLn zLo zKZ zK0 b11 b18 b23 k_fin) L p13 p14 p15 b4 zLX zLY zLZ zL0 zL1 zL2 zL3 zL4 zL5 zL6 zLp zLq zLr zLs zLt zLu zLv zLw zLx zLy zLz zLA zLB zLC zLD zLE zLF zLG zLH zLI zLJ zLK zLL zLM zKV zKW zKX zKY zLR zLS zLT zLU zLV zLW zK3 zK4 zK5 zK6 zK7 zK8 zK9 zLa zLb zLc zLd zLe zLf zLg zLh zLi zLj zLk zLl zLm zLn zLo zKZ zK0 b11 b18 b23)
theorem zBc {β:Type} (zg:yQ) (yh:zY) (xa:zu) (xe:yK) (ze:zQ) (zf:xQ) (L:Nat) (p0 p1:List V) (p2:Int) (k:KK β):zt xV (zV zg yh xa xe ze zf L) L zcZ [(V.agg p0),(V.agg p1),(V.sc (.int .u32 p2))] [] k=znc zg yh xa xe ze zf L p0 p1 p2 (fun zL8 zL9=>k (V.tup [(V.agg zL8),(V.sc (.bool zL9))]) []):=by
 refine (zAW zg yh xa xe ze zf L p0 p1 p2 k).trans ?_
 unfold znc
 first
  | (simp only [zhg,zm1,zgb,zkS]; done)
  | (simp only [zhg,zgb]; rfl)
abbrev zfk:=∀ (β:Type),Nat→List V→List V→Int→(List V→Bool→Option β)→Option β
def zB (β:Type) (L:Nat) (p0 p1:List V) (p2:Int) (k_fin:List V→Bool→Option β):Option β:=znc zg yh xa xe ze zf L p0 p1 p2 k_fin
def zjQ (zB:zfk) (L:Nat) (β:Type) (args:List V) (bor:Bor) (k:KK β):Option β:=match args,bor with
 | [a0,a1,a2],[]=>aG a0 fun p0=>aG a1 fun p1=>aI .u32 a2 fun p2=>zB β L p0 p1 p2 (fun zL8 zL9=>k (V.tup [(V.agg zL8),(V.sc (.bool zL9))]) [])
 | _,_=>none
theorem zz9 (L:Nat) (β:Type) (args:List V) (bor:Bor) (k:KK β) (r:β) (h:zjQ zB L β args bor k=some r):zt xV (zV zg yh xa xe ze zf L) L zcZ args bor k=some r:=by
 unfold zjQ at h
 split at h
 ·have q:=xY h; clear h; obtain ⟨p0,rfl,h⟩:=q
  have q:=xY h; clear h; obtain ⟨p1,rfl,h⟩:=q
  have q:=zaC h; clear h; obtain ⟨p2,rfl,h⟩:=q
  exact (zBc zg yh xa xe ze zf L p0 p1 p2 k).trans h
 ·cases h
def zlN:CF:=⟨81,[.cellS 4 34 true,.tmpP 5],
 (.seq (.reg [oo 2 (.box true (tq 0)),
   oo 3 (.box true (tq 1)),
   oo 4 (.alloc false (rp 32 (.sc (.int .u8 0)) (rp 2 (.gs 5 []) []))),
   oo 5 (.move (.const (.sc (.int .i64 0))) false)])
 (.seq (.seq (.reg [oo 13 (.load true 34 (tq 2) false),
   oo 14 (.call 281 [((tq 13),1)] []),
   oo 15 (.un .not (tq 14))])
 (.cond (tq 15)
 (.seq (.reg [oo 16 (.build (rp 32 (.sc (.int .u8 0)) (rp 2 (.sl 5 []) [])) []),
   oz (.store 34 (tq 4) (tq 16)),
   oo 5 (.move (.const (.sc (.int .i64 6))) false)])
 .ret)
 .skip))
 (.seq (.reg [oo 17 (.fieldAddr 32 (tq 2)),
   oo 18 (.load false 1 (tq 17) false),
   oo 19 (.load true 3 (tq 3) false),
   oo 20 (.call 287 [((tq 18),2),((tq 19),2)] []),
   oo 6 (.move (tq 20) false)])
 (.seq (.seq (.reg [oo 21 (.move (tq 6) false),
   oo 22 (.bin .lss (tq 21) (.const (.sc (.int .i64 0))))])
 (.cond (tq 22)
 (.seq (.reg [oo 23 (.build (rp 32 (.sc (.int .u8 0)) (rp 2 (.sl 5 []) [])) []),
   oz (.store 34 (tq 4) (tq 23)),
   oo 5 (.move (.const (.sc (.int .i64 9))) false)])
 .ret)
 .skip))
 (.seq (.reg [oo 24 (.load true 34 (tq 2) false),
   oo 25 (.call 288 [((tq 24),1)] [15,17]),
   oo 7 (.alloc false (rp 32 (.sc (.int .u8 0)) (rp 2 (.gs 5 []) []))),
   oz (.store 34 (tq 7) (tq 25))])
 (.seq (.reg [oo 26 (.fieldAddr 32 (tq 7)),
   oo 27 (.load false 1 (tq 26) false),
   oo 28 (.move (tq 6) false),
   oo 29 (.indexAddrS 5 (tq 27) (tq 28)),
   oo 30 (.load true 5 (tq 29) false),
   oo 8 (.alloc true [(.sc (.int .i64 0)),(.sc (.int .u32 0)),(.sc (.int .u16 0)),(.sc (.int .u32 0)),(.sc (.int .u32 0))]),
   oz (.store 5 (tq 8) (tq 30))])
 (.seq (.reg [oo 31 (.fieldAddr 32 (tq 7)),
   oo 32 (.load false 1 (tq 31) false),
   oo 33 (.move (tq 6) false),
   oo 34 (.call 289 [((tq 32),0),((tq 33),0)] []),
   oo 35 (.fieldAddr 32 (tq 7)),
   oz (.store 1 (tq 35) (tq 34))])
 (.seq (.reg [oo 36 (.fieldAddr 0 (tq 2)),
   oo 37 (.load true 32 (tq 36) false),
   oo 38 (.fieldAddr 1 (tq 8)),
   oo 39 (.load true 3 (tq 38) false),
   oo 40 (.call 290 [((tq 37),0),((tq 39),0)] []),
   oo 41 (.fieldAddr 0 (tq 8)),
   oz (.store 1 (tq 41) (tq 40))])
 (.seq (.reg [oo 43 (.fieldAddr 33 (tq 7)),
   oo 44 (.load false 1 (tq 43) false),
   oo 45 (.fieldAddr 0 (tq 8)),
   oo 46 (.load false 1 (tq 45) false),
   oo 47 (.call 291 [((tq 44),0),((tq 46),0)] []),
   oo 42 (.move (tq 47) true),
   oo 48 (.pull (tq 42) 0),
   oo 49 (.pull (tq 42) 1),
   oo 9 (.move (tq 48) false),
   oo 10 (.move (tq 49) false)])
 (.seq (.reg [oo 11 (.alloc true [(.sc (.int .u32 0)),(.sc (.int .u16 0)),(.sc (.int .u32 0))])])
 (.seq (.reg [oo 50 (.move (tq 10) false),
   oo 51 (.move (tq 9) false),
   oo 52 (.bin .sub (tq 50) (tq 51)),
   oo 53 (.bin .geq (tq 52) (.const (.sc (.int .i64 8)))),
   oo 12 (.move (tq 53) false)])
 (.seq (.seq (.reg [oo 54 (.move (tq 12) false)])
 (.cond (tq 54)
 (.seq (.reg [oo 55 (.fieldAddr 33 (tq 7)),
   oo 56 (.load false 1 (tq 55) false),
   oo 57 (.move (tq 9) false),
   oo 58 (.indexAddrS 5 (tq 56) (tq 57)),
   oo 59 (.fieldAddr 1 (tq 58)),
   oo 60 (.load true 3 (tq 59) false),
   oz (.store 3 (tq 11) (tq 60))])
 (.reg [oo 61 (.fieldAddr 33 (tq 7)),
   oo 62 (.load false 1 (tq 61) false),
   oo 63 (.move (tq 9) false),
   oo 64 (.call 289 [((tq 62),0),((tq 63),0)] []),
   oo 65 (.fieldAddr 33 (tq 7)),
   oz (.store 1 (tq 65) (tq 64))]))
 .skip))
 (.seq (.reg [oo 66 (.fieldAddr 33 (tq 7)),
   oo 67 (.load false 1 (tq 66) false),
   oo 68 (.load true 5 (tq 8) false),
   oo 69 (.call 292 [((tq 67),0),((tq 68),0)] []),
   oo 70 (.fieldAddr 33 (tq 7)),
   oz (.store 1 (tq 70) (tq 69))])
 (.seq (.seq (.reg [oo 71 (.move (tq 12) false)])
 (.cond (tq 71)
 (.dreg [] [(oo 73 (.load true 34 (tq 7) false),ql 7 [11] []),
   (oo 74 (.load true 3 (tq 11) false),ql 11 [7] []),
   (oo 75 (.load true 3 (tq 11) false),ql 11 [7] []),
   (oo 76 (.call 294 [((tq 75),0)] []),qc [7,11] []),
   (oo 77 (.call 293 [((tq 73),1),((tq 74),0),((tq 76),0)] []),q0),
   (oo 72 (.move (tq 77) true),q0),
   (oo 78 (.pull (tq 72) 0),q0),
   (oo 79 (.pull (tq 72) 1),q0),
   (oz (.store 34 (tq 7) (tq 78)),q0)])
 .skip))
 (.seq (.reg [oo 80 (.load true 34 (tq 7) true),
   oz (.store 34 (tq 4) (tq 80)),
   oo 5 (.move (.const (.sc (.int .i64 0))) false)])
 .ret)))))))))))))))⟩
def zsW:Hint:=⟨[(0,0),(3,3),(10,5),(18,5),(19,0)],[],[none,none,none,none,none,none,none],[],[(6,1,[15,17])],true,true⟩
def zp8:Nat→Sh:=zP [(18,(.sl 5)),(46,(.int .i64)),(78,(.row [(.int .u8),(.int .u8),(.int .u8),(.int .u8),(.int .u8),(.int .u8),(.int .u8),(.int .u8),(.int .u8),(.int .u8),(.int .u8),(.int .u8),(.int .u8),(.int .u8),(.int .u8),(.int .u8),(.int .u8),(.int .u8),(.int .u8),(.int .u8),(.int .u8),(.int .u8),(.int .u8),(.int .u8),(.int .u8),(.int .u8),(.int .u8),(.int .u8),(.int .u8),(.int .u8),(.int .u8),(.int .u8),(.sl 5),(.sl 5)]))]
def zpS (yv:zaT) (yd:yI) (zg:yQ) (zf:xQ) (yf:xK) (xe:yK) (ze:zQ) (zk:zaj) (zB:zfk) (L:Nat):CBC:=(zw 293 (zjQ zB L) (zw 294 (zeI zk L) (zw 292 (zhx ze L) (zw 291 (zfi xe L) (zw 290 (zdP yf L) (zw 289 (zhq zf L) (zw 288 (zhf zg L) (zw 287 (zhe yd L) (zw 281 (zf2 yv L) noC)))))))))
def zrY {β:Type} (yv:zaT) (yd:yI) (zg:yQ) (zf:xQ) (yf:xK) (xe:yK) (ze:zQ) (zk:zaj) (zB:zfk) (L:Nat) (p0 p1:List V) (k_fin:List V→Int→Option β):Option β :=
 chk (0+34≤(List.length p0)) (
 yv β L (List.map V.dem (List.take 34 p0)) (fun v0 =>
 ifb (!v0) (
 k_fin (List.replicate 32 (V.sc (.int .u8 (0:Int)))++[(V.sl 5 ([]:List (List V))),(V.sl 5 ([]:List (List V)))]) (6:Int)) (
 cLd 5 p0 32 fun v1 =>
 chk (0+3≤(List.length p1)) (
 yd β L v1 (List.take 3 p1) (fun v2 =>
 ifb (decide (v2 < (0:Int))) (
 k_fin (List.replicate 32 (V.sc (.int .u8 (0:Int)))++[(V.sl 5 ([]:List (List V))),(V.sl 5 ([]:List (List V)))]) (9:Int)) (
 chk (0+34≤(List.length p0)) (
 zg β L (List.map V.dem (List.take 34 p0)) (fun v3 v4 v5 v6 v7 v8 v9 v10 v11 v12 v13 v14 v15 v16 v17 v18 v19 v20 v21 v22 v23 v24 v25 v26 v27 v28 v29 v30 v31 v32 v33 v34 v35 v36 v37 v38 =>
 chk (0≤v2∧v2 < ((v35:Nat):Int)) (
 chk ((0+((Int.toNat v2) * 5))+5≤(List.length v37)) (
 chk ((List.length (List.take 5 (List.drop (0+((Int.toNat v2) * 5)) v37)))=5∧0+5≤5) (
 lt (xg [(V.sc (.int .i64 (0:Int))),(V.sc (.int .u32 (0:Int))),(V.sc (.int .u16 (0:Int))),(V.sc (.int .u32 (0:Int))),(V.sc (.int .u32 (0:Int)))] 0 (List.take 5 (List.drop (0+((Int.toNat v2) * 5)) v37))) fun r39 =>
 ifb (List.isEmpty v37) (
 zf β L (yl 5 v35 v37) v2 (fun v40 =>
 chk (0+32≤(List.length p0)) (
 chk (1+3≤(List.length r39)) (
 yf β L (List.take 32 p0) (List.take 3 (List.drop 1 r39)) (fun v41 =>
 chk (1=1∧0+1≤(List.length r39)) (
 lt (xg r39 0 [(V.sc (.int .i64 v41))]) fun r42 =>
 cI .i64 r42 0 fun v43 =>
 ifb (List.isEmpty v38) (
 xe β L (yl 5 v36 v38) v43 (fun v44 v45 =>
 lt (IntKind.wrap .i64 ((v45:Int) - v44)) fun x46 =>
 ifb (decide (x46 ≥ (8:Int))) (
 chk (0≤v44∧v44 < ((v36:Nat):Int)) (
 chk (((0+((Int.toNat v44) * 5))+1)+3≤(List.length v38)) (
 chk ((List.length (List.take 3 (List.drop ((0+((Int.toNat v44) * 5))+1) v38)))=3∧0+3≤3) (
 lt (xg [(V.sc (.int .u32 (0:Int))),(V.sc (.int .u16 (0:Int))),(V.sc (.int .u32 (0:Int)))] 0 (List.take 3 (List.drop ((0+((Int.toNat v44) * 5))+1) v38))) fun r47 =>
 ifb (List.isEmpty v38) (
 zf β L (yl 5 v36 v38) v44 (fun v48 =>
 chk (0+5≤(List.length r42)) (
 ze β L v48 (List.take 5 r42) (fun v49 =>
 ifb (decide (x46 ≥ (8:Int))) (
 chk (0+3≤(List.length r47)) (
 chk (0+3≤(List.length r47)) (
 zk β L (List.take 3 r47) (fun v50 =>
 zB β L [(V.sc (.int .u8 v3)),(V.sc (.int .u8 v4)),(V.sc (.int .u8 v5)),(V.sc (.int .u8 v6)),(V.sc (.int .u8 v7)),(V.sc (.int .u8 v8)),(V.sc (.int .u8 v9)),(V.sc (.int .u8 v10)),(V.sc (.int .u8 v11)),(V.sc (.int .u8 v12)),(V.sc (.int .u8 v13)),(V.sc (.int .u8 v14)),(V.sc (.int .u8 v15)),(V.sc (.int .u8 v16)),(V.sc (.int .u8 v17)),(V.sc (.int .u8 v18)),(V.sc (.int .u8 v19)),(V.sc (.int .u8 v20)),(V.sc (.int .u8 v21)),(V.sc (.int .u8 v22)),(V.sc (.int .u8 v23)),(V.sc (.int .u8 v24)),(V.sc (.int .u8 v25)),(V.sc (.int .u8 v26)),(V.sc (.int .u8 v27)),(V.sc (.int .u8 v28)),(V.sc (.int .u8 v29)),(V.sc (.int .u8 v30)),(V.sc (.int .u8 v31)),(V.sc (.int .u8 v32)),(V.sc (.int .u8 v33)),(V.sc (.int .u8 v34)),(V.sl 5 v40),(V.sl 5 v49)] (List.take 3 r47) v50 (fun v51 v52 =>
 chk (List.length v51=34) (
 cI .u8 v51 0 fun v53 =>
 cI .u8 v51 1 fun v54 =>
 cI .u8 v51 2 fun v55 =>
 cI .u8 v51 3 fun v56 =>
 cI .u8 v51 4 fun v57 =>
 cI .u8 v51 5 fun v58 =>
 cI .u8 v51 6 fun v59 =>
 cI .u8 v51 7 fun v60 =>
 cI .u8 v51 8 fun v61 =>
 cI .u8 v51 9 fun v62 =>
 cI .u8 v51 10 fun v63 =>
 cI .u8 v51 11 fun v64 =>
 cI .u8 v51 12 fun v65 =>
 cI .u8 v51 13 fun v66 =>
 cI .u8 v51 14 fun v67 =>
 cI .u8 v51 15 fun v68 =>
 cI .u8 v51 16 fun v69 =>
 cI .u8 v51 17 fun v70 =>
 cI .u8 v51 18 fun v71 =>
 cI .u8 v51 19 fun v72 =>
 cI .u8 v51 20 fun v73 =>
 cI .u8 v51 21 fun v74 =>
 cI .u8 v51 22 fun v75 =>
 cI .u8 v51 23 fun v76 =>
 cI .u8 v51 24 fun v77 =>
 cI .u8 v51 25 fun v78 =>
 cI .u8 v51 26 fun v79 =>
 cI .u8 v51 27 fun v80 =>
 cI .u8 v51 28 fun v81 =>
 cI .u8 v51 29 fun v82 =>
 cI .u8 v51 30 fun v83 =>
 cI .u8 v51 31 fun v84 =>
 cL 5 v51 32 fun v85 =>
 cL 5 v51 33 fun v86 =>
 k_fin [(V.sc (.int .u8 v53)),(V.sc (.int .u8 v54)),(V.sc (.int .u8 v55)),(V.sc (.int .u8 v56)),(V.sc (.int .u8 v57)),(V.sc (.int .u8 v58)),(V.sc (.int .u8 v59)),(V.sc (.int .u8 v60)),(V.sc (.int .u8 v61)),(V.sc (.int .u8 v62)),(V.sc (.int .u8 v63)),(V.sc (.int .u8 v64)),(V.sc (.int .u8 v65)),(V.sc (.int .u8 v66)),(V.sc (.int .u8 v67)),(V.sc (.int .u8 v68)),(V.sc (.int .u8 v69)),(V.sc (.int .u8 v70)),(V.sc (.int .u8 v71)),(V.sc (.int .u8 v72)),(V.sc (.int .u8 v73)),(V.sc (.int .u8 v74)),(V.sc (.int .u8 v75)),(V.sc (.int .u8 v76)),(V.sc (.int .u8 v77)),(V.sc (.int .u8 v78)),(V.sc (.int .u8 v79)),(V.sc (.int .u8 v80)),(V.sc (.int .u8 v81)),(V.sc (.int .u8 v82)),(V.sc (.int .u8 v83)),(V.sc (.int .u8 v84)),(V.sl 5 v85),(V.sl 5 v86)] (0:Int))))))) (
 k_fin [(V.sc (.int .u8 v3)),(V.sc (.int .u8 v4)),(V.sc (.int .u8 v5)),(V.sc (.int .u8 v6)),(V.sc (.int .u8 v7)),(V.sc (.int .u8 v8)),(V.sc (.int .u8 v9)),(V.sc (.int .u8 v10)),(V.sc (.int .u8 v11)),(V.sc (.int .u8 v12)),(V.sc (.int .u8 v13)),(V.sc (.int .u8 v14)),(V.sc (.int .u8 v15)),(V.sc (.int .u8 v16)),(V.sc (.int .u8 v17)),(V.sc (.int .u8 v18)),(V.sc (.int .u8 v19)),(V.sc (.int .u8 v20)),(V.sc (.int .u8 v21)),(V.sc (.int .u8 v22)),(V.sc (.int .u8 v23)),(V.sc (.int .u8 v24)),(V.sc (.int .u8 v25)),(V.sc (.int .u8 v26)),(V.sc (.int .u8 v27)),(V.sc (.int .u8 v28)),(V.sc (.int .u8 v29)),(V.sc (.int .u8 v30)),(V.sc (.int .u8 v31)),(V.sc (.int .u8 v32)),(V.sc (.int .u8 v33)),(V.sc (.int .u8 v34)),(V.sl 5 v40),(V.sl 5 v49)] (0:Int)))))) (
 zf β L (yl 5 v36 v38) v44 (fun v87 =>
 chk (0+5≤(List.length r42)) (
 ze β L v87 (List.take 5 r42) (fun v88 =>
 ifb (decide (x46 ≥ (8:Int))) (
 chk (0+3≤(List.length r47)) (
 chk (0+3≤(List.length r47)) (
 zk β L (List.take 3 r47) (fun v89 =>
 zB β L [(V.sc (.int .u8 v3)),(V.sc (.int .u8 v4)),(V.sc (.int .u8 v5)),(V.sc (.int .u8 v6)),(V.sc (.int .u8 v7)),(V.sc (.int .u8 v8)),(V.sc (.int .u8 v9)),(V.sc (.int .u8 v10)),(V.sc (.int .u8 v11)),(V.sc (.int .u8 v12)),(V.sc (.int .u8 v13)),(V.sc (.int .u8 v14)),(V.sc (.int .u8 v15)),(V.sc (.int .u8 v16)),(V.sc (.int .u8 v17)),(V.sc (.int .u8 v18)),(V.sc (.int .u8 v19)),(V.sc (.int .u8 v20)),(V.sc (.int .u8 v21)),(V.sc (.int .u8 v22)),(V.sc (.int .u8 v23)),(V.sc (.int .u8 v24)),(V.sc (.int .u8 v25)),(V.sc (.int .u8 v26)),(V.sc (.int .u8 v27)),(V.sc (.int .u8 v28)),(V.sc (.int .u8 v29)),(V.sc (.int .u8 v30)),(V.sc (.int .u8 v31)),(V.sc (.int .u8 v32)),(V.sc (.int .u8 v33)),(V.sc (.int .u8 v34)),(V.sl 5 v40),(V.sl 5 v88)] (List.take 3 r47) v89 (fun v90 v91 =>
 chk (List.length v90=34) (
 cI .u8 v90 0 fun v92 =>
 cI .u8 v90 1 fun v93 =>
 cI .u8 v90 2 fun v94 =>
 cI .u8 v90 3 fun v95 =>
 cI .u8 v90 4 fun v96 =>
 cI .u8 v90 5 fun v97 =>
 cI .u8 v90 6 fun v98 =>
 cI .u8 v90 7 fun v99 =>
 cI .u8 v90 8 fun zNg =>
 cI .u8 v90 9 fun zNh =>
 cI .u8 v90 10 fun zNi =>
 cI .u8 v90 11 fun zNj =>
 cI .u8 v90 12 fun zNk =>
 cI .u8 v90 13 fun zNl =>
 cI .u8 v90 14 fun zNm =>
 cI .u8 v90 15 fun zNn =>
 cI .u8 v90 16 fun zNo =>
 cI .u8 v90 17 fun zNp =>
 cI .u8 v90 18 fun zNq =>
 cI .u8 v90 19 fun zNr =>
 cI .u8 v90 20 fun zNs =>
 cI .u8 v90 21 fun zNt =>
 cI .u8 v90 22 fun zNu =>
 cI .u8 v90 23 fun zNv =>
 cI .u8 v90 24 fun zNw =>
 cI .u8 v90 25 fun zNx =>
 cI .u8 v90 26 fun zNy =>
 cI .u8 v90 27 fun zNz =>
 cI .u8 v90 28 fun zNA =>
 cI .u8 v90 29 fun zNB =>
 cI .u8 v90 30 fun zNC =>
 cI .u8 v90 31 fun zND =>
 cL 5 v90 32 fun zNE =>
 cL 5 v90 33 fun zNF =>
 k_fin [(V.sc (.int .u8 v92)),(V.sc (.int .u8 v93)),(V.sc (.int .u8 v94)),(V.sc (.int .u8 v95)),(V.sc (.int .u8 v96)),(V.sc (.int .u8 v97)),(V.sc (.int .u8 v98)),(V.sc (.int .u8 v99)),(V.sc (.int .u8 zNg)),(V.sc (.int .u8 zNh)),(V.sc (.int .u8 zNi)),(V.sc (.int .u8 zNj)),(V.sc (.int .u8 zNk)),(V.sc (.int .u8 zNl)),(V.sc (.int .u8 zNm)),(V.sc (.int .u8 zNn)),(V.sc (.int .u8 zNo)),(V.sc (.int .u8 zNp)),(V.sc (.int .u8 zNq)),(V.sc (.int .u8 zNr)),(V.sc (.int .u8 zNs)),(V.sc (.int .u8 zNt)),(V.sc (.int .u8 zNu)),(V.sc (.int .u8 zNv)),(V.sc (.int .u8 zNw)),(V.sc (.int .u8 zNx)),(V.sc (.int .u8 zNy)),(V.sc (.int .u8 zNz)),(V.sc (.int .u8 zNA)),(V.sc (.int .u8 zNB)),(V.sc (.int .u8 zNC)),(V.sc (.int .u8 zND)),(V.sl 5 zNE),(V.sl 5 zNF)] (0:Int))))))) (
 k_fin [(V.sc (.int .u8 v3)),(V.sc (.int .u8 v4)),(V.sc (.int .u8 v5)),(V.sc (.int .u8 v6)),(V.sc (.int .u8 v7)),(V.sc (.int .u8 v8)),(V.sc (.int .u8 v9)),(V.sc (.int .u8 v10)),(V.sc (.int .u8 v11)),(V.sc (.int .u8 v12)),(V.sc (.int .u8 v13)),(V.sc (.int .u8 v14)),(V.sc (.int .u8 v15)),(V.sc (.int .u8 v16)),(V.sc (.int .u8 v17)),(V.sc (.int .u8 v18)),(V.sc (.int .u8 v19)),(V.sc (.int .u8 v20)),(V.sc (.int .u8 v21)),(V.sc (.int .u8 v22)),(V.sc (.int .u8 v23)),(V.sc (.int .u8 v24)),(V.sc (.int .u8 v25)),(V.sc (.int .u8 v26)),(V.sc (.int .u8 v27)),(V.sc (.int .u8 v28)),(V.sc (.int .u8 v29)),(V.sc (.int .u8 v30)),(V.sc (.int .u8 v31)),(V.sc (.int .u8 v32)),(V.sc (.int .u8 v33)),(V.sc (.int .u8 v34)),(V.sl 5 v40),(V.sl 5 v88)] (0:Int)))))))))) (
 chk (0+5≤(List.length r42)) (
 ifb (List.isEmpty v38) (
 ze β L (yl 5 v36 v38) (List.take 5 r42) (fun zM5 =>
 ifb (decide (x46 ≥ (8:Int))) (
 zk β L [(V.sc (.int .u32 (0:Int))),(V.sc (.int .u16 (0:Int))),(V.sc (.int .u32 (0:Int)))] (fun zNG =>
 zB β L [(V.sc (.int .u8 v3)),(V.sc (.int .u8 v4)),(V.sc (.int .u8 v5)),(V.sc (.int .u8 v6)),(V.sc (.int .u8 v7)),(V.sc (.int .u8 v8)),(V.sc (.int .u8 v9)),(V.sc (.int .u8 v10)),(V.sc (.int .u8 v11)),(V.sc (.int .u8 v12)),(V.sc (.int .u8 v13)),(V.sc (.int .u8 v14)),(V.sc (.int .u8 v15)),(V.sc (.int .u8 v16)),(V.sc (.int .u8 v17)),(V.sc (.int .u8 v18)),(V.sc (.int .u8 v19)),(V.sc (.int .u8 v20)),(V.sc (.int .u8 v21)),(V.sc (.int .u8 v22)),(V.sc (.int .u8 v23)),(V.sc (.int .u8 v24)),(V.sc (.int .u8 v25)),(V.sc (.int .u8 v26)),(V.sc (.int .u8 v27)),(V.sc (.int .u8 v28)),(V.sc (.int .u8 v29)),(V.sc (.int .u8 v30)),(V.sc (.int .u8 v31)),(V.sc (.int .u8 v32)),(V.sc (.int .u8 v33)),(V.sc (.int .u8 v34)),(V.sl 5 v40),(V.sl 5 zM5)] [(V.sc (.int .u32 (0:Int))),(V.sc (.int .u16 (0:Int))),(V.sc (.int .u32 (0:Int)))] zNG (fun zMe zTs =>
 chk (List.length zMe=34) (
 cI .u8 zMe 0 fun zNH =>
 cI .u8 zMe 1 fun zNI =>
 cI .u8 zMe 2 fun zNJ =>
 cI .u8 zMe 3 fun zNK =>
 cI .u8 zMe 4 fun zNL =>
 cI .u8 zMe 5 fun zNM =>
 cI .u8 zMe 6 fun zNN =>
 cI .u8 zMe 7 fun zNO =>
 cI .u8 zMe 8 fun zNP =>
 cI .u8 zMe 9 fun zNQ =>
 cI .u8 zMe 10 fun zNR =>
 cI .u8 zMe 11 fun zNS =>
 cI .u8 zMe 12 fun zNT =>
 cI .u8 zMe 13 fun zNU =>
 cI .u8 zMe 14 fun zNV =>
 cI .u8 zMe 15 fun zNW =>
 cI .u8 zMe 16 fun zNX =>
 cI .u8 zMe 17 fun zNY =>
 cI .u8 zMe 18 fun zNZ =>
 cI .u8 zMe 19 fun zN0 =>
 cI .u8 zMe 20 fun zN1 =>
 cI .u8 zMe 21 fun zN2 =>
 cI .u8 zMe 22 fun zN3 =>
 cI .u8 zMe 23 fun zN4 =>
 cI .u8 zMe 24 fun zN5 =>
 cI .u8 zMe 25 fun zN6 =>
 cI .u8 zMe 26 fun zN7 =>
 cI .u8 zMe 27 fun zN8 =>
 cI .u8 zMe 28 fun zN9 =>
 cI .u8 zMe 29 fun zOa =>
 cI .u8 zMe 30 fun zOb =>
 cI .u8 zMe 31 fun zOc =>
 cL 5 zMe 32 fun zOd =>
 cL 5 zMe 33 fun zOe =>
 k_fin [(V.sc (.int .u8 zNH)),(V.sc (.int .u8 zNI)),(V.sc (.int .u8 zNJ)),(V.sc (.int .u8 zNK)),(V.sc (.int .u8 zNL)),(V.sc (.int .u8 zNM)),(V.sc (.int .u8 zNN)),(V.sc (.int .u8 zNO)),(V.sc (.int .u8 zNP)),(V.sc (.int .u8 zNQ)),(V.sc (.int .u8 zNR)),(V.sc (.int .u8 zNS)),(V.sc (.int .u8 zNT)),(V.sc (.int .u8 zNU)),(V.sc (.int .u8 zNV)),(V.sc (.int .u8 zNW)),(V.sc (.int .u8 zNX)),(V.sc (.int .u8 zNY)),(V.sc (.int .u8 zNZ)),(V.sc (.int .u8 zN0)),(V.sc (.int .u8 zN1)),(V.sc (.int .u8 zN2)),(V.sc (.int .u8 zN3)),(V.sc (.int .u8 zN4)),(V.sc (.int .u8 zN5)),(V.sc (.int .u8 zN6)),(V.sc (.int .u8 zN7)),(V.sc (.int .u8 zN8)),(V.sc (.int .u8 zN9)),(V.sc (.int .u8 zOa)),(V.sc (.int .u8 zOb)),(V.sc (.int .u8 zOc)),(V.sl 5 zOd),(V.sl 5 zOe)] (0:Int))))) (
 k_fin [(V.sc (.int .u8 v3)),(V.sc (.int .u8 v4)),(V.sc (.int .u8 v5)),(V.sc (.int .u8 v6)),(V.sc (.int .u8 v7)),(V.sc (.int .u8 v8)),(V.sc (.int .u8 v9)),(V.sc (.int .u8 v10)),(V.sc (.int .u8 v11)),(V.sc (.int .u8 v12)),(V.sc (.int .u8 v13)),(V.sc (.int .u8 v14)),(V.sc (.int .u8 v15)),(V.sc (.int .u8 v16)),(V.sc (.int .u8 v17)),(V.sc (.int .u8 v18)),(V.sc (.int .u8 v19)),(V.sc (.int .u8 v20)),(V.sc (.int .u8 v21)),(V.sc (.int .u8 v22)),(V.sc (.int .u8 v23)),(V.sc (.int .u8 v24)),(V.sc (.int .u8 v25)),(V.sc (.int .u8 v26)),(V.sc (.int .u8 v27)),(V.sc (.int .u8 v28)),(V.sc (.int .u8 v29)),(V.sc (.int .u8 v30)),(V.sc (.int .u8 v31)),(V.sc (.int .u8 v32)),(V.sc (.int .u8 v33)),(V.sc (.int .u8 v34)),(V.sl 5 v40),(V.sl 5 zM5)] (0:Int)))) (
 ze β L (yl 5 v36 v38) (List.take 5 r42) (fun zM6 =>
 ifb (decide (x46 ≥ (8:Int))) (
 zk β L [(V.sc (.int .u32 (0:Int))),(V.sc (.int .u16 (0:Int))),(V.sc (.int .u32 (0:Int)))] (fun zOf =>
 zB β L [(V.sc (.int .u8 v3)),(V.sc (.int .u8 v4)),(V.sc (.int .u8 v5)),(V.sc (.int .u8 v6)),(V.sc (.int .u8 v7)),(V.sc (.int .u8 v8)),(V.sc (.int .u8 v9)),(V.sc (.int .u8 v10)),(V.sc (.int .u8 v11)),(V.sc (.int .u8 v12)),(V.sc (.int .u8 v13)),(V.sc (.int .u8 v14)),(V.sc (.int .u8 v15)),(V.sc (.int .u8 v16)),(V.sc (.int .u8 v17)),(V.sc (.int .u8 v18)),(V.sc (.int .u8 v19)),(V.sc (.int .u8 v20)),(V.sc (.int .u8 v21)),(V.sc (.int .u8 v22)),(V.sc (.int .u8 v23)),(V.sc (.int .u8 v24)),(V.sc (.int .u8 v25)),(V.sc (.int .u8 v26)),(V.sc (.int .u8 v27)),(V.sc (.int .u8 v28)),(V.sc (.int .u8 v29)),(V.sc (.int .u8 v30)),(V.sc (.int .u8 v31)),(V.sc (.int .u8 v32)),(V.sc (.int .u8 v33)),(V.sc (.int .u8 v34)),(V.sl 5 v40),(V.sl 5 zM6)] [(V.sc (.int .u32 (0:Int))),(V.sc (.int .u16 (0:Int))),(V.sc (.int .u32 (0:Int)))] zOf (fun zMf zTt =>
 chk (List.length zMf=34) (
 cI .u8 zMf 0 fun zOg =>
 cI .u8 zMf 1 fun zOh =>
 cI .u8 zMf 2 fun zOi =>
 cI .u8 zMf 3 fun zOj =>
 cI .u8 zMf 4 fun zOk =>
 cI .u8 zMf 5 fun zOl =>
 cI .u8 zMf 6 fun zOm =>
 cI .u8 zMf 7 fun zOn =>
 cI .u8 zMf 8 fun zOo =>
 cI .u8 zMf 9 fun zOp =>
 cI .u8 zMf 10 fun zOq =>
 cI .u8 zMf 11 fun zOr =>
 cI .u8 zMf 12 fun zOs =>
 cI .u8 zMf 13 fun zOt =>
 cI .u8 zMf 14 fun zOu =>
 cI .u8 zMf 15 fun zOv =>
 cI .u8 zMf 16 fun zOw =>
 cI .u8 zMf 17 fun zOx =>
 cI .u8 zMf 18 fun zOy =>
 cI .u8 zMf 19 fun zOz =>
 cI .u8 zMf 20 fun zOA =>
 cI .u8 zMf 21 fun zOB =>
 cI .u8 zMf 22 fun zOC =>
 cI .u8 zMf 23 fun zOD =>
 cI .u8 zMf 24 fun zOE =>
 cI .u8 zMf 25 fun zOF =>
 cI .u8 zMf 26 fun zOG =>
 cI .u8 zMf 27 fun zOH =>
 cI .u8 zMf 28 fun zOI =>
 cI .u8 zMf 29 fun zOJ =>
 cI .u8 zMf 30 fun zOK =>
 cI .u8 zMf 31 fun zOL =>
 cL 5 zMf 32 fun zOM =>
 cL 5 zMf 33 fun zON =>
 k_fin [(V.sc (.int .u8 zOg)),(V.sc (.int .u8 zOh)),(V.sc (.int .u8 zOi)),(V.sc (.int .u8 zOj)),(V.sc (.int .u8 zOk)),(V.sc (.int .u8 zOl)),(V.sc (.int .u8 zOm)),(V.sc (.int .u8 zOn)),(V.sc (.int .u8 zOo)),(V.sc (.int .u8 zOp)),(V.sc (.int .u8 zOq)),(V.sc (.int .u8 zOr)),(V.sc (.int .u8 zOs)),(V.sc (.int .u8 zOt)),(V.sc (.int .u8 zOu)),(V.sc (.int .u8 zOv)),(V.sc (.int .u8 zOw)),(V.sc (.int .u8 zOx)),(V.sc (.int .u8 zOy)),(V.sc (.int .u8 zOz)),(V.sc (.int .u8 zOA)),(V.sc (.int .u8 zOB)),(V.sc (.int .u8 zOC)),(V.sc (.int .u8 zOD)),(V.sc (.int .u8 zOE)),(V.sc (.int .u8 zOF)),(V.sc (.int .u8 zOG)),(V.sc (.int .u8 zOH)),(V.sc (.int .u8 zOI)),(V.sc (.int .u8 zOJ)),(V.sc (.int .u8 zOK)),(V.sc (.int .u8 zOL)),(V.sl 5 zOM),(V.sl 5 zON)] (0:Int))))) (
 k_fin [(V.sc (.int .u8 v3)),(V.sc (.int .u8 v4)),(V.sc (.int .u8 v5)),(V.sc (.int .u8 v6)),(V.sc (.int .u8 v7)),(V.sc (.int .u8 v8)),(V.sc (.int .u8 v9)),(V.sc (.int .u8 v10)),(V.sc (.int .u8 v11)),(V.sc (.int .u8 v12)),(V.sc (.int .u8 v13)),(V.sc (.int .u8 v14)),(V.sc (.int .u8 v15)),(V.sc (.int .u8 v16)),(V.sc (.int .u8 v17)),(V.sc (.int .u8 v18)),(V.sc (.int .u8 v19)),(V.sc (.int .u8 v20)),(V.sc (.int .u8 v21)),(V.sc (.int .u8 v22)),(V.sc (.int .u8 v23)),(V.sc (.int .u8 v24)),(V.sc (.int .u8 v25)),(V.sc (.int .u8 v26)),(V.sc (.int .u8 v27)),(V.sc (.int .u8 v28)),(V.sc (.int .u8 v29)),(V.sc (.int .u8 v30)),(V.sc (.int .u8 v31)),(V.sc (.int .u8 v32)),(V.sc (.int .u8 v33)),(V.sc (.int .u8 v34)),(V.sl 5 v40),(V.sl 5 zM6)] (0:Int)))))))) (
 xe β L (yl 5 v36 v38) v43 (fun zMt zOO =>
 lt (IntKind.wrap .i64 ((zOO:Int) - zMt)) fun zM3 =>
 ifb (decide (zM3 ≥ (8:Int))) (
 chk (0≤zMt∧zMt < ((v36:Nat):Int)) (
 chk (((0+((Int.toNat zMt) * 5))+1)+3≤(List.length v38)) (
 chk ((List.length (List.take 3 (List.drop ((0+((Int.toNat zMt) * 5))+1) v38)))=3∧0+3≤3) (
 lt (xg [(V.sc (.int .u32 (0:Int))),(V.sc (.int .u16 (0:Int))),(V.sc (.int .u32 (0:Int)))] 0 (List.take 3 (List.drop ((0+((Int.toNat zMt) * 5))+1) v38))) fun zMU =>
 zf β L (yl 5 v36 v38) zMt (fun zOP =>
 chk (0+5≤(List.length r42)) (
 ze β L zOP (List.take 5 r42) (fun zM7 =>
 ifb (decide (zM3 ≥ (8:Int))) (
 chk (0+3≤(List.length zMU)) (
 chk (0+3≤(List.length zMU)) (
 zk β L (List.take 3 zMU) (fun zOQ =>
 zB β L [(V.sc (.int .u8 v3)),(V.sc (.int .u8 v4)),(V.sc (.int .u8 v5)),(V.sc (.int .u8 v6)),(V.sc (.int .u8 v7)),(V.sc (.int .u8 v8)),(V.sc (.int .u8 v9)),(V.sc (.int .u8 v10)),(V.sc (.int .u8 v11)),(V.sc (.int .u8 v12)),(V.sc (.int .u8 v13)),(V.sc (.int .u8 v14)),(V.sc (.int .u8 v15)),(V.sc (.int .u8 v16)),(V.sc (.int .u8 v17)),(V.sc (.int .u8 v18)),(V.sc (.int .u8 v19)),(V.sc (.int .u8 v20)),(V.sc (.int .u8 v21)),(V.sc (.int .u8 v22)),(V.sc (.int .u8 v23)),(V.sc (.int .u8 v24)),(V.sc (.int .u8 v25)),(V.sc (.int .u8 v26)),(V.sc (.int .u8 v27)),(V.sc (.int .u8 v28)),(V.sc (.int .u8 v29)),(V.sc (.int .u8 v30)),(V.sc (.int .u8 v31)),(V.sc (.int .u8 v32)),(V.sc (.int .u8 v33)),(V.sc (.int .u8 v34)),(V.sl 5 v40),(V.sl 5 zM7)] (List.take 3 zMU) zOQ (fun zMg zTu =>
 chk (List.length zMg=34) (
 cI .u8 zMg 0 fun zOR =>
 cI .u8 zMg 1 fun zOS =>
 cI .u8 zMg 2 fun zOT =>
 cI .u8 zMg 3 fun zOU =>
 cI .u8 zMg 4 fun zOV =>
 cI .u8 zMg 5 fun zOW =>
 cI .u8 zMg 6 fun zOX =>
 cI .u8 zMg 7 fun zOY =>
 cI .u8 zMg 8 fun zOZ =>
 cI .u8 zMg 9 fun zO0 =>
 cI .u8 zMg 10 fun zO1 =>
 cI .u8 zMg 11 fun zO2 =>
 cI .u8 zMg 12 fun zO3 =>
 cI .u8 zMg 13 fun zO4 =>
 cI .u8 zMg 14 fun zO5 =>
 cI .u8 zMg 15 fun zO6 =>
 cI .u8 zMg 16 fun zO7 =>
 cI .u8 zMg 17 fun zO8 =>
 cI .u8 zMg 18 fun zO9 =>
 cI .u8 zMg 19 fun zPa =>
 cI .u8 zMg 20 fun zPb =>
 cI .u8 zMg 21 fun zPc =>
 cI .u8 zMg 22 fun zPd =>
 cI .u8 zMg 23 fun zPe =>
 cI .u8 zMg 24 fun zPf =>
 cI .u8 zMg 25 fun zPg =>
 cI .u8 zMg 26 fun zPh =>
 cI .u8 zMg 27 fun zPi =>
 cI .u8 zMg 28 fun zPj =>
 cI .u8 zMg 29 fun zPk =>
 cI .u8 zMg 30 fun zPl =>
 cI .u8 zMg 31 fun zPm =>
 cL 5 zMg 32 fun zPn =>
 cL 5 zMg 33 fun zPo =>
 k_fin [(V.sc (.int .u8 zOR)),(V.sc (.int .u8 zOS)),(V.sc (.int .u8 zOT)),(V.sc (.int .u8 zOU)),(V.sc (.int .u8 zOV)),(V.sc (.int .u8 zOW)),(V.sc (.int .u8 zOX)),(V.sc (.int .u8 zOY)),(V.sc (.int .u8 zOZ)),(V.sc (.int .u8 zO0)),(V.sc (.int .u8 zO1)),(V.sc (.int .u8 zO2)),(V.sc (.int .u8 zO3)),(V.sc (.int .u8 zO4)),(V.sc (.int .u8 zO5)),(V.sc (.int .u8 zO6)),(V.sc (.int .u8 zO7)),(V.sc (.int .u8 zO8)),(V.sc (.int .u8 zO9)),(V.sc (.int .u8 zPa)),(V.sc (.int .u8 zPb)),(V.sc (.int .u8 zPc)),(V.sc (.int .u8 zPd)),(V.sc (.int .u8 zPe)),(V.sc (.int .u8 zPf)),(V.sc (.int .u8 zPg)),(V.sc (.int .u8 zPh)),(V.sc (.int .u8 zPi)),(V.sc (.int .u8 zPj)),(V.sc (.int .u8 zPk)),(V.sc (.int .u8 zPl)),(V.sc (.int .u8 zPm)),(V.sl 5 zPn),(V.sl 5 zPo)] (0:Int))))))) (
 k_fin [(V.sc (.int .u8 v3)),(V.sc (.int .u8 v4)),(V.sc (.int .u8 v5)),(V.sc (.int .u8 v6)),(V.sc (.int .u8 v7)),(V.sc (.int .u8 v8)),(V.sc (.int .u8 v9)),(V.sc (.int .u8 v10)),(V.sc (.int .u8 v11)),(V.sc (.int .u8 v12)),(V.sc (.int .u8 v13)),(V.sc (.int .u8 v14)),(V.sc (.int .u8 v15)),(V.sc (.int .u8 v16)),(V.sc (.int .u8 v17)),(V.sc (.int .u8 v18)),(V.sc (.int .u8 v19)),(V.sc (.int .u8 v20)),(V.sc (.int .u8 v21)),(V.sc (.int .u8 v22)),(V.sc (.int .u8 v23)),(V.sc (.int .u8 v24)),(V.sc (.int .u8 v25)),(V.sc (.int .u8 v26)),(V.sc (.int .u8 v27)),(V.sc (.int .u8 v28)),(V.sc (.int .u8 v29)),(V.sc (.int .u8 v30)),(V.sc (.int .u8 v31)),(V.sc (.int .u8 v32)),(V.sc (.int .u8 v33)),(V.sc (.int .u8 v34)),(V.sl 5 v40),(V.sl 5 zM7)] (0:Int))))))))) (
 chk (0+5≤(List.length r42)) (
 ze β L (yl 5 v36 v38) (List.take 5 r42) (fun zM8 =>
 ifb (decide (zM3 ≥ (8:Int))) (
 zk β L [(V.sc (.int .u32 (0:Int))),(V.sc (.int .u16 (0:Int))),(V.sc (.int .u32 (0:Int)))] (fun zPp =>
 zB β L [(V.sc (.int .u8 v3)),(V.sc (.int .u8 v4)),(V.sc (.int .u8 v5)),(V.sc (.int .u8 v6)),(V.sc (.int .u8 v7)),(V.sc (.int .u8 v8)),(V.sc (.int .u8 v9)),(V.sc (.int .u8 v10)),(V.sc (.int .u8 v11)),(V.sc (.int .u8 v12)),(V.sc (.int .u8 v13)),(V.sc (.int .u8 v14)),(V.sc (.int .u8 v15)),(V.sc (.int .u8 v16)),(V.sc (.int .u8 v17)),(V.sc (.int .u8 v18)),(V.sc (.int .u8 v19)),(V.sc (.int .u8 v20)),(V.sc (.int .u8 v21)),(V.sc (.int .u8 v22)),(V.sc (.int .u8 v23)),(V.sc (.int .u8 v24)),(V.sc (.int .u8 v25)),(V.sc (.int .u8 v26)),(V.sc (.int .u8 v27)),(V.sc (.int .u8 v28)),(V.sc (.int .u8 v29)),(V.sc (.int .u8 v30)),(V.sc (.int .u8 v31)),(V.sc (.int .u8 v32)),(V.sc (.int .u8 v33)),(V.sc (.int .u8 v34)),(V.sl 5 v40),(V.sl 5 zM8)] [(V.sc (.int .u32 (0:Int))),(V.sc (.int .u16 (0:Int))),(V.sc (.int .u32 (0:Int)))] zPp (fun zMh zTv =>
 chk (List.length zMh=34) (
 cI .u8 zMh 0 fun zPq =>
 cI .u8 zMh 1 fun zPr =>
 cI .u8 zMh 2 fun zPs =>
 cI .u8 zMh 3 fun zPt =>
 cI .u8 zMh 4 fun zPu =>
 cI .u8 zMh 5 fun zPv =>
 cI .u8 zMh 6 fun zPw =>
 cI .u8 zMh 7 fun zPx =>
 cI .u8 zMh 8 fun zPy =>
 cI .u8 zMh 9 fun zPz =>
 cI .u8 zMh 10 fun zPA =>
 cI .u8 zMh 11 fun zPB =>
 cI .u8 zMh 12 fun zPC =>
 cI .u8 zMh 13 fun zPD =>
 cI .u8 zMh 14 fun zPE =>
 cI .u8 zMh 15 fun zPF =>
 cI .u8 zMh 16 fun zPG =>
 cI .u8 zMh 17 fun zPH =>
 cI .u8 zMh 18 fun zPI =>
 cI .u8 zMh 19 fun zPJ =>
 cI .u8 zMh 20 fun zPK =>
 cI .u8 zMh 21 fun zPL =>
 cI .u8 zMh 22 fun zPM =>
 cI .u8 zMh 23 fun zPN =>
 cI .u8 zMh 24 fun zPO =>
 cI .u8 zMh 25 fun zPP =>
 cI .u8 zMh 26 fun zPQ =>
 cI .u8 zMh 27 fun zPR =>
 cI .u8 zMh 28 fun zPS =>
 cI .u8 zMh 29 fun zPT =>
 cI .u8 zMh 30 fun zPU =>
 cI .u8 zMh 31 fun zPV =>
 cL 5 zMh 32 fun zPW =>
 cL 5 zMh 33 fun zPX =>
 k_fin [(V.sc (.int .u8 zPq)),(V.sc (.int .u8 zPr)),(V.sc (.int .u8 zPs)),(V.sc (.int .u8 zPt)),(V.sc (.int .u8 zPu)),(V.sc (.int .u8 zPv)),(V.sc (.int .u8 zPw)),(V.sc (.int .u8 zPx)),(V.sc (.int .u8 zPy)),(V.sc (.int .u8 zPz)),(V.sc (.int .u8 zPA)),(V.sc (.int .u8 zPB)),(V.sc (.int .u8 zPC)),(V.sc (.int .u8 zPD)),(V.sc (.int .u8 zPE)),(V.sc (.int .u8 zPF)),(V.sc (.int .u8 zPG)),(V.sc (.int .u8 zPH)),(V.sc (.int .u8 zPI)),(V.sc (.int .u8 zPJ)),(V.sc (.int .u8 zPK)),(V.sc (.int .u8 zPL)),(V.sc (.int .u8 zPM)),(V.sc (.int .u8 zPN)),(V.sc (.int .u8 zPO)),(V.sc (.int .u8 zPP)),(V.sc (.int .u8 zPQ)),(V.sc (.int .u8 zPR)),(V.sc (.int .u8 zPS)),(V.sc (.int .u8 zPT)),(V.sc (.int .u8 zPU)),(V.sc (.int .u8 zPV)),(V.sl 5 zPW),(V.sl 5 zPX)] (0:Int))))) (
 k_fin [(V.sc (.int .u8 v3)),(V.sc (.int .u8 v4)),(V.sc (.int .u8 v5)),(V.sc (.int .u8 v6)),(V.sc (.int .u8 v7)),(V.sc (.int .u8 v8)),(V.sc (.int .u8 v9)),(V.sc (.int .u8 v10)),(V.sc (.int .u8 v11)),(V.sc (.int .u8 v12)),(V.sc (.int .u8 v13)),(V.sc (.int .u8 v14)),(V.sc (.int .u8 v15)),(V.sc (.int .u8 v16)),(V.sc (.int .u8 v17)),(V.sc (.int .u8 v18)),(V.sc (.int .u8 v19)),(V.sc (.int .u8 v20)),(V.sc (.int .u8 v21)),(V.sc (.int .u8 v22)),(V.sc (.int .u8 v23)),(V.sc (.int .u8 v24)),(V.sc (.int .u8 v25)),(V.sc (.int .u8 v26)),(V.sc (.int .u8 v27)),(V.sc (.int .u8 v28)),(V.sc (.int .u8 v29)),(V.sc (.int .u8 v30)),(V.sc (.int .u8 v31)),(V.sc (.int .u8 v32)),(V.sc (.int .u8 v33)),(V.sc (.int .u8 v34)),(V.sl 5 v40),(V.sl 5 zM8)] (0:Int))))))))))))) (
 zf β L (yl 5 v35 v37) v2 (fun zMo =>
 chk (0+32≤(List.length p0)) (
 chk (1+3≤(List.length r39)) (
 yf β L (List.take 32 p0) (List.take 3 (List.drop 1 r39)) (fun zPY =>
 chk (1=1∧0+1≤(List.length r39)) (
 lt (xg r39 0 [(V.sc (.int .i64 zPY))]) fun zMp =>
 cI .i64 zMp 0 fun zM9 =>
 ifb (List.isEmpty v38) (
 xe β L (yl 5 v36 v38) zM9 (fun zMq zPZ =>
 lt (IntKind.wrap .i64 ((zPZ:Int) - zMq)) fun zMx =>
 ifb (decide (zMx ≥ (8:Int))) (
 chk (0≤zMq∧zMq < ((v36:Nat):Int)) (
 chk (((0+((Int.toNat zMq) * 5))+1)+3≤(List.length v38)) (
 chk ((List.length (List.take 3 (List.drop ((0+((Int.toNat zMq) * 5))+1) v38)))=3∧0+3≤3) (
 lt (xg [(V.sc (.int .u32 (0:Int))),(V.sc (.int .u16 (0:Int))),(V.sc (.int .u32 (0:Int)))] 0 (List.take 3 (List.drop ((0+((Int.toNat zMq) * 5))+1) v38))) fun zMr =>
 ifb (List.isEmpty v38) (
 zf β L (yl 5 v36 v38) zMq (fun zP0 =>
 chk (0+5≤(List.length zMp)) (
 ze β L zP0 (List.take 5 zMp) (fun zNa =>
 ifb (decide (zMx ≥ (8:Int))) (
 chk (0+3≤(List.length zMr)) (
 chk (0+3≤(List.length zMr)) (
 zk β L (List.take 3 zMr) (fun zP1 =>
 zB β L [(V.sc (.int .u8 v3)),(V.sc (.int .u8 v4)),(V.sc (.int .u8 v5)),(V.sc (.int .u8 v6)),(V.sc (.int .u8 v7)),(V.sc (.int .u8 v8)),(V.sc (.int .u8 v9)),(V.sc (.int .u8 v10)),(V.sc (.int .u8 v11)),(V.sc (.int .u8 v12)),(V.sc (.int .u8 v13)),(V.sc (.int .u8 v14)),(V.sc (.int .u8 v15)),(V.sc (.int .u8 v16)),(V.sc (.int .u8 v17)),(V.sc (.int .u8 v18)),(V.sc (.int .u8 v19)),(V.sc (.int .u8 v20)),(V.sc (.int .u8 v21)),(V.sc (.int .u8 v22)),(V.sc (.int .u8 v23)),(V.sc (.int .u8 v24)),(V.sc (.int .u8 v25)),(V.sc (.int .u8 v26)),(V.sc (.int .u8 v27)),(V.sc (.int .u8 v28)),(V.sc (.int .u8 v29)),(V.sc (.int .u8 v30)),(V.sc (.int .u8 v31)),(V.sc (.int .u8 v32)),(V.sc (.int .u8 v33)),(V.sc (.int .u8 v34)),(V.sl 5 zMo),(V.sl 5 zNa)] (List.take 3 zMr) zP1 (fun zMi zTw =>
 chk (List.length zMi=34) (
 cI .u8 zMi 0 fun zP2 =>
 cI .u8 zMi 1 fun zP3 =>
 cI .u8 zMi 2 fun zP4 =>
 cI .u8 zMi 3 fun zP5 =>
 cI .u8 zMi 4 fun zP6 =>
 cI .u8 zMi 5 fun zP7 =>
 cI .u8 zMi 6 fun zP8 =>
 cI .u8 zMi 7 fun zP9 =>
 cI .u8 zMi 8 fun zQa =>
 cI .u8 zMi 9 fun zQb =>
 cI .u8 zMi 10 fun zQc =>
 cI .u8 zMi 11 fun zQd =>
 cI .u8 zMi 12 fun zQe =>
 cI .u8 zMi 13 fun zQf =>
 cI .u8 zMi 14 fun zQg =>
 cI .u8 zMi 15 fun zQh =>
 cI .u8 zMi 16 fun zQi =>
 cI .u8 zMi 17 fun zQj =>
 cI .u8 zMi 18 fun zQk =>
 cI .u8 zMi 19 fun zQl =>
 cI .u8 zMi 20 fun zQm =>
 cI .u8 zMi 21 fun zQn =>
 cI .u8 zMi 22 fun zQo =>
 cI .u8 zMi 23 fun zQp =>
 cI .u8 zMi 24 fun zQq =>
 cI .u8 zMi 25 fun zQr =>
 cI .u8 zMi 26 fun zQs =>
 cI .u8 zMi 27 fun zQt =>
 cI .u8 zMi 28 fun zQu =>
 cI .u8 zMi 29 fun zQv =>
 cI .u8 zMi 30 fun zQw =>
 cI .u8 zMi 31 fun zQx =>
 cL 5 zMi 32 fun zQy =>
 cL 5 zMi 33 fun zQz =>
 k_fin [(V.sc (.int .u8 zP2)),(V.sc (.int .u8 zP3)),(V.sc (.int .u8 zP4)),(V.sc (.int .u8 zP5)),(V.sc (.int .u8 zP6)),(V.sc (.int .u8 zP7)),(V.sc (.int .u8 zP8)),(V.sc (.int .u8 zP9)),(V.sc (.int .u8 zQa)),(V.sc (.int .u8 zQb)),(V.sc (.int .u8 zQc)),(V.sc (.int .u8 zQd)),(V.sc (.int .u8 zQe)),(V.sc (.int .u8 zQf)),(V.sc (.int .u8 zQg)),(V.sc (.int .u8 zQh)),(V.sc (.int .u8 zQi)),(V.sc (.int .u8 zQj)),(V.sc (.int .u8 zQk)),(V.sc (.int .u8 zQl)),(V.sc (.int .u8 zQm)),(V.sc (.int .u8 zQn)),(V.sc (.int .u8 zQo)),(V.sc (.int .u8 zQp)),(V.sc (.int .u8 zQq)),(V.sc (.int .u8 zQr)),(V.sc (.int .u8 zQs)),(V.sc (.int .u8 zQt)),(V.sc (.int .u8 zQu)),(V.sc (.int .u8 zQv)),(V.sc (.int .u8 zQw)),(V.sc (.int .u8 zQx)),(V.sl 5 zQy),(V.sl 5 zQz)] (0:Int))))))) (
 k_fin [(V.sc (.int .u8 v3)),(V.sc (.int .u8 v4)),(V.sc (.int .u8 v5)),(V.sc (.int .u8 v6)),(V.sc (.int .u8 v7)),(V.sc (.int .u8 v8)),(V.sc (.int .u8 v9)),(V.sc (.int .u8 v10)),(V.sc (.int .u8 v11)),(V.sc (.int .u8 v12)),(V.sc (.int .u8 v13)),(V.sc (.int .u8 v14)),(V.sc (.int .u8 v15)),(V.sc (.int .u8 v16)),(V.sc (.int .u8 v17)),(V.sc (.int .u8 v18)),(V.sc (.int .u8 v19)),(V.sc (.int .u8 v20)),(V.sc (.int .u8 v21)),(V.sc (.int .u8 v22)),(V.sc (.int .u8 v23)),(V.sc (.int .u8 v24)),(V.sc (.int .u8 v25)),(V.sc (.int .u8 v26)),(V.sc (.int .u8 v27)),(V.sc (.int .u8 v28)),(V.sc (.int .u8 v29)),(V.sc (.int .u8 v30)),(V.sc (.int .u8 v31)),(V.sc (.int .u8 v32)),(V.sc (.int .u8 v33)),(V.sc (.int .u8 v34)),(V.sl 5 zMo),(V.sl 5 zNa)] (0:Int)))))) (
 zf β L (yl 5 v36 v38) zMq (fun zQA =>
 chk (0+5≤(List.length zMp)) (
 ze β L zQA (List.take 5 zMp) (fun zNb =>
 ifb (decide (zMx ≥ (8:Int))) (
 chk (0+3≤(List.length zMr)) (
 chk (0+3≤(List.length zMr)) (
 zk β L (List.take 3 zMr) (fun zQB =>
 zB β L [(V.sc (.int .u8 v3)),(V.sc (.int .u8 v4)),(V.sc (.int .u8 v5)),(V.sc (.int .u8 v6)),(V.sc (.int .u8 v7)),(V.sc (.int .u8 v8)),(V.sc (.int .u8 v9)),(V.sc (.int .u8 v10)),(V.sc (.int .u8 v11)),(V.sc (.int .u8 v12)),(V.sc (.int .u8 v13)),(V.sc (.int .u8 v14)),(V.sc (.int .u8 v15)),(V.sc (.int .u8 v16)),(V.sc (.int .u8 v17)),(V.sc (.int .u8 v18)),(V.sc (.int .u8 v19)),(V.sc (.int .u8 v20)),(V.sc (.int .u8 v21)),(V.sc (.int .u8 v22)),(V.sc (.int .u8 v23)),(V.sc (.int .u8 v24)),(V.sc (.int .u8 v25)),(V.sc (.int .u8 v26)),(V.sc (.int .u8 v27)),(V.sc (.int .u8 v28)),(V.sc (.int .u8 v29)),(V.sc (.int .u8 v30)),(V.sc (.int .u8 v31)),(V.sc (.int .u8 v32)),(V.sc (.int .u8 v33)),(V.sc (.int .u8 v34)),(V.sl 5 zMo),(V.sl 5 zNb)] (List.take 3 zMr) zQB (fun zMj zTx =>
 chk (List.length zMj=34) (
 cI .u8 zMj 0 fun zQC =>
 cI .u8 zMj 1 fun zQD =>
 cI .u8 zMj 2 fun zQE =>
 cI .u8 zMj 3 fun zQF =>
 cI .u8 zMj 4 fun zQG =>
 cI .u8 zMj 5 fun zQH =>
 cI .u8 zMj 6 fun zQI =>
 cI .u8 zMj 7 fun zQJ =>
 cI .u8 zMj 8 fun zQK =>
 cI .u8 zMj 9 fun zQL =>
 cI .u8 zMj 10 fun zQM =>
 cI .u8 zMj 11 fun zQN =>
 cI .u8 zMj 12 fun zQO =>
 cI .u8 zMj 13 fun zQP =>
 cI .u8 zMj 14 fun zQQ =>
 cI .u8 zMj 15 fun zQR =>
 cI .u8 zMj 16 fun zQS =>
 cI .u8 zMj 17 fun zQT =>
 cI .u8 zMj 18 fun zQU =>
 cI .u8 zMj 19 fun zQV =>
 cI .u8 zMj 20 fun zQW =>
 cI .u8 zMj 21 fun zQX =>
 cI .u8 zMj 22 fun zQY =>
 cI .u8 zMj 23 fun zQZ =>
 cI .u8 zMj 24 fun zQ0 =>
 cI .u8 zMj 25 fun zQ1 =>
 cI .u8 zMj 26 fun zQ2 =>
 cI .u8 zMj 27 fun zQ3 =>
 cI .u8 zMj 28 fun zQ4 =>
 cI .u8 zMj 29 fun zQ5 =>
 cI .u8 zMj 30 fun zQ6 =>
 cI .u8 zMj 31 fun zQ7 =>
 cL 5 zMj 32 fun zQ8 =>
 cL 5 zMj 33 fun zQ9 =>
 k_fin [(V.sc (.int .u8 zQC)),(V.sc (.int .u8 zQD)),(V.sc (.int .u8 zQE)),(V.sc (.int .u8 zQF)),(V.sc (.int .u8 zQG)),(V.sc (.int .u8 zQH)),(V.sc (.int .u8 zQI)),(V.sc (.int .u8 zQJ)),(V.sc (.int .u8 zQK)),(V.sc (.int .u8 zQL)),(V.sc (.int .u8 zQM)),(V.sc (.int .u8 zQN)),(V.sc (.int .u8 zQO)),(V.sc (.int .u8 zQP)),(V.sc (.int .u8 zQQ)),(V.sc (.int .u8 zQR)),(V.sc (.int .u8 zQS)),(V.sc (.int .u8 zQT)),(V.sc (.int .u8 zQU)),(V.sc (.int .u8 zQV)),(V.sc (.int .u8 zQW)),(V.sc (.int .u8 zQX)),(V.sc (.int .u8 zQY)),(V.sc (.int .u8 zQZ)),(V.sc (.int .u8 zQ0)),(V.sc (.int .u8 zQ1)),(V.sc (.int .u8 zQ2)),(V.sc (.int .u8 zQ3)),(V.sc (.int .u8 zQ4)),(V.sc (.int .u8 zQ5)),(V.sc (.int .u8 zQ6)),(V.sc (.int .u8 zQ7)),(V.sl 5 zQ8),(V.sl 5 zQ9)] (0:Int))))))) (
 k_fin [(V.sc (.int .u8 v3)),(V.sc (.int .u8 v4)),(V.sc (.int .u8 v5)),(V.sc (.int .u8 v6)),(V.sc (.int .u8 v7)),(V.sc (.int .u8 v8)),(V.sc (.int .u8 v9)),(V.sc (.int .u8 v10)),(V.sc (.int .u8 v11)),(V.sc (.int .u8 v12)),(V.sc (.int .u8 v13)),(V.sc (.int .u8 v14)),(V.sc (.int .u8 v15)),(V.sc (.int .u8 v16)),(V.sc (.int .u8 v17)),(V.sc (.int .u8 v18)),(V.sc (.int .u8 v19)),(V.sc (.int .u8 v20)),(V.sc (.int .u8 v21)),(V.sc (.int .u8 v22)),(V.sc (.int .u8 v23)),(V.sc (.int .u8 v24)),(V.sc (.int .u8 v25)),(V.sc (.int .u8 v26)),(V.sc (.int .u8 v27)),(V.sc (.int .u8 v28)),(V.sc (.int .u8 v29)),(V.sc (.int .u8 v30)),(V.sc (.int .u8 v31)),(V.sc (.int .u8 v32)),(V.sc (.int .u8 v33)),(V.sc (.int .u8 v34)),(V.sl 5 zMo),(V.sl 5 zNb)] (0:Int)))))))))) (
 chk (0+5≤(List.length zMp)) (
 ifb (List.isEmpty v38) (
 ze β L (yl 5 v36 v38) (List.take 5 zMp) (fun zNc =>
 ifb (decide (zMx ≥ (8:Int))) (
 zk β L [(V.sc (.int .u32 (0:Int))),(V.sc (.int .u16 (0:Int))),(V.sc (.int .u32 (0:Int)))] (fun zRa =>
 zB β L [(V.sc (.int .u8 v3)),(V.sc (.int .u8 v4)),(V.sc (.int .u8 v5)),(V.sc (.int .u8 v6)),(V.sc (.int .u8 v7)),(V.sc (.int .u8 v8)),(V.sc (.int .u8 v9)),(V.sc (.int .u8 v10)),(V.sc (.int .u8 v11)),(V.sc (.int .u8 v12)),(V.sc (.int .u8 v13)),(V.sc (.int .u8 v14)),(V.sc (.int .u8 v15)),(V.sc (.int .u8 v16)),(V.sc (.int .u8 v17)),(V.sc (.int .u8 v18)),(V.sc (.int .u8 v19)),(V.sc (.int .u8 v20)),(V.sc (.int .u8 v21)),(V.sc (.int .u8 v22)),(V.sc (.int .u8 v23)),(V.sc (.int .u8 v24)),(V.sc (.int .u8 v25)),(V.sc (.int .u8 v26)),(V.sc (.int .u8 v27)),(V.sc (.int .u8 v28)),(V.sc (.int .u8 v29)),(V.sc (.int .u8 v30)),(V.sc (.int .u8 v31)),(V.sc (.int .u8 v32)),(V.sc (.int .u8 v33)),(V.sc (.int .u8 v34)),(V.sl 5 zMo),(V.sl 5 zNc)] [(V.sc (.int .u32 (0:Int))),(V.sc (.int .u16 (0:Int))),(V.sc (.int .u32 (0:Int)))] zRa (fun zMk zTy =>
 chk (List.length zMk=34) (
 cI .u8 zMk 0 fun zRb =>
 cI .u8 zMk 1 fun zRc =>
 cI .u8 zMk 2 fun zRd =>
 cI .u8 zMk 3 fun zRe =>
 cI .u8 zMk 4 fun zRf =>
 cI .u8 zMk 5 fun zRg =>
 cI .u8 zMk 6 fun zRh =>
 cI .u8 zMk 7 fun zRi =>
 cI .u8 zMk 8 fun zRj =>
 cI .u8 zMk 9 fun zRk =>
 cI .u8 zMk 10 fun zRl =>
 cI .u8 zMk 11 fun zRm =>
 cI .u8 zMk 12 fun zRn =>
 cI .u8 zMk 13 fun zRo =>
 cI .u8 zMk 14 fun zRp =>
 cI .u8 zMk 15 fun zRq =>
 cI .u8 zMk 16 fun zRr =>
 cI .u8 zMk 17 fun zRs =>
 cI .u8 zMk 18 fun zRt =>
 cI .u8 zMk 19 fun zRu =>
 cI .u8 zMk 20 fun zRv =>
 cI .u8 zMk 21 fun zRw =>
 cI .u8 zMk 22 fun zRx =>
 cI .u8 zMk 23 fun zRy =>
 cI .u8 zMk 24 fun zRz =>
 cI .u8 zMk 25 fun zRA =>
 cI .u8 zMk 26 fun zRB =>
 cI .u8 zMk 27 fun zRC =>
 cI .u8 zMk 28 fun zRD =>
 cI .u8 zMk 29 fun zRE =>
 cI .u8 zMk 30 fun zRF =>
 cI .u8 zMk 31 fun zRG =>
 cL 5 zMk 32 fun zRH =>
 cL 5 zMk 33 fun zRI =>
 k_fin [(V.sc (.int .u8 zRb)),(V.sc (.int .u8 zRc)),(V.sc (.int .u8 zRd)),(V.sc (.int .u8 zRe)),(V.sc (.int .u8 zRf)),(V.sc (.int .u8 zRg)),(V.sc (.int .u8 zRh)),(V.sc (.int .u8 zRi)),(V.sc (.int .u8 zRj)),(V.sc (.int .u8 zRk)),(V.sc (.int .u8 zRl)),(V.sc (.int .u8 zRm)),(V.sc (.int .u8 zRn)),(V.sc (.int .u8 zRo)),(V.sc (.int .u8 zRp)),(V.sc (.int .u8 zRq)),(V.sc (.int .u8 zRr)),(V.sc (.int .u8 zRs)),(V.sc (.int .u8 zRt)),(V.sc (.int .u8 zRu)),(V.sc (.int .u8 zRv)),(V.sc (.int .u8 zRw)),(V.sc (.int .u8 zRx)),(V.sc (.int .u8 zRy)),(V.sc (.int .u8 zRz)),(V.sc (.int .u8 zRA)),(V.sc (.int .u8 zRB)),(V.sc (.int .u8 zRC)),(V.sc (.int .u8 zRD)),(V.sc (.int .u8 zRE)),(V.sc (.int .u8 zRF)),(V.sc (.int .u8 zRG)),(V.sl 5 zRH),(V.sl 5 zRI)] (0:Int))))) (
 k_fin [(V.sc (.int .u8 v3)),(V.sc (.int .u8 v4)),(V.sc (.int .u8 v5)),(V.sc (.int .u8 v6)),(V.sc (.int .u8 v7)),(V.sc (.int .u8 v8)),(V.sc (.int .u8 v9)),(V.sc (.int .u8 v10)),(V.sc (.int .u8 v11)),(V.sc (.int .u8 v12)),(V.sc (.int .u8 v13)),(V.sc (.int .u8 v14)),(V.sc (.int .u8 v15)),(V.sc (.int .u8 v16)),(V.sc (.int .u8 v17)),(V.sc (.int .u8 v18)),(V.sc (.int .u8 v19)),(V.sc (.int .u8 v20)),(V.sc (.int .u8 v21)),(V.sc (.int .u8 v22)),(V.sc (.int .u8 v23)),(V.sc (.int .u8 v24)),(V.sc (.int .u8 v25)),(V.sc (.int .u8 v26)),(V.sc (.int .u8 v27)),(V.sc (.int .u8 v28)),(V.sc (.int .u8 v29)),(V.sc (.int .u8 v30)),(V.sc (.int .u8 v31)),(V.sc (.int .u8 v32)),(V.sc (.int .u8 v33)),(V.sc (.int .u8 v34)),(V.sl 5 zMo),(V.sl 5 zNc)] (0:Int)))) (
 ze β L (yl 5 v36 v38) (List.take 5 zMp) (fun zNd =>
 ifb (decide (zMx ≥ (8:Int))) (
 zk β L [(V.sc (.int .u32 (0:Int))),(V.sc (.int .u16 (0:Int))),(V.sc (.int .u32 (0:Int)))] (fun zRJ =>
 zB β L [(V.sc (.int .u8 v3)),(V.sc (.int .u8 v4)),(V.sc (.int .u8 v5)),(V.sc (.int .u8 v6)),(V.sc (.int .u8 v7)),(V.sc (.int .u8 v8)),(V.sc (.int .u8 v9)),(V.sc (.int .u8 v10)),(V.sc (.int .u8 v11)),(V.sc (.int .u8 v12)),(V.sc (.int .u8 v13)),(V.sc (.int .u8 v14)),(V.sc (.int .u8 v15)),(V.sc (.int .u8 v16)),(V.sc (.int .u8 v17)),(V.sc (.int .u8 v18)),(V.sc (.int .u8 v19)),(V.sc (.int .u8 v20)),(V.sc (.int .u8 v21)),(V.sc (.int .u8 v22)),(V.sc (.int .u8 v23)),(V.sc (.int .u8 v24)),(V.sc (.int .u8 v25)),(V.sc (.int .u8 v26)),(V.sc (.int .u8 v27)),(V.sc (.int .u8 v28)),(V.sc (.int .u8 v29)),(V.sc (.int .u8 v30)),(V.sc (.int .u8 v31)),(V.sc (.int .u8 v32)),(V.sc (.int .u8 v33)),(V.sc (.int .u8 v34)),(V.sl 5 zMo),(V.sl 5 zNd)] [(V.sc (.int .u32 (0:Int))),(V.sc (.int .u16 (0:Int))),(V.sc (.int .u32 (0:Int)))] zRJ (fun zMl zTz =>
 chk (List.length zMl=34) (
 cI .u8 zMl 0 fun zRK =>
 cI .u8 zMl 1 fun zRL =>
 cI .u8 zMl 2 fun zRM =>
 cI .u8 zMl 3 fun zRN =>
 cI .u8 zMl 4 fun zRO =>
 cI .u8 zMl 5 fun zRP =>
 cI .u8 zMl 6 fun zRQ =>
 cI .u8 zMl 7 fun zRR =>
 cI .u8 zMl 8 fun zRS =>
 cI .u8 zMl 9 fun zRT =>
 cI .u8 zMl 10 fun zRU =>
 cI .u8 zMl 11 fun zRV =>
 cI .u8 zMl 12 fun zRW =>
 cI .u8 zMl 13 fun zRX =>
 cI .u8 zMl 14 fun zRY =>
 cI .u8 zMl 15 fun zRZ =>
 cI .u8 zMl 16 fun zR0 =>
 cI .u8 zMl 17 fun zR1 =>
 cI .u8 zMl 18 fun zR2 =>
 cI .u8 zMl 19 fun zR3 =>
 cI .u8 zMl 20 fun zR4 =>
 cI .u8 zMl 21 fun zR5 =>
 cI .u8 zMl 22 fun zR6 =>
 cI .u8 zMl 23 fun zR7 =>
 cI .u8 zMl 24 fun zR8 =>
 cI .u8 zMl 25 fun zR9 =>
 cI .u8 zMl 26 fun zSa =>
 cI .u8 zMl 27 fun zSb =>
 cI .u8 zMl 28 fun zSc =>
 cI .u8 zMl 29 fun zSd =>
 cI .u8 zMl 30 fun zSe =>
 cI .u8 zMl 31 fun zSf =>
 cL 5 zMl 32 fun zSg =>
 cL 5 zMl 33 fun zSh =>
 k_fin [(V.sc (.int .u8 zRK)),(V.sc (.int .u8 zRL)),(V.sc (.int .u8 zRM)),(V.sc (.int .u8 zRN)),(V.sc (.int .u8 zRO)),(V.sc (.int .u8 zRP)),(V.sc (.int .u8 zRQ)),(V.sc (.int .u8 zRR)),(V.sc (.int .u8 zRS)),(V.sc (.int .u8 zRT)),(V.sc (.int .u8 zRU)),(V.sc (.int .u8 zRV)),(V.sc (.int .u8 zRW)),(V.sc (.int .u8 zRX)),(V.sc (.int .u8 zRY)),(V.sc (.int .u8 zRZ)),(V.sc (.int .u8 zR0)),(V.sc (.int .u8 zR1)),(V.sc (.int .u8 zR2)),(V.sc (.int .u8 zR3)),(V.sc (.int .u8 zR4)),(V.sc (.int .u8 zR5)),(V.sc (.int .u8 zR6)),(V.sc (.int .u8 zR7)),(V.sc (.int .u8 zR8)),(V.sc (.int .u8 zR9)),(V.sc (.int .u8 zSa)),(V.sc (.int .u8 zSb)),(V.sc (.int .u8 zSc)),(V.sc (.int .u8 zSd)),(V.sc (.int .u8 zSe)),(V.sc (.int .u8 zSf)),(V.sl 5 zSg),(V.sl 5 zSh)] (0:Int))))) (
 k_fin [(V.sc (.int .u8 v3)),(V.sc (.int .u8 v4)),(V.sc (.int .u8 v5)),(V.sc (.int .u8 v6)),(V.sc (.int .u8 v7)),(V.sc (.int .u8 v8)),(V.sc (.int .u8 v9)),(V.sc (.int .u8 v10)),(V.sc (.int .u8 v11)),(V.sc (.int .u8 v12)),(V.sc (.int .u8 v13)),(V.sc (.int .u8 v14)),(V.sc (.int .u8 v15)),(V.sc (.int .u8 v16)),(V.sc (.int .u8 v17)),(V.sc (.int .u8 v18)),(V.sc (.int .u8 v19)),(V.sc (.int .u8 v20)),(V.sc (.int .u8 v21)),(V.sc (.int .u8 v22)),(V.sc (.int .u8 v23)),(V.sc (.int .u8 v24)),(V.sc (.int .u8 v25)),(V.sc (.int .u8 v26)),(V.sc (.int .u8 v27)),(V.sc (.int .u8 v28)),(V.sc (.int .u8 v29)),(V.sc (.int .u8 v30)),(V.sc (.int .u8 v31)),(V.sc (.int .u8 v32)),(V.sc (.int .u8 v33)),(V.sc (.int .u8 v34)),(V.sl 5 zMo),(V.sl 5 zNd)] (0:Int)))))))) (
 xe β L (yl 5 v36 v38) zM9 (fun zMu zSi =>
 lt (IntKind.wrap .i64 ((zSi:Int) - zMu)) fun zM4 =>
 ifb (decide (zM4 ≥ (8:Int))) (
 chk (0≤zMu∧zMu < ((v36:Nat):Int)) (
 chk (((0+((Int.toNat zMu) * 5))+1)+3≤(List.length v38)) (
 chk ((List.length (List.take 3 (List.drop ((0+((Int.toNat zMu) * 5))+1) v38)))=3∧0+3≤3) (
 lt (xg [(V.sc (.int .u32 (0:Int))),(V.sc (.int .u16 (0:Int))),(V.sc (.int .u32 (0:Int)))] 0 (List.take 3 (List.drop ((0+((Int.toNat zMu) * 5))+1) v38))) fun zMV =>
 zf β L (yl 5 v36 v38) zMu (fun zSj =>
 chk (0+5≤(List.length zMp)) (
 ze β L zSj (List.take 5 zMp) (fun zNe =>
 ifb (decide (zM4 ≥ (8:Int))) (
 chk (0+3≤(List.length zMV)) (
 chk (0+3≤(List.length zMV)) (
 zk β L (List.take 3 zMV) (fun zSk =>
 zB β L [(V.sc (.int .u8 v3)),(V.sc (.int .u8 v4)),(V.sc (.int .u8 v5)),(V.sc (.int .u8 v6)),(V.sc (.int .u8 v7)),(V.sc (.int .u8 v8)),(V.sc (.int .u8 v9)),(V.sc (.int .u8 v10)),(V.sc (.int .u8 v11)),(V.sc (.int .u8 v12)),(V.sc (.int .u8 v13)),(V.sc (.int .u8 v14)),(V.sc (.int .u8 v15)),(V.sc (.int .u8 v16)),(V.sc (.int .u8 v17)),(V.sc (.int .u8 v18)),(V.sc (.int .u8 v19)),(V.sc (.int .u8 v20)),(V.sc (.int .u8 v21)),(V.sc (.int .u8 v22)),(V.sc (.int .u8 v23)),(V.sc (.int .u8 v24)),(V.sc (.int .u8 v25)),(V.sc (.int .u8 v26)),(V.sc (.int .u8 v27)),(V.sc (.int .u8 v28)),(V.sc (.int .u8 v29)),(V.sc (.int .u8 v30)),(V.sc (.int .u8 v31)),(V.sc (.int .u8 v32)),(V.sc (.int .u8 v33)),(V.sc (.int .u8 v34)),(V.sl 5 zMo),(V.sl 5 zNe)] (List.take 3 zMV) zSk (fun zMm zTA =>
 chk (List.length zMm=34) (
 cI .u8 zMm 0 fun zSl =>
 cI .u8 zMm 1 fun zSm =>
 cI .u8 zMm 2 fun zSn =>
 cI .u8 zMm 3 fun zSo =>
 cI .u8 zMm 4 fun zSp =>
 cI .u8 zMm 5 fun zSq =>
 cI .u8 zMm 6 fun zSr =>
 cI .u8 zMm 7 fun zSs =>
 cI .u8 zMm 8 fun zSt =>
 cI .u8 zMm 9 fun zSu =>
 cI .u8 zMm 10 fun zSv =>
 cI .u8 zMm 11 fun zSw =>
 cI .u8 zMm 12 fun zSx =>
 cI .u8 zMm 13 fun zSy =>
 cI .u8 zMm 14 fun zSz =>
 cI .u8 zMm 15 fun zSA =>
 cI .u8 zMm 16 fun zSB =>
 cI .u8 zMm 17 fun zSC =>
 cI .u8 zMm 18 fun zSD =>
 cI .u8 zMm 19 fun zSE =>
 cI .u8 zMm 20 fun zSF =>
 cI .u8 zMm 21 fun zSG =>
 cI .u8 zMm 22 fun zSH =>
 cI .u8 zMm 23 fun zSI =>
 cI .u8 zMm 24 fun zSJ =>
 cI .u8 zMm 25 fun zSK =>
 cI .u8 zMm 26 fun zSL =>
 cI .u8 zMm 27 fun zSM =>
 cI .u8 zMm 28 fun zSN =>
 cI .u8 zMm 29 fun zSO =>
 cI .u8 zMm 30 fun zSP =>
 cI .u8 zMm 31 fun zSQ =>
 cL 5 zMm 32 fun zSR =>
 cL 5 zMm 33 fun zSS =>
 k_fin [(V.sc (.int .u8 zSl)),(V.sc (.int .u8 zSm)),(V.sc (.int .u8 zSn)),(V.sc (.int .u8 zSo)),(V.sc (.int .u8 zSp)),(V.sc (.int .u8 zSq)),(V.sc (.int .u8 zSr)),(V.sc (.int .u8 zSs)),(V.sc (.int .u8 zSt)),(V.sc (.int .u8 zSu)),(V.sc (.int .u8 zSv)),(V.sc (.int .u8 zSw)),(V.sc (.int .u8 zSx)),(V.sc (.int .u8 zSy)),(V.sc (.int .u8 zSz)),(V.sc (.int .u8 zSA)),(V.sc (.int .u8 zSB)),(V.sc (.int .u8 zSC)),(V.sc (.int .u8 zSD)),(V.sc (.int .u8 zSE)),(V.sc (.int .u8 zSF)),(V.sc (.int .u8 zSG)),(V.sc (.int .u8 zSH)),(V.sc (.int .u8 zSI)),(V.sc (.int .u8 zSJ)),(V.sc (.int .u8 zSK)),(V.sc (.int .u8 zSL)),(V.sc (.int .u8 zSM)),(V.sc (.int .u8 zSN)),(V.sc (.int .u8 zSO)),(V.sc (.int .u8 zSP)),(V.sc (.int .u8 zSQ)),(V.sl 5 zSR),(V.sl 5 zSS)] (0:Int))))))) (
 k_fin [(V.sc (.int .u8 v3)),(V.sc (.int .u8 v4)),(V.sc (.int .u8 v5)),(V.sc (.int .u8 v6)),(V.sc (.int .u8 v7)),(V.sc (.int .u8 v8)),(V.sc (.int .u8 v9)),(V.sc (.int .u8 v10)),(V.sc (.int .u8 v11)),(V.sc (.int .u8 v12)),(V.sc (.int .u8 v13)),(V.sc (.int .u8 v14)),(V.sc (.int .u8 v15)),(V.sc (.int .u8 v16)),(V.sc (.int .u8 v17)),(V.sc (.int .u8 v18)),(V.sc (.int .u8 v19)),(V.sc (.int .u8 v20)),(V.sc (.int .u8 v21)),(V.sc (.int .u8 v22)),(V.sc (.int .u8 v23)),(V.sc (.int .u8 v24)),(V.sc (.int .u8 v25)),(V.sc (.int .u8 v26)),(V.sc (.int .u8 v27)),(V.sc (.int .u8 v28)),(V.sc (.int .u8 v29)),(V.sc (.int .u8 v30)),(V.sc (.int .u8 v31)),(V.sc (.int .u8 v32)),(V.sc (.int .u8 v33)),(V.sc (.int .u8 v34)),(V.sl 5 zMo),(V.sl 5 zNe)] (0:Int))))))))) (
 chk (0+5≤(List.length zMp)) (
 ze β L (yl 5 v36 v38) (List.take 5 zMp) (fun zNf =>
 ifb (decide (zM4 ≥ (8:Int))) (
 zk β L [(V.sc (.int .u32 (0:Int))),(V.sc (.int .u16 (0:Int))),(V.sc (.int .u32 (0:Int)))] (fun zST =>
 zB β L [(V.sc (.int .u8 v3)),(V.sc (.int .u8 v4)),(V.sc (.int .u8 v5)),(V.sc (.int .u8 v6)),(V.sc (.int .u8 v7)),(V.sc (.int .u8 v8)),(V.sc (.int .u8 v9)),(V.sc (.int .u8 v10)),(V.sc (.int .u8 v11)),(V.sc (.int .u8 v12)),(V.sc (.int .u8 v13)),(V.sc (.int .u8 v14)),(V.sc (.int .u8 v15)),(V.sc (.int .u8 v16)),(V.sc (.int .u8 v17)),(V.sc (.int .u8 v18)),(V.sc (.int .u8 v19)),(V.sc (.int .u8 v20)),(V.sc (.int .u8 v21)),(V.sc (.int .u8 v22)),(V.sc (.int .u8 v23)),(V.sc (.int .u8 v24)),(V.sc (.int .u8 v25)),(V.sc (.int .u8 v26)),(V.sc (.int .u8 v27)),(V.sc (.int .u8 v28)),(V.sc (.int .u8 v29)),(V.sc (.int .u8 v30)),(V.sc (.int .u8 v31)),(V.sc (.int .u8 v32)),(V.sc (.int .u8 v33)),(V.sc (.int .u8 v34)),(V.sl 5 zMo),(V.sl 5 zNf)] [(V.sc (.int .u32 (0:Int))),(V.sc (.int .u16 (0:Int))),(V.sc (.int .u32 (0:Int)))] zST (fun zMn zTB =>
 chk (List.length zMn=34) (
 cI .u8 zMn 0 fun zSU =>
 cI .u8 zMn 1 fun zSV =>
 cI .u8 zMn 2 fun zSW =>
 cI .u8 zMn 3 fun zSX =>
 cI .u8 zMn 4 fun zSY =>
 cI .u8 zMn 5 fun zSZ =>
 cI .u8 zMn 6 fun zS0 =>
 cI .u8 zMn 7 fun zS1 =>
 cI .u8 zMn 8 fun zS2 =>
 cI .u8 zMn 9 fun zS3 =>
 cI .u8 zMn 10 fun zS4 =>
 cI .u8 zMn 11 fun zS5 =>
 cI .u8 zMn 12 fun zS6 =>
 cI .u8 zMn 13 fun zS7 =>
 cI .u8 zMn 14 fun zS8 =>
 cI .u8 zMn 15 fun zS9 =>
 cI .u8 zMn 16 fun zTa =>
 cI .u8 zMn 17 fun zTb =>
 cI .u8 zMn 18 fun zTc =>
 cI .u8 zMn 19 fun zTd =>
 cI .u8 zMn 20 fun zTe =>
 cI .u8 zMn 21 fun zTf =>
 cI .u8 zMn 22 fun zTg =>
 cI .u8 zMn 23 fun zTh =>
 cI .u8 zMn 24 fun zTi =>
 cI .u8 zMn 25 fun zTj =>
 cI .u8 zMn 26 fun zTk =>
 cI .u8 zMn 27 fun zTl =>
 cI .u8 zMn 28 fun zTm =>
 cI .u8 zMn 29 fun zTn =>
 cI .u8 zMn 30 fun zTo =>
 cI .u8 zMn 31 fun zTp =>
 cL 5 zMn 32 fun zTq =>
 cL 5 zMn 33 fun zTr =>
 k_fin [(V.sc (.int .u8 zSU)),(V.sc (.int .u8 zSV)),(V.sc (.int .u8 zSW)),(V.sc (.int .u8 zSX)),(V.sc (.int .u8 zSY)),(V.sc (.int .u8 zSZ)),(V.sc (.int .u8 zS0)),(V.sc (.int .u8 zS1)),(V.sc (.int .u8 zS2)),(V.sc (.int .u8 zS3)),(V.sc (.int .u8 zS4)),(V.sc (.int .u8 zS5)),(V.sc (.int .u8 zS6)),(V.sc (.int .u8 zS7)),(V.sc (.int .u8 zS8)),(V.sc (.int .u8 zS9)),(V.sc (.int .u8 zTa)),(V.sc (.int .u8 zTb)),(V.sc (.int .u8 zTc)),(V.sc (.int .u8 zTd)),(V.sc (.int .u8 zTe)),(V.sc (.int .u8 zTf)),(V.sc (.int .u8 zTg)),(V.sc (.int .u8 zTh)),(V.sc (.int .u8 zTi)),(V.sc (.int .u8 zTj)),(V.sc (.int .u8 zTk)),(V.sc (.int .u8 zTl)),(V.sc (.int .u8 zTm)),(V.sc (.int .u8 zTn)),(V.sc (.int .u8 zTo)),(V.sc (.int .u8 zTp)),(V.sl 5 zTq),(V.sl 5 zTr)] (0:Int))))) (
 k_fin [(V.sc (.int .u8 v3)),(V.sc (.int .u8 v4)),(V.sc (.int .u8 v5)),(V.sc (.int .u8 v6)),(V.sc (.int .u8 v7)),(V.sc (.int .u8 v8)),(V.sc (.int .u8 v9)),(V.sc (.int .u8 v10)),(V.sc (.int .u8 v11)),(V.sc (.int .u8 v12)),(V.sc (.int .u8 v13)),(V.sc (.int .u8 v14)),(V.sc (.int .u8 v15)),(V.sc (.int .u8 v16)),(V.sc (.int .u8 v17)),(V.sc (.int .u8 v18)),(V.sc (.int .u8 v19)),(V.sc (.int .u8 v20)),(V.sc (.int .u8 v21)),(V.sc (.int .u8 v22)),(V.sc (.int .u8 v23)),(V.sc (.int .u8 v24)),(V.sc (.int .u8 v25)),(V.sc (.int .u8 v26)),(V.sc (.int .u8 v27)),(V.sc (.int .u8 v28)),(V.sc (.int .u8 v29)),(V.sc (.int .u8 v30)),(V.sc (.int .u8 v31)),(V.sc (.int .u8 v32)),(V.sc (.int .u8 v33)),(V.sc (.int .u8 v34)),(V.sl 5 zMo),(V.sl 5 zNf)] (0:Int))))))))))))))))))))))))
theorem zAA {β:Type} (yv:zaT) (yd:yI) (zg:yQ) (zf:xQ) (yf:xK) (xe:yK) (ze:zQ) (zk:zaj) (zB:zfk) (L:Nat) (p0 p1:List V) (k:KK β):zt zp8 (zpS yv yd zg zf yf xe ze zk zB L) L zlN [(V.agg p0),(V.agg p1)] [] k=zrY yv yd zg zf yf xe ze zk zB L p0 p1 (fun zL8 zL9=>k (V.tup [(V.agg zL8),(V.sc (.int .i64 zL9))]) []):=by kernel_rfl
abbrev zbW:=∀ (β:Type),Nat→List V→List V→(List V→Int→Option β)→Option β
def xy (β:Type) (L:Nat) (p0 p1:List V) (k_fin:List V→Int→Option β):Option β:=zrY yv yd zg zf yf xe ze zk zB L p0 p1 k_fin
def znM (xy:zbW) (L:Nat) (β:Type) (args:List V) (bor:Bor) (k:KK β):Option β:=match args,bor with
 | [a0,a1],[]=>aG a0 fun p0=>aG a1 fun p1=>xy β L p0 p1 (fun zL8 zL9=>k (V.tup [(V.agg zL8),(V.sc (.int .i64 zL9))]) [])
 | _,_=>none
theorem zzW (L:Nat) (β:Type) (args:List V) (bor:Bor) (k:KK β) (r:β) (h:znM xy L β args bor k=some r):zt zp8 (zpS yv yd zg zf yf xe ze zk zB L) L zlN args bor k=some r:=by
 unfold znM at h
 split at h
 ·have q:=xY h; clear h; obtain ⟨p0,rfl,h⟩:=q
  have q:=xY h; clear h; obtain ⟨p1,rfl,h⟩:=q
  exact (zAA yv yd zg zf yf xe ze zk zB L p0 p1 k).trans h
 ·cases h
def zm8:CF:=⟨18,[.cell 2 true 3],
 (.seq (.reg [oo 2 (.alloc true [(.sc (.int .u32 0)),(.sc (.int .u16 0)),(.sc (.int .u32 0))])])
 (.seq (.reg [oo 3 (.move (tq 0) false),
   oo 4 (.call 231 [((tq 3),0),((.const (.sc (.int .i64 6))),0)] []),
   oo 5 (.conv .u32 (tq 4)),
   oo 6 (.bin .shl (tq 5) (.const (.sc (.int .u64 16)))),
   oo 7 (.move (tq 0) false),
   oo 8 (.call 231 [((tq 7),0),((.const (.sc (.int .i64 5))),0)] []),
   oo 9 (.conv .u32 (tq 8)),
   oo 10 (.bin .add (tq 6) (tq 9)),
   oo 11 (.move (tq 0) false),
   oo 12 (.call 231 [((tq 11),0),((.const (.sc (.int .i64 2))),0)] []),
   oo 13 (.conv .u16 (tq 12)),
   oo 14 (.move (tq 0) false),
   oo 15 (.call 231 [((tq 14),0),((.const (.sc (.int .i64 50))),0)] []),
   oo 16 (.conv .u32 (tq 15)),
   oo 17 (.build [(.sc (.int .u32 0)),(.sc (.int .u16 0)),(.sc (.int .u32 0))] [(0,1,(tq 10)),(1,1,(tq 13)),(2,1,(tq 16))]),
   oz (.store 3 (tq 2) (tq 17))])
 .ret))⟩
def zur:Hint:=⟨[],[],[none],[],[],false,false⟩
def zrT:Nat→Sh:=zP []
def zr0 (za:xj) (L:Nat):CBC:=(zw 231 (zbl za L) noC)
def ztu {β:Type} (za:xj) (L:Nat) (zKT:List (List V)) (zKU:Int) (k_fin:List V→List (List V)→Int→Option β):Option β :=
 za β L (6:Int) zKT zKU (fun v0 v1 v2 =>
 lt (IntKind.wrap .u32 v0) fun x3 =>
 lt (zre .u32 x3 (16:Int)) fun x4 =>
 za β L (5:Int) v1 v2 (fun v5 v6 v7 =>
 lt (IntKind.wrap .u32 v5) fun x8 =>
 lt (IntKind.wrap .u32 ((x4:Int)+x8)) fun x9 =>
 za β L (2:Int) v6 v7 (fun v10 v11 v12 =>
 lt (IntKind.wrap .u16 v10) fun x13 =>
 za β L (50:Int) v11 v12 (fun v14 v15 v16 =>
 lt (IntKind.wrap .u32 v14) fun x17 =>
 lt [(V.sc (.int .u32 x9)),(V.sc (.int .u16 x13)),(V.sc (.int .u32 x17))] fun r18 =>
 chk (0=0∧(List.length r18)=3∧3≠0) (
 k_fin r18 v15 v16)))))
theorem zBV {β:Type} (za:xj) (L:Nat) (zKT:List (List V)) (zKU:Int) (k:KK β):zt zrT (zr0 za L) L zm8 [(V.ptr 0 0)] [(.live false [(V.sl 1 zKT),(V.sc (.int .i64 zKU))])] k=ztu za L zKT zKU (fun p0 zKT zKU=>k (V.agg p0) [(.live false [(V.sl 1 zKT),(V.sc (.int .i64 zKU))])]):=by kernel_rfl
abbrev yC:=∀ (β:Type),Nat→List (List V)→Int→(List V→List (List V)→Int→Option β)→Option β
def xf (β:Type) (L:Nat) (zKT:List (List V)) (zKU:Int) (k_fin:List V→List (List V)→Int→Option β):Option β:=ztu za L zKT zKU k_fin
def ziz (xf:yC) (L:Nat) (β:Type) (args:List V) (bor:Bor) (k:KK β):Option β:=match args,bor with
 | [a0],[(.live false [w0_0,w0_1])]=>aP 0 0 a0 (aL 1 w0_0 fun zKT=>aI .i64 w0_1 fun zKU=>xf β L zKT zKU (fun p0 zKT zKU=>k (V.agg p0) [(.live false [(V.sl 1 zKT),(V.sc (.int .i64 zKU))])]))
 | _,_=>none
theorem zBN (L:Nat) (β:Type) (args:List V) (bor:Bor) (k:KK β) (r:β) (h:ziz xf L β args bor k=some r):zt zrT (zr0 za L) L zm8 args bor k=some r:=by
 unfold ziz at h
 split at h
 ·have q:=zlF h; clear h; obtain ⟨rfl,h⟩:=q
  have q:=zZ h; clear h; obtain ⟨zKT,rfl,h⟩:=q
  have q:=zaC h; clear h; obtain ⟨zKU,rfl,h⟩:=q
  exact (zBV za L zKT zKU k).trans h
 ·cases h
def zkr:CF:=⟨24,[.cell 6 true 34,.tmp 7,.tmp 8],
 (.seq (.reg [oo 3 (.box true (tq 0)),
   oo 4 (.box true (tq 1)),
   oo 6 (.alloc true (rp 32 (.sc (.int .u8 0)) (rp 2 (.gs 5 []) []))),
   oo 7 (.move (.const (.sc (.bool false))) false),
   oo 8 (.move (.const (.sc (.int .i64 0))) false)])
 (.seq (.seq (.reg [oo 11 (.load true 34 (tq 3) false),
   oo 12 (.call 281 [((tq 11),1)] []),
   oo 13 (.un .not (tq 12))])
 (.cond (tq 13)
 (.seq (.reg [oo 14 (.build (rp 32 (.sc (.int .u8 0)) (rp 2 (.sl 5 []) [])) []),
   oz (.store 34 (tq 6) (tq 14)),
   oo 7 (.move (.const (.sc (.bool false))) false),
   oo 8 (.move (.const (.sc (.int .i64 6))) false)])
 .ret)
 .skip))
 (.seq (.reg [oo 16 (.load true 34 (tq 3) false),
   oo 17 (.load true 3 (tq 4) false),
   oo 18 (.move (tq 2) false),
   oo 19 (.call 293 [((tq 16),1),((tq 17),0),((tq 18),0)] []),
   oo 15 (.move (tq 19) true),
   oo 20 (.pull (tq 15) 0),
   oo 21 (.pull (tq 15) 1),
   oo 9 (.alloc true (rp 32 (.sc (.int .u8 0)) (rp 2 (.gs 5 []) []))),
   oz (.store 34 (tq 9) (tq 20)),
   oo 10 (.move (tq 21) false)])
 (.seq (.reg [oo 22 (.load true 34 (tq 9) false),
   oo 23 (.move (tq 10) false),
   oz (.store 34 (tq 6) (tq 22)),
   oo 7 (.move (tq 23) false),
   oo 8 (.move (.const (.sc (.int .i64 0))) false)])
 .ret))))⟩
def zrQ:Hint:=⟨[(0,0),(0,2),(3,4),(3,7)],[],[none,none,none],[],[],false,false⟩
def zow:Nat→Sh:=zP []
def zoH (yv:zaT) (zB:zfk) (L:Nat):CBC:=(zw 293 (zjQ zB L) (zw 281 (zf2 yv L) noC))
def zp3 {β:Type} (yv:zaT) (zB:zfk) (L:Nat) (p0 p1:List V) (p2:Int) (k_fin:List V→Bool→Int→Option β):Option β :=
 chk (0+34≤(List.length p0)) (
 yv β L (List.map V.dem (List.take 34 p0)) (fun v0 =>
 ifb (!v0) (
 lt (List.replicate 32 (V.sc (.int .u8 (0:Int)))++[(V.sl 5 ([]:List (List V))),(V.sl 5 ([]:List (List V)))]) fun r1 =>
 chk (0=0∧(List.length r1)=34∧34≠0) (
 k_fin r1 false (6:Int))) (
 chk (0+34≤(List.length p0)) (
 chk (0+3≤(List.length p1)) (
 zB β L (List.map V.dem (List.take 34 p0)) (List.take 3 p1) p2 (fun v2 v3 =>
 chk ((List.length v2)=34∧0+34≤34) (
 lt (xg (List.replicate 32 (V.sc (.int .u8 (0:Int)))++[(V.gs 5 ([]:List (List V))),(V.gs 5 ([]:List (List V)))]) 0 v2) fun r4 =>
 chk (0+34≤(List.length r4)) (
 chk ((List.length (List.take 34 r4))=34∧0+34≤34) (
 lt (xg (List.replicate 32 (V.sc (.int .u8 (0:Int)))++[(V.gs 5 ([]:List (List V))),(V.gs 5 ([]:List (List V)))]) 0 (List.take 34 r4)) fun r5 =>
 chk (0=0∧(List.length r5)=34∧34≠0) (
 k_fin r5 v3 (0:Int)))))))))))
theorem zzg {β:Type} (yv:zaT) (zB:zfk) (L:Nat) (p0 p1:List V) (p2:Int) (k:KK β):zt zow (zoH yv zB L) L zkr [(V.agg p0),(V.agg p1),(V.sc (.int .u32 p2))] [] k=zp3 yv zB L p0 p1 p2 (fun zL8 zL9 zMs=>k (V.tup [(V.agg zL8),(V.sc (.bool zL9)),(V.sc (.int .i64 zMs))]) []):=by kernel_rfl
abbrev zbr:=∀ (β:Type),Nat→List V→List V→Int→(List V→Bool→Int→Option β)→Option β
def xv (β:Type) (L:Nat) (p0 p1:List V) (p2:Int) (k_fin:List V→Bool→Int→Option β):Option β:=zp3 yv zB L p0 p1 p2 k_fin
def zlP (xv:zbr) (L:Nat) (β:Type) (args:List V) (bor:Bor) (k:KK β):Option β:=match args,bor with
 | [a0,a1,a2],[]=>aG a0 fun p0=>aG a1 fun p1=>aI .u32 a2 fun p2=>xv β L p0 p1 p2 (fun zL8 zL9 zMs=>k (V.tup [(V.agg zL8),(V.sc (.bool zL9)),(V.sc (.int .i64 zMs))]) [])
 | _,_=>none
theorem zzG (L:Nat) (β:Type) (args:List V) (bor:Bor) (k:KK β) (r:β) (h:zlP xv L β args bor k=some r):zt zow (zoH yv zB L) L zkr args bor k=some r:=by
 unfold zlP at h
 split at h
 ·have q:=xY h; clear h; obtain ⟨p0,rfl,h⟩:=q
  have q:=xY h; clear h; obtain ⟨p1,rfl,h⟩:=q
  have q:=zaC h; clear h; obtain ⟨p2,rfl,h⟩:=q
  exact (zzg yv zB L p0 p1 p2 k).trans h
 ·cases h
def zeW:CC:=(.seq (.seq (.reg [oo 10 (.move (tq 4) false),
   oo 11 (.bin .gtr (tq 10) (.const (.sc (.int .i64 0))))])
 (.cond (tq 11)
 .skip
 (.seq (.mask (bl 12 49) (bl 313358403731439 49))
 (.exit 0))))
 (.seq (.block 1 (.seq (.reg [oo 14 (.move (tq 0) false),
   oo 15 (.call 231 [((tq 14),0),((.const (.sc (.int .i64 4))),0)] [])])
 (.block 2 (.seq (.reg [oo 28 (.bin .eql (tq 15) (.const (.sc (.int .i64 0)))),
   oo 27 (.move (tq 28) false)])
 (.cond (tq 27)
 (.seq (.reg [oo 29 (.fieldAddr 32 (tq 3)),
   oo 30 (.load false 1 (tq 29) false),
   oo 31 (.lenS (tq 30)),
   oo 32 (.bin .gtr (tq 31) (.const (.sc (.int .i64 0))))])
 (.cond (tq 32)
 (.dreg [] [(oo 34 (.load true 34 (tq 3) false),{ q1 with root:=some 3 }),
   (oo 35 (.fieldAddr 32 (tq 3)),q0),
   (oo 36 (.load false 1 (tq 35) false),{ q1 with root:=some 3 }),
   (oo 37 (.move (tq 0) false),q0),
   (oo 38 (.fieldAddr 32 (tq 3)),q0),
   (oo 39 (.load false 1 (tq 38) false),{ q1 with root:=some 3 }),
   (oo 40 (.lenS (tq 39)),q0),
   (oo 41 (.call 231 [((tq 37),0),((tq 40),0)] []),{ q0 with w:=[3] }),
   (oo 42 (.indexAddrS 5 (tq 36) (tq 41)),q0),
   (oo 43 (.fieldAddr 1 (tq 42)),q0),
   (oo 44 (.load true 3 (tq 43) false),q1),
   (oo 45 (.call 272 [((tq 34),1),((tq 44),0)] []),q0),
   (oo 33 (.move (tq 45) true),q0),
   (oo 46 (.pull (tq 33) 0),q0),
   (oo 47 (.pull (tq 33) 1),q0),
   (oz (.store 34 (tq 3) (tq 46)),q0)])
 .skip))
 (.dreg [] [(oo 17 (.load true 34 (tq 3) false),ql 3 [] []),
   (oo 18 (.move (tq 0) false),q0),
   (oo 19 (.call 262 [((tq 18),0)] []),qc [3] []),
   (oo 20 (.move (tq 0) false),q0),
   (oo 21 (.call 231 [((tq 20),0),((.const (.sc (.int .i64 4))),0)] []),qc [3] []),
   (oo 22 (.conv .u32 (tq 21)),q0),
   (oo 23 (.call 273 [((tq 17),1),((tq 19),0),((tq 22),0)] []),q0),
   (oo 16 (.move (tq 23) true),q0),
   (oo 24 (.pull (tq 16) 0),q0),
   (oo 25 (.pull (tq 16) 1),q0),
   (oo 26 (.pull (tq 16) 2),q0),
   (oz (.store 34 (tq 3) (tq 24)),q0)]))))))
 (.reg [oo 12 (.move (tq 4) false),
   oo 13 (.bin .sub (tq 12) (.const (.sc (.int .i64 1)))),
   oo 4 (.move (tq 13) false)])))
def zoL:CC:=(.seq (.reg [oo 48 (.load true 34 (tq 3) false),
   oz (.store 34 (tq 2) (tq 48))])
 .ret)
def zfr:CF:=⟨49,[.cell 2 true 34],
 (.seq (.reg [oo 2 (.alloc true (rp 32 (.sc (.int .u8 0)) (rp 2 (.gs 5 []) [])))])
 (.seq (.reg [oo 5 (.move (tq 0) false),
   oo 6 (.call 236 [((tq 5),0)] []),
   oo 7 (.build (rp 32 (.sc (.int .u8 0)) (rp 2 (.sl 5 []) [])) [(0,32,(tq 6))]),
   oo 3 (.alloc true (rp 32 (.sc (.int .u8 0)) (rp 2 (.gs 5 []) []))),
   oz (.store 34 (tq 3) (tq 7))])
 (.seq (.seq (.reg [oo 8 (.move (tq 0) false),
   oo 9 (.call 231 [((tq 8),0),((.const (.sc (.int .i64 40))),0)] []),
   oo 4 (.move (tq 9) false)])
 (.block 0 (.loop (bl 29 49) (bl 313358403731455 49)
 zeW)))
 zoL)))⟩
def zt0:Hint:=⟨[(0,0),(1,3),(9,12),(6,7)],[],[none,some ((bl 29 49),(bl 313358403731455 49)),none,some ((bl 12 49),(bl 313358403731439 49)),none,none,none,none,none],[],[],false,false⟩
def zcP:Nat→Sh:=zP [(30,(.sl 5)),(36,(.sl 5)),(39,(.sl 5))]
def zcR (yA:zcm) (za:xj) (xy:zbW) (xf:yC) (xv:zbr) (L:Nat):CBC:=(zw 273 (zlP xv L) (zw 262 (ziz xf L) (zw 272 (znM xy L) (zw 231 (zbl za L) (zw 236 (zo8 yA L) noC)))))
def zh3:St→St:=zae 1 (bl 29 49) (bl 313358403731455 49)
def zfQ (p4:Int) (zKT:List (List V)) (zKU:Int) (b3 b4:List V):St:=⟨((V.ptr 0 0)::(jn 1 ((V.ptr 3 0)::((V.ptr 4 0)::((V.sc (.int .i64 p4))::(jn 44 [])))))),((.live false [(V.sl 1 zKT),(V.sc (.int .i64 zKU))])::(gn 2 ((.live true b3)::((.live true b4)::(gn 45 [])))))⟩
def znE (zKT:List (List V)) (zKU:Int) (b3 b4:List V):St:=⟨(jn 2 ((V.ptr 3 0)::((V.ptr 4 0)::(jn 45 [])))),((.live false [(V.sl 1 zKT),(V.sc (.int .i64 zKU))])::(gn 2 ((.live true b3)::((.live true b4)::(gn 45 [])))))⟩
def zto {β:Type} (yA:zcm) (za:xj) (xy:zbW) (xf:yC) (xv:zbr) (L:Nat) (zKT:List (List V)) (zKU:Int) (k_hbbaba:Int→List (List V)→Int→List V→List V→Option β):Option β :=
 yA β L zKT zKU (fun v0 v1 v2 =>
 chk ((List.length v0)=32∧0+32≤34) (
 chk ((List.length (xg (List.replicate 32 (V.sc (.int .u8 (0:Int)))++[(V.sl 5 ([]:List (List V))),(V.sl 5 ([]:List (List V)))]) 0 v0))=34∧0+34≤34) (
 lt (xg (List.replicate 32 (V.sc (.int .u8 (0:Int)))++[(V.gs 5 ([]:List (List V))),(V.gs 5 ([]:List (List V)))]) 0 (xg (List.replicate 32 (V.sc (.int .u8 (0:Int)))++[(V.sl 5 ([]:List (List V))),(V.sl 5 ([]:List (List V)))]) 0 v0)) fun r3 =>
 za β L (40:Int) v1 v2 (fun v4 v5 v6 =>
 k_hbbaba v4 v5 v6 (List.replicate 32 (V.sc (.int .u8 (0:Int)))++[(V.gs 5 ([]:List (List V))),(V.gs 5 ([]:List (List V)))]) r3))))
theorem zBL {β:Type} (yA:zcm) (za:xj) (xy:zbW) (xf:yC) (xv:zbr) (L:Nat) (zKT:List (List V)) (zKU:Int) (k:KK β):zt zcP (zcR yA za xy xf xv L) L zfr [(V.ptr 0 0)] [(.live false [(V.sl 1 zKT),(V.sc (.int .i64 zKU))])] k=zto yA za xy xf xv L zKT zKU (fun p4 zKT zKU b3 b4=>yE (yo zcP (zcR yA za xy xf xv L) 1 L zeW) zh3 L (zfQ p4 zKT zKU b3 b4) (xG 0 (yU (yo zcP (zcR yA za xy xf xv L) 1 L zoL) (xZ 1 (CF.res zfr) k)))):=by kernel_rfl
def zdZ {β:Type} (yA:zcm) (za:xj) (xy:zbW) (xf:yC) (xv:zbr) (L:Nat) (p4:Int) (zKT:List (List V)) (zKU:Int) (b3 b4:List V) (k_hbbaba:Int→List (List V)→Int→List V→List V→Option β) (k_x0:List (List V)→Int→List V→List V→Option β):Option β :=
 ifb (decide (p4 > (0:Int))) (
 za β L (4:Int) zKT zKU (fun v7 v8 v9 =>
 ifb ((v7:Int) == (0:Int)) (
 cLd 5 b4 32 fun v10 =>
 ifb (decide (((List.length v10:Nat):Int) > (0:Int))) (
 chk (0+34≤(List.length b4)) (
 cLd 5 b4 32 fun v11 =>
 cLd 5 b4 32 fun v12 =>
 za β L ((List.length v12:Nat):Int) v8 v9 (fun v13 v14 v15 =>
 idx v11 v13 fun c16 =>
 xy β L (List.map V.dem (List.take 34 b4)) (List.take 3 (List.drop 1 c16)) (fun v17 v18 =>
 chk ((List.length v17)=34∧0+34≤(List.length b4)) (
 lt (xg b4 0 v17) fun r19 =>
 lt (IntKind.wrap .i64 ((p4:Int) - (1:Int))) fun x20 =>
 k_hbbaba x20 v14 v15 b3 r19))))) (
 lt (IntKind.wrap .i64 ((p4:Int) - (1:Int))) fun x21 =>
 k_hbbaba x21 v8 v9 b3 b4)) (
 chk (0+34≤(List.length b4)) (
 xf β L v8 v9 (fun v22 v23 v24 =>
 za β L (4:Int) v23 v24 (fun v25 v26 v27 =>
 lt (IntKind.wrap .u32 v25) fun x28 =>
 xv β L (List.map V.dem (List.take 34 b4)) v22 x28 (fun v29 v30 v31 =>
 chk ((List.length v29)=34∧0+34≤(List.length b4)) (
 lt (xg b4 0 v29) fun r32 =>
 lt (IntKind.wrap .i64 ((p4:Int) - (1:Int))) fun x33 =>
 k_hbbaba x33 v26 v27 b3 r32)))))))) (
 k_x0 zKT zKU b3 b4)
theorem zvT {β:Type} (yA:zcm) (za:xj) (xy:zbW) (xf:yC) (xv:zbr) (L:Nat) (p4:Int) (zKT:List (List V)) (zKU:Int) (b3 b4:List V) (X:St→Option β) (K:KT β):yo zcP (zcR yA za xy xf xv L) 1 L zeW (zfQ p4 zKT zKU b3 b4) (zcr zh3 X K)=zdZ yA za xy xf xv L p4 zKT zKU b3 b4 (fun p4 zKT zKU b3 b4=>X (zfQ p4 zKT zKU b3 b4)) (fun zKT zKU b3 b4=>K (.exit 0) (znE zKT zKU b3 b4)):=by kernel_rfl
def zj8 {β:Type} (yA:zcm) (za:xj) (xy:zbW) (xf:yC) (xv:zbr) (L:Nat) (zKT:List (List V)) (zKU:Int) (b3 b4:List V) (k_fin:List V→List (List V)→Int→Option β):Option β :=
 chk (0+34≤(List.length b4)) (
 chk ((List.length (List.take 34 b4))=34∧0+34≤(List.length b3)) (
 lt (xg b3 0 (List.take 34 b4)) fun r34 =>
 chk (0=0∧(List.length r34)=34∧34≠0) (
 k_fin r34 zKT zKU)))
theorem zut {β:Type} (yA:zcm) (za:xj) (xy:zbW) (xf:yC) (xv:zbr) (L:Nat) (zKT:List (List V)) (zKU:Int) (b3 b4:List V) (k:KK β):(xG 0 (yU (yo zcP (zcR yA za xy xf xv L) 1 L zoL) (xZ 1 (CF.res zfr) k))) (.exit 0) (znE zKT zKU b3 b4)=zj8 yA za xy xf xv L zKT zKU b3 b4 (fun p0 zKT zKU=>k (V.agg p0) [(.live false [(V.sl 1 zKT),(V.sc (.int .i64 zKU))])]):=by kernel_rfl
def zce {β:Type} (yA:zcm) (za:xj) (xy:zbW) (xf:yC) (xv:zbr) (L:Nat) (k_x0:List (List V)→Int→List V→List V→Option β):Nat→Int→List (List V)→Int→List V→List V→Option β
 | 0,_,_,_,_,_=>none
 | n+1,p4,zKT,zKU,b3,b4=>zdZ yA za xy xf xv L p4 zKT zKU b3 b4 (fun p4 zKT zKU b3 b4=>zce yA za xy xf xv L k_x0 n p4 zKT zKU b3 b4) k_x0
theorem zom {β:Type} (yA:zcm) (za:xj) (xy:zbW) (xf:yC) (xv:zbr) (L:Nat) (K:KT β):∀ (n:Nat) (p4:Int) (zKT:List (List V)) (zKU:Int) (b3 b4:List V),yE (yo zcP (zcR yA za xy xf xv L) 1 L zeW) zh3 n (zfQ p4 zKT zKU b3 b4) K=zce yA za xy xf xv L (fun zKT zKU b3 b4=>K (.exit 0) (znE zKT zKU b3 b4)) n p4 zKT zKU b3 b4:=by
 intro n
 induction n with
 | zero=>intros; rfl
 | succ n ih =>
  intro p4 zKT zKU b3 b4
  refine (zvT yA za xy xf xv L p4 zKT zKU b3 b4 (fun σ=>yE (yo zcP (zcR yA za xy xf xv L) 1 L zeW) zh3 n σ K) K).trans ?_
  simp only [ih]
  rfl
def zoW {β:Type} (yA:zcm) (za:xj) (xy:zbW) (xf:yC) (xv:zbr) (L:Nat) (zKT:List (List V)) (zKU:Int) (k_fin:List V→List (List V)→Int→Option β):Option β :=
 zto yA za xy xf xv L zKT zKU (fun p4 zKT zKU b3 b4=>zce yA za xy xf xv L (fun zKT zKU b3 b4=>zj8 yA za xy xf xv L zKT zKU b3 b4 k_fin) L p4 zKT zKU b3 b4)
theorem zBJ {β:Type} (yA:zcm) (za:xj) (xy:zbW) (xf:yC) (xv:zbr) (L:Nat) (zKT:List (List V)) (zKU:Int) (k:KK β):zt zcP (zcR yA za xy xf xv L) L zfr [(V.ptr 0 0)] [(.live false [(V.sl 1 zKT),(V.sc (.int .i64 zKU))])] k=zoW yA za xy xf xv L zKT zKU (fun p0 zKT zKU=>k (V.agg p0) [(.live false [(V.sl 1 zKT),(V.sc (.int .i64 zKU))])]):=by
 refine (zBL yA za xy xf xv L zKT zKU k).trans ?_
 unfold zoW
 first
  | (simp only [zom,zut]; done)
  | (simp only [zom]; rfl)
abbrev yz:=∀ (β:Type),Nat→List (List V)→Int→(List V→List (List V)→Int→Option β)→Option β
def xd (β:Type) (L:Nat) (zKT:List (List V)) (zKU:Int) (k_fin:List V→List (List V)→Int→Option β):Option β:=zoW yA za xy xf xv L zKT zKU k_fin
def zgN (xd:yz) (L:Nat) (β:Type) (args:List V) (bor:Bor) (k:KK β):Option β:=match args,bor with
 | [a0],[(.live false [w0_0,w0_1])]=>aP 0 0 a0 (aL 1 w0_0 fun zKT=>aI .i64 w0_1 fun zKU=>xd β L zKT zKU (fun p0 zKT zKU=>k (V.agg p0) [(.live false [(V.sl 1 zKT),(V.sc (.int .i64 zKU))])]))
 | _,_=>none
theorem zBD (L:Nat) (β:Type) (args:List V) (bor:Bor) (k:KK β) (r:β) (h:zgN xd L β args bor k=some r):zt zcP (zcR yA za xy xf xv L) L zfr args bor k=some r:=by
 unfold zgN at h
 split at h
 ·have q:=zlF h; clear h; obtain ⟨rfl,h⟩:=q
  have q:=zZ h; clear h; obtain ⟨zKT,rfl,h⟩:=q
  have q:=zaC h; clear h; obtain ⟨zKU,rfl,h⟩:=q
  exact (zBJ yA za xy xf xv L zKT zKU k).trans h
 ·cases h
def zpB:CF:=⟨15,[.tmp 6],
 (.seq (.reg [oo 6 (.move (.const (.sc (.int .i64 0))) false)])
 (.seq (.reg [oo 7 (.move (tq 1) false),
   oo 8 (.move (tq 0) false),
   oo 9 (.move (tq 2) false),
   oo 10 (.move (tq 1) false),
   oo 11 (.bin .sub (tq 9) (tq 10)),
   oo 12 (.bin .add (tq 11) (.const (.sc (.int .i64 1)))),
   oo 13 (.call 231 [((tq 8),0),((tq 12),0)] []),
   oo 14 (.bin .add (tq 7) (tq 13)),
   oo 6 (.move (tq 14) false)])
 .ret))⟩
def zm9:Hint:=⟨[],[],[none],[],[],false,false⟩
def zHo:Nat→Sh:=zP []
def zGG (za:xj) (L:Nat):CBC:=(zw 231 (zbl za L) noC)
def zyd {β:Type} (za:xj) (L:Nat) (p1 p2:Int) (zKT:List (List V)) (zKU:Int) (k_fin:Int→List (List V)→Int→Option β):Option β :=
 lt (IntKind.wrap .i64 ((p2:Int) - p1)) fun x0 =>
 lt (IntKind.wrap .i64 ((x0:Int)+(1:Int))) fun x1 =>
 za β L x1 zKT zKU (fun v2 v3 v4 =>
 lt (IntKind.wrap .i64 ((p1:Int)+v2)) fun x5 =>
 k_fin x5 v3 v4)
abbrev zcC:=∀ (β:Type),Nat→Int→Int→List (List V)→Int→(Int→List (List V)→Int→Option β)→Option β
def zT (β:Type) (L:Nat) (p1 p2:Int) (zKT:List (List V)) (zKU:Int) (k_fin:Int→List (List V)→Int→Option β):Option β:=zyd za L p1 p2 zKT zKU k_fin
def zx3 (zT:zcC) (L:Nat) (β:Type) (args:List V) (bor:Bor) (k:KK β):Option β:=match args,bor with
 | [a0,a1,a2],[(.live false [w0_0,w0_1])]=>aP 0 0 a0 (aI .i64 a1 fun p1=>aI .i64 a2 fun p2=>aL 1 w0_0 fun zKT=>aI .i64 w0_1 fun zKU=>zT β L p1 p2 zKT zKU (fun p0 zKT zKU=>k (V.sc (.int .i64 p0)) [(.live false [(V.sl 1 zKT),(V.sc (.int .i64 zKU))])]))
 | _,_=>none
def zw1:CC:=(.seq (.seq (.reg [oo 5 (.move (tq 4) false),
   oo 6 (.bin .lss (tq 5) (.const (.sc (.int .i64 8))))])
 (.cond (tq 6)
 .skip
 (.seq (.mask (bl 8 30) (bl 662158319 30))
 (.exit 0))))
 (.seq (.block 1 (.seq (.reg [oo 9 (.move (tq 0) false),
   oo 10 (.call 231 [((tq 9),0),((.const (.sc (.int .i64 2))),0)] []),
   oo 11 (.bin .eql (tq 10) (.const (.sc (.int .i64 0))))])
 (.cond (tq 11)
 (.reg [oo 12 (.move (tq 3) true),
   oo 13 (.move (tq 0) false),
   oo 14 (.call 274 [((tq 13),0),((.const (.sc (.int .i64 1))),0),((.const (.sc (.int .i64 3))),0)] []),
   oo 15 (.move (tq 4) false),
   oo 16 (.conv .u32 (tq 15)),
   oo 17 (.bin .shl (tq 16) (.const (.sc (.int .u64 16)))),
   oo 18 (.move (tq 0) false),
   oo 19 (.call 231 [((tq 18),0),((.const (.sc (.int .i64 3))),0)] []),
   oo 20 (.conv .u32 (tq 19)),
   oo 21 (.bin .add (tq 17) (tq 20)),
   oo 22 (.move (tq 0) false),
   oo 23 (.call 231 [((tq 22),0),((.const (.sc (.int .i64 2))),0)] []),
   oo 24 (.conv .u16 (tq 23)),
   oo 25 (.build [(.sc (.int .u32 0)),(.sc (.int .u16 0)),(.sc (.int .u32 0))] [(0,1,(tq 21)),(1,1,(tq 24))]),
   oo 26 (.build [(.sc (.int .i64 0)),(.sc (.int .u32 0)),(.sc (.int .u16 0)),(.sc (.int .u32 0))] [(0,1,(tq 14)),(1,3,(tq 25))]),
   oo 27 (.buildSlice 4 1 [(.sc (.int .i64 0)),(.sc (.int .u32 0)),(.sc (.int .u16 0)),(.sc (.int .u32 0))] [(0,4,(tq 26))]),
   oo 28 (.append 4 24 (tq 12) (tq 27)),
   oo 3 (.move (tq 28) true)])
 .skip)))
 (.reg [oo 7 (.move (tq 4) false),
   oo 8 (.bin .add (tq 7) (.const (.sc (.int .i64 1)))),
   oo 4 (.move (tq 8) false)])))
def zAP:CC:=(.seq (.reg [oo 29 (.move (tq 3) true),
   oo 2 (.move (tq 29) true)])
 .ret)
def zvB:CF:=⟨30,[.tmp 2],
 (.seq (.reg [oo 2 (.move (.const (.gs 4 [])) true)])
 (.seq (.reg [oo 3 (.move (.const (.gs 4 [])) true)])
 (.seq (.seq (.reg [oo 4 (.move (.const (.sc (.int .i64 0))) false)])
 (.block 0 (.loop (bl 25 30) (bl 662158335 30)
 zw1)))
 zAP)))⟩
def zsx:Hint:=⟨[(0,0),(1,0),(6,0),(6,17),(7,0),(7,1)],[],[none,some ((bl 25 30),(bl 662158335 30)),none,some ((bl 8 30),(bl 662158319 30)),none,none,none],[],[],false,false⟩
def zJW:Nat→Sh:=zP []
def zJX (za:xj) (zT:zcC) (L:Nat):CBC:=(zw 274 (zx3 zT L) (zw 231 (zbl za L) noC))
def zHP:St→St:=zae 1 (bl 25 30) (bl 662158335 30)
def zFA (p3:List (List V)) (p4:Int) (zKT:List (List V)) (zKU:Int):St:=⟨((V.ptr 0 0)::(jn 2 ((V.gs 4 p3)::((V.sc (.int .i64 p4))::(jn 25 []))))),((.live false [(V.sl 1 zKT),(V.sc (.int .i64 zKU))])::(gn 30 []))⟩
def zIt (p3 zKT:List (List V)) (zKU:Int):St:=⟨(jn 3 ((V.gs 4 p3)::(jn 26 []))),((.live false [(V.sl 1 zKT),(V.sc (.int .i64 zKU))])::(gn 30 []))⟩
def zDF {β:Type} (za:xj) (zT:zcC) (L:Nat) (zKT:List (List V)) (zKU:Int) (k_hbbaba:List (List V)→Int→List (List V)→Int→Option β):Option β :=
 k_hbbaba ([]:List (List V)) (0:Int) zKT zKU
def zyj {β:Type} (za:xj) (zT:zcC) (L:Nat) (p3:List (List V)) (p4:Int) (zKT:List (List V)) (zKU:Int) (k_hbbaba:List (List V)→Int→List (List V)→Int→Option β) (k_x0:List (List V)→List (List V)→Int→Option β):Option β :=
 ifb (decide (p4 < (8:Int))) (
 za β L (2:Int) zKT zKU (fun v0 v1 v2 =>
 ifb ((v0:Int) == (0:Int)) (
 zT β L (1:Int) (3:Int) v1 v2 (fun v3 v4 v5 =>
 lt (IntKind.wrap .u32 p4) fun x6 =>
 lt (zre .u32 x6 (16:Int)) fun x7 =>
 za β L (3:Int) v4 v5 (fun v8 v9 v10 =>
 lt (IntKind.wrap .u32 v8) fun x11 =>
 lt (IntKind.wrap .u32 ((x7:Int)+x11)) fun x12 =>
 za β L (2:Int) v9 v10 (fun v13 v14 v15 =>
 lt (IntKind.wrap .u16 v13) fun x16 =>
 chk ((List.length p3+List.length (yl 4 1 [(V.sc (.int .i64 v3)),(V.sc (.int .u32 x12)),(V.sc (.int .u16 x16)),(V.sc (.int .u32 (0:Int)))])) * 24≤zs∧List.length p3+List.length (yl 4 1 [(V.sc (.int .i64 v3)),(V.sc (.int .u32 x12)),(V.sc (.int .u16 x16)),(V.sc (.int .u32 (0:Int)))])≤zs) (
 lt (p3++(yl 4 1 [(V.sc (.int .i64 v3)),(V.sc (.int .u32 x12)),(V.sc (.int .u16 x16)),(V.sc (.int .u32 (0:Int)))])) fun l17 =>
 lt (IntKind.wrap .i64 ((p4:Int)+(1:Int))) fun x18 =>
 k_hbbaba l17 x18 v14 v15))))) (
 lt (IntKind.wrap .i64 ((p4:Int)+(1:Int))) fun x19 =>
 k_hbbaba p3 x19 v1 v2))) (
 k_x0 p3 zKT zKU)
def zvX {β:Type} (za:xj) (zT:zcC) (L:Nat) (p3 zKT:List (List V)) (zKU:Int) (k_fin:List (List V)→List (List V)→Int→Option β):Option β :=
 k_fin p3 zKT zKU
def zqg {β:Type} (za:xj) (zT:zcC) (L:Nat) (k_x0:List (List V)→List (List V)→Int→Option β):Nat→List (List V)→Int→List (List V)→Int→Option β
 | 0,_,_,_,_=>none
 | n+1,p3,p4,zKT,zKU=>zyj za zT L p3 p4 zKT zKU (fun p3 p4 zKT zKU=>zqg za zT L k_x0 n p3 p4 zKT zKU) k_x0
def zD9 {β:Type} (za:xj) (zT:zcC) (L:Nat) (zKT:List (List V)) (zKU:Int) (k_fin:List (List V)→List (List V)→Int→Option β):Option β :=
 zDF za zT L zKT zKU (fun p3 p4 zKT zKU=>zqg za zT L (fun p3 zKT zKU=>zvX za zT L p3 zKT zKU k_fin) L p3 p4 zKT zKU)
abbrev zau:=∀ (β:Type),Nat→List (List V)→Int→(List (List V)→List (List V)→Int→Option β)→Option β
def yB (β:Type) (L:Nat) (zKT:List (List V)) (zKU:Int) (k_fin:List (List V)→List (List V)→Int→Option β):Option β:=zD9 za zT L zKT zKU k_fin
def zD8 (yB:zau) (L:Nat) (β:Type) (args:List V) (bor:Bor) (k:KK β):Option β:=match args,bor with
 | [a0],[(.live false [w0_0,w0_1])]=>aP 0 0 a0 (aL 1 w0_0 fun zKT=>aI .i64 w0_1 fun zKU=>yB β L zKT zKU (fun p0 zKT zKU=>k (V.gs 4 p0) [(.live false [(V.sl 1 zKT),(V.sc (.int .i64 zKU))])]))
 | _,_=>none
def zxu:CC:=(.seq (.seq (.reg [oo 6 (.move (tq 5) false),
   oo 7 (.move (tq 0) false),
   oo 8 (.lenS (tq 7)),
   oo 9 (.bin .lss (tq 6) (tq 8))])
 (.cond (tq 9)
 .skip
 (.seq (.mask (bl 0 21) (bl 1441479 21))
 (.exit 0))))
 (.seq (.block 1 (.seq (.dreg [] [(oo 12 (.move (tq 0) false),q0),
   (oo 13 (.move (tq 5) false),q0),
   (oo 14 (.indexAddrS 4 (tq 12) (tq 13)),q0),
   (oo 15 (.fieldAddr 1 (tq 14)),q0),
   (oo 16 (.load true 3 (tq 15) false),q1),
   (oo 17 (.call 294 [((tq 16),0)] []),{ q0 with w:=[3] }),
   (oo 18 (.load true 3 (tq 3) false),{ q1 with root:=some 3 }),
   (oo 19 (.call 294 [((tq 18),0)] []),q0),
   (oo 20 (.bin .eql (tq 17) (tq 19)),q0)])
 (.cond (tq 20)
 (.seq (.reg [oo 4 (.move (.const (.sc (.bool true))) false)])
 (.seq (.mask (bl 16 21) (bl 1441495 21))
 .ret))
 .skip)))
 (.reg [oo 10 (.move (tq 5) false),
   oo 11 (.bin .add (tq 10) (.const (.sc (.int .i64 1)))),
   oo 5 (.move (tq 11) false)])))
def zz7:CC:=(.seq (.reg [oo 4 (.move (.const (.sc (.bool false))) false)])
 .ret)
def zt4:CF:=⟨21,[.tmp 4],
 (.seq (.reg [oo 3 (.box true (tq 1)),
   oo 4 (.move (.const (.sc (.bool false))) false)])
 (.seq (.seq (.reg [oo 5 (.move (.const (.sc (.int .i64 0))) false)])
 (.block 0 (.loop (bl 41 21) (bl 1441519 21)
 zxu)))
 zz7))⟩
def zrC:Hint:=⟨[],[],[none,some ((bl 41 21),(bl 1441519 21)),none,some ((bl 0 21),(bl 1441479 21)),none,none,some ((bl 16 21),(bl 1441495 21)),none],[],[],false,false⟩
def zJC:Nat→Sh:=zP []
def zJF (zk:zaj) (L:Nat):CBC:=(zw 294 (zeI zk L) noC)
def zHQ:St→St:=zae 0 (bl 41 21) (bl 1441519 21)
def zFx (p0:List (List V)) (p5:Int) (b3:List V):St:=⟨((V.sl 4 p0)::(jn 2 ((V.ptr 3 0)::(jn 1 ((V.sc (.int .i64 p5))::(jn 15 [])))))),(gn 3 ((.live true b3)::(gn 17 [])))⟩
def zGN (p4:Bool):St:=⟨(jn 4 ((V.sc (.bool p4))::(jn 16 []))),(gn 21 [])⟩
def zHT:St:=⟨(jn 21 []),(gn 21 [])⟩
def zDq {β:Type} (zk:zaj) (L:Nat) (p0:List (List V)) (p1:List V) (k_hbaba:List (List V)→Int→List V→Option β):Option β :=
 k_hbaba p0 (0:Int) p1
def zya {β:Type} (zk:zaj) (L:Nat) (p0:List (List V)) (p5:Int) (b3:List V) (k_ret:Bool→Option β) (k_hbaba:List (List V)→Int→List V→Option β) (k_x0:Option β):Option β :=
 ifb (decide (p5 < ((List.length p0:Nat):Int))) (
 idx p0 p5 fun c0 =>
 zk β L (List.take 3 (List.drop 1 c0)) (fun v1 =>
 chk (0+3≤(List.length b3)) (
 zk β L (List.take 3 b3) (fun v2 =>
 ifb ((v1:Int) == v2) (
 k_ret true) (
 lt (IntKind.wrap .i64 ((p5:Int)+(1:Int))) fun x3 =>
 k_hbaba p0 x3 b3))))) (
 k_x0)
def zuL {β:Type} (zk:zaj) (L:Nat) (p4:Bool) (k_fin:Bool→Option β):Option β :=
 k_fin p4
def zwc {β:Type} (zk:zaj) (L:Nat) (k_fin:Bool→Option β):Option β :=
 k_fin false
def zqf {β:Type} (zk:zaj) (L:Nat) (k_ret:Bool→Option β) (k_x0:Option β):Nat→List (List V)→Int→List V→Option β
 | 0,_,_,_=>none
 | n+1,p0,p5,b3=>zya zk L p0 p5 b3 k_ret (fun p0 p5 b3=>zqf zk L k_ret k_x0 n p0 p5 b3) k_x0
def zC3 {β:Type} (zk:zaj) (L:Nat) (p0:List (List V)) (p1:List V) (k_fin:Bool→Option β):Option β :=
 zDq zk L p0 p1 (fun p0 p5 b3=>zqf zk L (fun p4=>zuL zk L p4 k_fin) (zwc zk L k_fin) L p0 p5 b3)
abbrev xN:=∀ (β:Type),Nat→List (List V)→List V→(Bool→Option β)→Option β
def zo (β:Type) (L:Nat) (p0:List (List V)) (p1:List V) (k_fin:Bool→Option β):Option β:=zC3 zk L p0 p1 k_fin
def zp9 (zo:xN) (L:Nat) (β:Type) (args:List V) (bor:Bor) (k:KK β):Option β:=match args,bor with
 | [a0,a1],[]=>aL 4 a0 fun p0=>aG a1 fun p1=>zo β L p0 p1 (fun p0=>k (V.sc (.bool p0)) [])
 | _,_=>none
def zw5:CC:=(.seq (.seq (.reg [oo 4 (.move (tq 3) false),
   oo 5 (.move (tq 0) false),
   oo 6 (.lenS (tq 5)),
   oo 7 (.bin .lss (tq 4) (tq 6))])
 (.cond (tq 7)
 .skip
 (.seq (.mask (bl 1 38) (bl 266287972275 38))
 (.exit 0))))
 (.seq (.block 1 (.seq (.dreg [] [(oo 10 (.move (tq 0) false),q0),
   (oo 11 (.move (tq 3) false),q0),
   (oo 12 (.indexAddrS 4 (tq 10) (tq 11)),q0),
   (oo 13 (.fieldAddr 0 (tq 12)),q0),
   (oo 14 (.load false 1 (tq 13) false),q0),
   (oo 15 (.bin .lss (tq 14) (.const (.sc (.int .i64 1)))),q0),
   (oo 16 (.move (tq 15) false),q0),
   (⟨(some 17),false,(some (16,false)),.move (tq 0) false⟩,q0),
   (⟨(some 18),false,(some (16,false)),.move (tq 3) false⟩,q0),
   (⟨(some 19),false,(some (16,false)),.indexAddrS 4 (tq 17) (tq 18)⟩,q0),
   (⟨(some 20),false,(some (16,false)),.fieldAddr 0 (tq 19)⟩,q0),
   (⟨(some 21),false,(some (16,false)),.load false 1 (tq 20) false⟩,q0),
   (⟨(some 22),false,(some (16,false)),.bin .gtr (tq 21) (.const (.sc (.int .i64 3)))⟩,q0),
   (oo 23 (.pick (tq 16) (.const (.sc (.bool true))) (tq 22)),q0),
   (oo 24 (.move (tq 23) false),q0),
   (⟨(some 25),false,(some (24,false)),.move (tq 0) false⟩,q0),
   (⟨(some 26),false,(some (24,false)),.move (tq 3) false⟩,q0),
   (⟨(some 27),false,(some (24,false)),.sliceS 4 (tq 25) none (some (tq 26)) none⟩,q0),
   (⟨(some 28),false,(some (24,false)),.move (tq 0) false⟩,q0),
   (⟨(some 29),false,(some (24,false)),.move (tq 3) false⟩,q0),
   (⟨(some 30),false,(some (24,false)),.indexAddrS 4 (tq 28) (tq 29)⟩,q0),
   (⟨(some 31),false,(some (24,false)),.fieldAddr 1 (tq 30)⟩,q0),
   (⟨(some 32),false,(some (24,false)),.load true 3 (tq 31) false⟩,q0),
   (⟨(some 33),false,(some (24,false)),.call 283 [((tq 27),0),((tq 32),0)] []⟩,q0),
   (oo 34 (.pick (tq 24) (.const (.sc (.bool true))) (tq 33)),q0)])
 (.cond (tq 34)
 (.seq (.reg [oo 2 (.move (.const (.sc (.bool false))) false)])
 (.seq (.mask (bl 4 38) (bl 266287972279 38))
 .ret))
 .skip)))
 (.reg [oo 8 (.move (tq 3) false),
   oo 9 (.bin .add (tq 8) (.const (.sc (.int .i64 1)))),
   oo 3 (.move (tq 9) false)])))
def zAz:CC:=(.seq (.reg [oo 35 (.move (tq 0) false),
   oo 36 (.lenS (tq 35)),
   oo 37 (.bin .leq (tq 36) (.const (.sc (.int .i64 8)))),
   oo 2 (.move (tq 37) false)])
 .ret)
def zum:CF:=⟨38,[.tmp 2],
 (.seq (.reg [oo 2 (.move (.const (.sc (.bool false))) false)])
 (.seq (.seq (.reg [oo 3 (.move (.const (.sc (.int .i64 0))) false)])
 (.block 0 (.loop (bl 9 38) (bl 266287972283 38)
 zw5)))
 zAz))⟩
def zrD:Hint:=⟨[],[],[none,some ((bl 9 38),(bl 266287972283 38)),none,some ((bl 1 38),(bl 266287972275 38)),none,none,some ((bl 4 38),(bl 266287972279 38)),none],[],[],false,false⟩
def zI1:Nat→Sh:=zP [(14,(.int .i64)),(21,(.int .i64))]
def zJn (zo:xN) (L:Nat):CBC:=(zw 283 (zp9 zo L) noC)
def zHS:St→St:=zae 0 (bl 9 38) (bl 266287972283 38)
def zFV (p0:List (List V)) (p3:Int):St:=⟨((V.sl 4 p0)::(jn 2 ((V.sc (.int .i64 p3))::(jn 34 [])))),(gn 38 [])⟩
def zG0 (p2:Bool):St:=⟨(jn 2 ((V.sc (.bool p2))::(jn 35 []))),(gn 38 [])⟩
def zHR (p0:List (List V)):St:=⟨((V.sl 4 p0)::(jn 37 [])),(gn 38 [])⟩
def zCQ {β:Type} (zo:xN) (L:Nat) (p0:List (List V)) (k_hbaba:List (List V)→Int→Option β):Option β :=
 k_hbaba p0 (0:Int)
def zyk {β:Type} (zo:xN) (L:Nat) (p0:List (List V)) (p3:Int) (k_ret:Bool→Option β) (k_hbaba:List (List V)→Int→Option β) (k_x0:List (List V)→Option β):Option β :=
 ifb (decide (p3 < ((List.length p0:Nat):Int))) (
 idx p0 p3 fun c0 =>
 cI .i64 c0 0 fun v1 =>
 ifb (decide (v1 < (1:Int))) (
 k_ret false) (
 idx p0 p3 fun c2 =>
 cI .i64 c2 0 fun v3 =>
 ifb (decide (v3 > (3:Int))) (
 k_ret false) (
 chk (0≤p3∧p3≤(((List.length p0):Nat):Int)) (
 idx p0 p3 fun c4 =>
 zo β L (List.take ((Int.toNat p3) - 0) (List.drop 0 p0)) (List.take 3 (List.drop 1 c4)) (fun v5 =>
 ifb v5 (
 k_ret false) (
 lt (IntKind.wrap .i64 ((p3:Int)+(1:Int))) fun x6 =>
 k_hbaba p0 x6)))))) (
 k_x0 p0)
def zvb {β:Type} (zo:xN) (L:Nat) (p2:Bool) (k_fin:Bool→Option β):Option β :=
 k_fin p2
def zwd {β:Type} (zo:xN) (L:Nat) (p0:List (List V)) (k_fin:Bool→Option β):Option β :=
 k_fin (decide (((List.length p0:Nat):Int)≤(8:Int)))
def zqk {β:Type} (zo:xN) (L:Nat) (k_ret:Bool→Option β) (k_x0:List (List V)→Option β):Nat→List (List V)→Int→Option β
 | 0,_,_=>none
 | n+1,p0,p3=>zyk zo L p0 p3 k_ret (fun p0 p3=>zqk zo L k_ret k_x0 n p0 p3) k_x0
def zCZ {β:Type} (zo:xN) (L:Nat) (p0:List (List V)) (k_fin:Bool→Option β):Option β :=
 zCQ zo L p0 (fun p0 p3=>zqk zo L (fun p2=>zvb zo L p2 k_fin) (fun p0=>zwd zo L p0 k_fin) L p0 p3)
abbrev zdD:=∀ (β:Type),Nat→List (List V)→(Bool→Option β)→Option β
def y9 (β:Type) (L:Nat) (p0:List (List V)) (k_fin:Bool→Option β):Option β:=zCZ zo L p0 k_fin
def zDk (y9:zdD) (L:Nat) (β:Type) (args:List V) (bor:Bor) (k:KK β):Option β:=match args,bor with
 | [a0],[]=>aL 4 a0 fun p0=>y9 β L p0 (fun p0=>k (V.sc (.bool p0)) [])
 | _,_=>none
def zvU:CC:=(.seq (.seq (.reg [oo 7 (.move (tq 6) false),
   oo 8 (.move (tq 0) false),
   oo 9 (.lenS (tq 8)),
   oo 10 (.bin .lss (tq 7) (tq 9))])
 (.cond (tq 10)
 .skip
 (.seq (.mask (bl 32 23) (bl 8388031 23))
 (.exit 0))))
 (.seq (.block 1 (.seq (.reg [oo 13 (.move (tq 0) false),
   oo 14 (.move (tq 6) false),
   oo 15 (.indexAddrS 4 (tq 13) (tq 14)),
   oo 16 (.fieldAddr 0 (tq 15)),
   oo 17 (.load false 1 (tq 16) false),
   oo 18 (.move (tq 1) false),
   oo 19 (.bin .eql (tq 17) (tq 18))])
 (.cond (tq 19)
 (.reg [oo 20 (.move (tq 5) false),
   oo 21 (.bin .add (tq 20) (.const (.sc (.int .i64 1)))),
   oo 5 (.move (tq 21) false)])
 .skip)))
 (.reg [oo 11 (.move (tq 6) false),
   oo 12 (.bin .add (tq 11) (.const (.sc (.int .i64 1)))),
   oo 6 (.move (tq 12) false)])))
def zzi:CC:=(.seq (.reg [oo 22 (.move (tq 5) false),
   oo 4 (.move (tq 22) false)])
 .ret)
def zue:CF:=⟨23,[.tmp 4],
 (.seq (.reg [oo 4 (.move (.const (.sc (.int .i64 0))) false)])
 (.seq (.reg [oo 5 (.move (.const (.sc (.int .i64 0))) false)])
 (.seq (.seq (.reg [oo 6 (.move (.const (.sc (.int .i64 0))) false)])
 (.block 0 (.loop (bl 99 23) (bl 8388095 23)
 zvU)))
 zzi)))⟩
def zrw:Hint:=⟨[],[],[none,some ((bl 99 23),(bl 8388095 23)),none,some ((bl 32 23),(bl 8388031 23)),none,none,none],[],[],false,false⟩
def zJt:Nat→Sh:=zP [(17,(.int .i64))]
def zJU (L:Nat):CBC:=noC
def zHw:St→St:=zae 0 (bl 99 23) (bl 8388095 23)
def zFa (p0:List (List V)) (p1 p5 p6:Int):St:=⟨((V.sl 4 p0)::((V.sc (.int .i64 p1))::(jn 3 ((V.sc (.int .i64 p5))::((V.sc (.int .i64 p6))::(jn 16 [])))))),(gn 23 [])⟩
def zHU (p5:Int):St:=⟨(jn 5 ((V.sc (.int .i64 p5))::(jn 17 []))),(gn 23 [])⟩
def zDn {β:Type} (L:Nat) (p0:List (List V)) (p1:Int) (k_hbbaba:List (List V)→Int→Int→Int→Option β):Option β :=
 k_hbbaba p0 p1 (0:Int) (0:Int)
def zxA {β:Type} (L:Nat) (p0:List (List V)) (p1 p5 p6:Int) (k_hbbaba:List (List V)→Int→Int→Int→Option β) (k_x0:Int→Option β):Option β :=
 ifb (decide (p6 < ((List.length p0:Nat):Int))) (
 idx p0 p6 fun c0 =>
 cI .i64 c0 0 fun v1 =>
 ifb ((v1:Int) == p1) (
 lt (IntKind.wrap .i64 ((p5:Int)+(1:Int))) fun x2 =>
 lt (IntKind.wrap .i64 ((p6:Int)+(1:Int))) fun x3 =>
 k_hbbaba p0 p1 x2 x3) (
 lt (IntKind.wrap .i64 ((p6:Int)+(1:Int))) fun x4 =>
 k_hbbaba p0 p1 p5 x4)) (
 k_x0 p5)
def zuO {β:Type} (L:Nat) (p5:Int) (k_fin:Int→Option β):Option β :=
 k_fin p5
def zpA {β:Type} (L:Nat) (k_x0:Int→Option β):Nat→List (List V)→Int→Int→Int→Option β
 | 0,_,_,_,_=>none
 | n+1,p0,p1,p5,p6=>zxA L p0 p1 p5 p6 (fun p0 p1 p5 p6=>zpA L k_x0 n p0 p1 p5 p6) k_x0
def zDf {β:Type} (L:Nat) (p0:List (List V)) (p1:Int) (k_fin:Int→Option β):Option β :=
 zDn L p0 p1 (fun p0 p1 p5 p6=>zpA L (fun p5=>zuO L p5 k_fin) L p0 p1 p5 p6)
abbrev zdE:=∀ (β:Type),Nat→List (List V)→Int→(Int→Option β)→Option β
def yV (β:Type) (L:Nat) (p0:List (List V)) (p1:Int) (k_fin:Int→Option β):Option β:=zDf L p0 p1 k_fin
def zDg (yV:zdE) (L:Nat) (β:Type) (args:List V) (bor:Bor) (k:KK β):Option β:=match args,bor with
 | [a0,a1],[]=>aL 4 a0 fun p0=>aI .i64 a1 fun p1=>yV β L p0 p1 (fun p0=>k (V.sc (.int .i64 p0)) [])
 | _,_=>none
end
end Go.Proofs.Ytpafdnidhnldhaa
