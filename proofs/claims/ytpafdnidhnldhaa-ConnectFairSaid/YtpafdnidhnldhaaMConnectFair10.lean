/- Part 10 of the proof of ConnectFair: an abstract machine over plain values, its soundness, and the functions of the program on plain values. -/
import Derived.Test.YtpafdnidhnldhaaMConnectFair9
namespace Go.Proofs.Ytpafdnidhnldhaa
section
set_option maxRecDepth 100000
set_option linter.unusedVariables false
set_option linter.unusedSimpArgs false
def zZ:CC:=(.seq (.seq (.reg [oo 86 (.move (tq 15) false),
   oo 87 (.move (tq 13) false),
   oo 88 (.bin .lss (tq 86) (tq 87))])
 (.cond (tq 88)
 .skip
 (.seq (.mask (bl 18768 129) (bl 680564733841876926926749214863536390135 129))
 (.exit 0))))
 (.seq (.block 1 (.seq (.dreg [] [(oo 91 (.fieldAddr 32 (tq 8)),q0),
   (oo 92 (.load false 1 (tq 91) false),{ q1 with root:=some 8 }),
   (oo 93 (.move (tq 15) false),q0),
   (oo 94 (.indexAddrS 5 (tq 92) (tq 93)),q0),
   (oo 95 (.fieldAddr 1 (tq 94)),q0),
   (oo 96 (.fieldAddr 2 (tq 95)),q0),
   (oo 97 (.load false 1 (tq 96) false),q1),
   (oo 98 (.fieldAddr 32 (tq 8)),q0),
   (oo 99 (.load false 1 (tq 98) false),{ q1 with root:=some 8 }),
   (oo 100 (.move (tq 14) false),q0),
   (oo 101 (.indexAddrS 5 (tq 99) (tq 100)),q0),
   (oo 102 (.fieldAddr 1 (tq 101)),q0),
   (oo 103 (.fieldAddr 2 (tq 102)),q0),
   (oo 104 (.load false 1 (tq 103) false),q1),
   (oo 105 (.bin .lss (tq 97) (tq 104)),q0)])
 (.cond (tq 105)
 (.reg [oo 106 (.move (tq 15) false),
   oo 14 (.move (tq 106) false)])
 .skip)))
 (.reg [oo 89 (.move (tq 15) false),
   oo 90 (.bin .add (tq 89) (.const (.sc (.int .i64 1)))),
   oo 15 (.move (tq 90) false)])))
def zcr:CC:=(.seq (.seq (.dreg [] [(oo 107 (.fieldAddr 32 (tq 8)),q0),
   (oo 108 (.load false 1 (tq 107) false),{ q1 with root:=some 8 }),
   (oo 109 (.move (tq 14) false),q0),
   (oo 110 (.indexAddrS 5 (tq 108) (tq 109)),q0),
   (oo 111 (.fieldAddr 1 (tq 110)),q0),
   (oo 112 (.fieldAddr 2 (tq 111)),q0),
   (oo 113 (.load false 1 (tq 112) false),q1),
   (oo 114 (.fieldAddr 2 (tq 4)),q0),
   (oo 115 (.load false 1 (tq 114) false),{ q1 with root:=some 4 }),
   (oo 116 (.bin .geq (tq 113) (tq 115)),q0)])
 (.cond (tq 116)
 (.seq (.reg [oo 117 (.load true 34 (tq 8) true),
   oz (.store 34 (tq 6) (tq 117)),
   oo 7 (.move (.const (.sc (.bool false))) false)])
 .ret)
 .skip))
 (.reg [oo 118 (.fieldAddr 32 (tq 8)),
   oo 119 (.load false 1 (tq 118) false),
   oo 120 (.move (tq 14) false),
   oo 121 (.call 289 [((tq 119),0),((tq 120),0)] []),
   oo 122 (.fieldAddr 32 (tq 8)),
   oz (.store 1 (tq 122) (tq 121))]))
def zdH:CC:=(.seq (.reg [oo 123 (.fieldAddr 32 (tq 8)),
   oo 124 (.load false 1 (tq 123) false),
   oo 125 (.load true 5 (tq 11) false),
   oo 126 (.call 292 [((tq 124),0),((tq 125),0)] []),
   oo 127 (.fieldAddr 32 (tq 8)),
   oz (.store 1 (tq 127) (tq 126))])
 (.seq (.reg [oo 128 (.load true 34 (tq 8) true),
   oz (.store 34 (tq 6) (tq 128)),
   oo 7 (.move (.const (.sc (.bool true))) false)])
 .ret))
def zcV:CF:=⟨129,[.cellS 6 34 true,.tmpP 7],
 (.seq (.reg [oo 3 (.box true (tq 0)),
   oo 4 (.box true (tq 1)),
   oo 6 (.alloc false (rp 32 (.sc (.int .u8 0)) (rp 2 (.gs 5 []) []))),
   oo 7 (.move (.const (.sc (.bool false))) false)])
 (.seq (.reg [oo 16 (.load true 34 (tq 3) false),
   oo 17 (.call 288 [((tq 16),1)] [18,23]),
   oo 8 (.alloc false (rp 32 (.sc (.int .u8 0)) (rp 2 (.gs 5 []) []))),
   oz (.store 34 (tq 8) (tq 17))])
 (.seq (.seq (.reg [oo 18 (.fieldAddr 33 (tq 8)),
   oo 19 (.load false 1 (tq 18) false),
   oo 20 (.load true 3 (tq 4) false),
   oo 21 (.call 287 [((tq 19),2),((tq 20),2)] []),
   oo 9 (.move (tq 21) false)])
 (.seq (.reg [oo 22 (.move (tq 9) false),
   oo 23 (.bin .geq (tq 22) (.const (.sc (.int .i64 0))))])
 (.cond (tq 23)
 (.seq (.dreg [] [(oo 24 (.fieldAddr 33 (tq 8)),q0),
   (oo 25 (.load false 1 (tq 24) false),{ q1 with root:=some 8 }),
   (oo 26 (.move (tq 9) false),q0),
   (oo 27 (.fieldAddr 33 (tq 8)),q0),
   (oo 28 (.load false 1 (tq 27) false),{ q1 with root:=some 8 }),
   (oo 29 (.move (tq 9) false),q0),
   (oo 30 (.indexAddrS 5 (tq 28) (tq 29)),q0),
   (oo 31 (.fieldAddr 1 (tq 30)),q0),
   (oo 32 (.fieldAddr 2 (tq 31)),q0),
   (oo 33 (.load false 1 (tq 32) false),q1),
   (oo 34 (.fieldAddr 2 (tq 4)),q0),
   (oo 35 (.load false 1 (tq 34) false),{ q1 with root:=some 4 }),
   (oo 36 (.mm true (tq 33) (tq 35)),q0),
   (oo 37 (.indexAddrS 5 (tq 25) (tq 26)),q0),
   (oo 38 (.fieldAddr 1 (tq 37)),q0),
   (oo 39 (.fieldAddr 2 (tq 38)),q0),
   (oz (.store 1 (tq 39) (tq 36)),q0)])
 (.seq (.reg [oo 40 (.load true 34 (tq 8) true),
   oz (.store 34 (tq 6) (tq 40)),
   oo 7 (.move (.const (.sc (.bool false))) false)])
 .ret))
 .skip)))
 (.seq (.seq (.reg [oo 41 (.fieldAddr 32 (tq 8)),
   oo 42 (.load false 1 (tq 41) false),
   oo 43 (.load true 3 (tq 4) false),
   oo 44 (.call 287 [((tq 42),2),((tq 43),2)] []),
   oo 10 (.move (tq 44) false)])
 (.seq (.reg [oo 45 (.move (tq 10) false),
   oo 46 (.bin .geq (tq 45) (.const (.sc (.int .i64 0))))])
 (.cond (tq 46)
 (.seq (.dreg [] [(oo 47 (.fieldAddr 32 (tq 8)),q0),
   (oo 48 (.load false 1 (tq 47) false),{ q1 with root:=some 8 }),
   (oo 49 (.move (tq 10) false),q0),
   (oo 50 (.fieldAddr 32 (tq 8)),q0),
   (oo 51 (.load false 1 (tq 50) false),{ q1 with root:=some 8 }),
   (oo 52 (.move (tq 10) false),q0),
   (oo 53 (.indexAddrS 5 (tq 51) (tq 52)),q0),
   (oo 54 (.fieldAddr 1 (tq 53)),q0),
   (oo 55 (.fieldAddr 2 (tq 54)),q0),
   (oo 56 (.load false 1 (tq 55) false),q1),
   (oo 57 (.fieldAddr 2 (tq 4)),q0),
   (oo 58 (.load false 1 (tq 57) false),{ q1 with root:=some 4 }),
   (oo 59 (.mm true (tq 56) (tq 58)),q0),
   (oo 60 (.indexAddrS 5 (tq 48) (tq 49)),q0),
   (oo 61 (.fieldAddr 1 (tq 60)),q0),
   (oo 62 (.fieldAddr 2 (tq 61)),q0),
   (oz (.store 1 (tq 62) (tq 59)),q0)])
 (.seq (.reg [oo 63 (.load true 34 (tq 8) true),
   oz (.store 34 (tq 6) (tq 63)),
   oo 7 (.move (.const (.sc (.bool false))) false)])
 .ret))
 .skip)))
 (.seq (.dreg [] [(oo 64 (.fieldAddr 0 (tq 3)),q0),
   (oo 65 (.load true 32 (tq 64) false),ql 3 [4] [11]),
   (oo 66 (.load true 3 (tq 4) false),ql 4 [3] [11]),
   (oo 67 (.move (tq 2) false),q0),
   (oo 68 (.call 305 [((tq 65),0),((tq 66),0),((tq 67),0)] []),qc [4] [11]),
   (oo 69 (.load true 3 (tq 4) false),ql 4 [3] [11]),
   (oo 70 (.move (tq 2) false),q0),
   (oo 71 (.build [(.sc (.int .i64 0)),(.sc (.int .u32 0)),(.sc (.int .u16 0)),(.sc (.int .u32 0)),(.sc (.int .u32 0))] [(0,1,(tq 68)),(1,3,(tq 69)),(4,1,(tq 70))]),q0),
   (oo 11 (.alloc true [(.sc (.int .i64 0)),(.sc (.int .u32 0)),(.sc (.int .u16 0)),(.sc (.int .u32 0)),(.sc (.int .u32 0))]),qn [3,4] []),
   (oz (.store 5 (tq 11) (tq 71)),q0)])
 (.seq (.reg [oo 73 (.fieldAddr 32 (tq 8)),
   oo 74 (.load false 1 (tq 73) false),
   oo 75 (.fieldAddr 0 (tq 11)),
   oo 76 (.load false 1 (tq 75) false),
   oo 77 (.call 291 [((tq 74),0),((tq 76),0)] []),
   oo 72 (.move (tq 77) true),
   oo 78 (.pull (tq 72) 0),
   oo 79 (.pull (tq 72) 1),
   oo 12 (.move (tq 78) false),
   oo 13 (.move (tq 79) false)])
 (.seq (.seq (.reg [oo 80 (.move (tq 13) false),
   oo 81 (.move (tq 12) false),
   oo 82 (.bin .sub (tq 80) (tq 81)),
   oo 83 (.bin .geq (tq 82) (.const (.sc (.int .i64 8))))])
 (.cond (tq 83)
 (.seq (.reg [oo 84 (.move (tq 12) false),
   oo 14 (.move (tq 84) false)])
 (.seq (.seq (.reg [oo 85 (.move (tq 12) false),
   oo 15 (.move (tq 85) false)])
 (.block 0 (.loop (bl 59728 129) (bl 680564733841876926926749214863536422903 129)
 zZ)))
 zcr))
 .skip))
 zdH)))))))⟩
def zsn:Hint:=⟨[(0,0),(2,3),(5,0),(6,3),(9,0),(11,5),(20,0),(23,0)],[],[none,none,none,none,none,none,some ((bl 59728 129),(bl 680564733841876926926749214863536422903 129)),none,some ((bl 18768 129),(bl 680564733841876926926749214863536390135 129)),none,none,none,none,none],[],[(1,1,[18,23])],true,true⟩
def yU:Nat→Sh:=xO [(33,(.int .u32)),(35,(.int .u32)),(56,(.int .u32)),(58,(.int .u32)),(76,(.int .i64)),(97,(.int .u32)),(104,(.int .u32)),(113,(.int .u32)),(115,(.int .u32))]
def zU (zg:xP) (yh:xX) (zb:zt) (xe:yK) (ze:yQ) (zf:zQ) (L:Nat):CBC:=(xu 289 (zhn zf L) (xu 292 (zg8 ze L) (xu 291 (ze5 xe L) (xu 305 (zdM zb L) (xu 287 (zkt yh L) (xu 288 (zhc zg L) noC))))))
def zan:St→St:=zac 0 (bl 59728 129) (bl 680564733841876926926749214863536422903 129)
def zcn (p13 p14 p15:Int) (b4:List V) (zLC zLD zLE zLF zLG zLH zLI zLJ zLK zLL zK6 zK7 zK8 zK9 zLa zLb zLc zLd zLe zLf zLg zLh zLi zLj zLk zLl zLm zLn zLo zLp zLq zLr:Int) (zLs zLt:List (List V)) (zKC zKD zKE zKF zLw zLx zLy zLz zLA zLB zKK zKL zKM zKN zKO zKP zKQ zKR zKS zKT zKU zKV zKW zKX zKY zKZ zK0 zK1 zK2 zK3 zK4 zK5:Int) (zKG zKJ:Nat) (b11 b18 b23:List V):St:=⟨(jn 4 ((V.ptr 4 0)::(jn 1 ((V.ptr 6 0)::(jn 1 ((V.ptr 8 0)::(jn 2 ((V.ptr 11 0)::(jn 1 ((V.sc (.int .i64 p13))::((V.sc (.int .i64 p14))::((V.sc (.int .i64 p15))::(jn 113 []))))))))))))),(gn 4 ((.live true b4)::(gn 1 ((.live false [(V.sc (.int .u8 zLC)),(V.sc (.int .u8 zLD)),(V.sc (.int .u8 zLE)),(V.sc (.int .u8 zLF)),(V.sc (.int .u8 zLG)),(V.sc (.int .u8 zLH)),(V.sc (.int .u8 zLI)),(V.sc (.int .u8 zLJ)),(V.sc (.int .u8 zLK)),(V.sc (.int .u8 zLL)),(V.sc (.int .u8 zK6)),(V.sc (.int .u8 zK7)),(V.sc (.int .u8 zK8)),(V.sc (.int .u8 zK9)),(V.sc (.int .u8 zLa)),(V.sc (.int .u8 zLb)),(V.sc (.int .u8 zLc)),(V.sc (.int .u8 zLd)),(V.sc (.int .u8 zLe)),(V.sc (.int .u8 zLf)),(V.sc (.int .u8 zLg)),(V.sc (.int .u8 zLh)),(V.sc (.int .u8 zLi)),(V.sc (.int .u8 zLj)),(V.sc (.int .u8 zLk)),(V.sc (.int .u8 zLl)),(V.sc (.int .u8 zLm)),(V.sc (.int .u8 zLn)),(V.sc (.int .u8 zLo)),(V.sc (.int .u8 zLp)),(V.sc (.int .u8 zLq)),(V.sc (.int .u8 zLr)),(V.gs 5 zLs),(V.gs 5 zLt)])::(gn 1 ((.live false [(V.sc (.int .u8 zKC)),(V.sc (.int .u8 zKD)),(V.sc (.int .u8 zKE)),(V.sc (.int .u8 zKF)),(V.sc (.int .u8 zLw)),(V.sc (.int .u8 zLx)),(V.sc (.int .u8 zLy)),(V.sc (.int .u8 zLz)),(V.sc (.int .u8 zLA)),(V.sc (.int .u8 zLB)),(V.sc (.int .u8 zKK)),(V.sc (.int .u8 zKL)),(V.sc (.int .u8 zKM)),(V.sc (.int .u8 zKN)),(V.sc (.int .u8 zKO)),(V.sc (.int .u8 zKP)),(V.sc (.int .u8 zKQ)),(V.sc (.int .u8 zKR)),(V.sc (.int .u8 zKS)),(V.sc (.int .u8 zKT)),(V.sc (.int .u8 zKU)),(V.sc (.int .u8 zKV)),(V.sc (.int .u8 zKW)),(V.sc (.int .u8 zKX)),(V.sc (.int .u8 zKY)),(V.sc (.int .u8 zKZ)),(V.sc (.int .u8 zK0)),(V.sc (.int .u8 zK1)),(V.sc (.int .u8 zK2)),(V.sc (.int .u8 zK3)),(V.sc (.int .u8 zK4)),(V.sc (.int .u8 zK5)),(V.own 18 0 zKG 5),(V.own 23 0 zKJ 5)])::(gn 2 ((.live true b11)::(gn 6 ((.live true b18)::(gn 4 ((.live true b23)::(gn 105 [])))))))))))))⟩
def zb6 (p13 p14 p15:Int) (b4:List V) (zLC zLD zLE zLF zLG zLH zLI zLJ zLK zLL zK6 zK7 zK8 zK9 zLa zLb zLc zLd zLe zLf zLg zLh zLi zLj zLk zLl zLm zLn zLo zLp zLq zLr:Int) (zLs zLt:List (List V)) (zKC zKD zKE zKF zLw zLx zLy zLz zLA zLB zKK zKL zKM zKN zKO zKP zKQ zKR zKS zKT zKU zKV zKW zKX zKY zKZ zK0 zK1 zK2 zK3 zK4 zK5:Int) (zKG zKJ:Nat) (b11 b18 b23:List V):St:=⟨(jn 4 ((V.ptr 4 0)::(jn 1 ((V.ptr 6 0)::(jn 1 ((V.ptr 8 0)::(jn 2 ((V.ptr 11 0)::(jn 1 ((V.sc (.int .i64 p13))::((V.sc (.int .i64 p14))::((V.sc (.int .i64 p15))::(jn 113 []))))))))))))),(gn 4 ((.live true b4)::(gn 1 ((.live false [(V.sc (.int .u8 zLC)),(V.sc (.int .u8 zLD)),(V.sc (.int .u8 zLE)),(V.sc (.int .u8 zLF)),(V.sc (.int .u8 zLG)),(V.sc (.int .u8 zLH)),(V.sc (.int .u8 zLI)),(V.sc (.int .u8 zLJ)),(V.sc (.int .u8 zLK)),(V.sc (.int .u8 zLL)),(V.sc (.int .u8 zK6)),(V.sc (.int .u8 zK7)),(V.sc (.int .u8 zK8)),(V.sc (.int .u8 zK9)),(V.sc (.int .u8 zLa)),(V.sc (.int .u8 zLb)),(V.sc (.int .u8 zLc)),(V.sc (.int .u8 zLd)),(V.sc (.int .u8 zLe)),(V.sc (.int .u8 zLf)),(V.sc (.int .u8 zLg)),(V.sc (.int .u8 zLh)),(V.sc (.int .u8 zLi)),(V.sc (.int .u8 zLj)),(V.sc (.int .u8 zLk)),(V.sc (.int .u8 zLl)),(V.sc (.int .u8 zLm)),(V.sc (.int .u8 zLn)),(V.sc (.int .u8 zLo)),(V.sc (.int .u8 zLp)),(V.sc (.int .u8 zLq)),(V.sc (.int .u8 zLr)),(V.gs 5 zLs),(V.gs 5 zLt)])::(gn 1 ((.live false [(V.sc (.int .u8 zKC)),(V.sc (.int .u8 zKD)),(V.sc (.int .u8 zKE)),(V.sc (.int .u8 zKF)),(V.sc (.int .u8 zLw)),(V.sc (.int .u8 zLx)),(V.sc (.int .u8 zLy)),(V.sc (.int .u8 zLz)),(V.sc (.int .u8 zLA)),(V.sc (.int .u8 zLB)),(V.sc (.int .u8 zKK)),(V.sc (.int .u8 zKL)),(V.sc (.int .u8 zKM)),(V.sc (.int .u8 zKN)),(V.sc (.int .u8 zKO)),(V.sc (.int .u8 zKP)),(V.sc (.int .u8 zKQ)),(V.sc (.int .u8 zKR)),(V.sc (.int .u8 zKS)),(V.sc (.int .u8 zKT)),(V.sc (.int .u8 zKU)),(V.sc (.int .u8 zKV)),(V.sc (.int .u8 zKW)),(V.sc (.int .u8 zKX)),(V.sc (.int .u8 zKY)),(V.sc (.int .u8 zKZ)),(V.sc (.int .u8 zK0)),(V.sc (.int .u8 zK1)),(V.sc (.int .u8 zK2)),(V.sc (.int .u8 zK3)),(V.sc (.int .u8 zK4)),(V.sc (.int .u8 zK5)),(V.own 18 0 zKG 5),(V.own 23 0 zKJ 5)])::(gn 2 ((.live true b11)::(gn 6 ((.fz b18)::(gn 4 ((.live true b23)::(gn 105 [])))))))))))))⟩
def zlX (p14:Int) (b4:List V) (zLC zLD zLE zLF zLG zLH zLI zLJ zLK zLL zK6 zK7 zK8 zK9 zLa zLb zLc zLd zLe zLf zLg zLh zLi zLj zLk zLl zLm zLn zLo zLp zLq zLr:Int) (zLs zLt:List (List V)) (zKC zKD zKE zKF zLw zLx zLy zLz zLA zLB zKK zKL zKM zKN zKO zKP zKQ zKR zKS zKT zKU zKV zKW zKX zKY zKZ zK0 zK1 zK2 zK3 zK4 zK5:Int) (zKG zKJ:Nat) (b11 b18 b23:List V):St:=⟨(jn 4 ((V.ptr 4 0)::(jn 1 ((V.ptr 6 0)::(jn 1 ((V.ptr 8 0)::(jn 2 ((V.ptr 11 0)::(jn 2 ((V.sc (.int .i64 p14))::(jn 114 []))))))))))),(gn 4 ((.live true b4)::(gn 1 ((.live false [(V.sc (.int .u8 zLC)),(V.sc (.int .u8 zLD)),(V.sc (.int .u8 zLE)),(V.sc (.int .u8 zLF)),(V.sc (.int .u8 zLG)),(V.sc (.int .u8 zLH)),(V.sc (.int .u8 zLI)),(V.sc (.int .u8 zLJ)),(V.sc (.int .u8 zLK)),(V.sc (.int .u8 zLL)),(V.sc (.int .u8 zK6)),(V.sc (.int .u8 zK7)),(V.sc (.int .u8 zK8)),(V.sc (.int .u8 zK9)),(V.sc (.int .u8 zLa)),(V.sc (.int .u8 zLb)),(V.sc (.int .u8 zLc)),(V.sc (.int .u8 zLd)),(V.sc (.int .u8 zLe)),(V.sc (.int .u8 zLf)),(V.sc (.int .u8 zLg)),(V.sc (.int .u8 zLh)),(V.sc (.int .u8 zLi)),(V.sc (.int .u8 zLj)),(V.sc (.int .u8 zLk)),(V.sc (.int .u8 zLl)),(V.sc (.int .u8 zLm)),(V.sc (.int .u8 zLn)),(V.sc (.int .u8 zLo)),(V.sc (.int .u8 zLp)),(V.sc (.int .u8 zLq)),(V.sc (.int .u8 zLr)),(V.gs 5 zLs),(V.gs 5 zLt)])::(gn 1 ((.live false [(V.sc (.int .u8 zKC)),(V.sc (.int .u8 zKD)),(V.sc (.int .u8 zKE)),(V.sc (.int .u8 zKF)),(V.sc (.int .u8 zLw)),(V.sc (.int .u8 zLx)),(V.sc (.int .u8 zLy)),(V.sc (.int .u8 zLz)),(V.sc (.int .u8 zLA)),(V.sc (.int .u8 zLB)),(V.sc (.int .u8 zKK)),(V.sc (.int .u8 zKL)),(V.sc (.int .u8 zKM)),(V.sc (.int .u8 zKN)),(V.sc (.int .u8 zKO)),(V.sc (.int .u8 zKP)),(V.sc (.int .u8 zKQ)),(V.sc (.int .u8 zKR)),(V.sc (.int .u8 zKS)),(V.sc (.int .u8 zKT)),(V.sc (.int .u8 zKU)),(V.sc (.int .u8 zKV)),(V.sc (.int .u8 zKW)),(V.sc (.int .u8 zKX)),(V.sc (.int .u8 zKY)),(V.sc (.int .u8 zKZ)),(V.sc (.int .u8 zK0)),(V.sc (.int .u8 zK1)),(V.sc (.int .u8 zK2)),(V.sc (.int .u8 zK3)),(V.sc (.int .u8 zK4)),(V.sc (.int .u8 zK5)),(V.own 18 0 zKG 5),(V.own 23 0 zKJ 5)])::(gn 2 ((.live true b11)::(gn 6 ((.live true b18)::(gn 4 ((.live true b23)::(gn 105 [])))))))))))))⟩
def zj7 (p14:Int) (b4:List V) (zLC zLD zLE zLF zLG zLH zLI zLJ zLK zLL zK6 zK7 zK8 zK9 zLa zLb zLc zLd zLe zLf zLg zLh zLi zLj zLk zLl zLm zLn zLo zLp zLq zLr:Int) (zLs zLt:List (List V)) (zKC zKD zKE zKF zLw zLx zLy zLz zLA zLB zKK zKL zKM zKN zKO zKP zKQ zKR zKS zKT zKU zKV zKW zKX zKY zKZ zK0 zK1 zK2 zK3 zK4 zK5:Int) (zKG zKJ:Nat) (b11 b18 b23:List V):St:=⟨(jn 4 ((V.ptr 4 0)::(jn 1 ((V.ptr 6 0)::(jn 1 ((V.ptr 8 0)::(jn 2 ((V.ptr 11 0)::(jn 2 ((V.sc (.int .i64 p14))::(jn 114 []))))))))))),(gn 4 ((.live true b4)::(gn 1 ((.live false [(V.sc (.int .u8 zLC)),(V.sc (.int .u8 zLD)),(V.sc (.int .u8 zLE)),(V.sc (.int .u8 zLF)),(V.sc (.int .u8 zLG)),(V.sc (.int .u8 zLH)),(V.sc (.int .u8 zLI)),(V.sc (.int .u8 zLJ)),(V.sc (.int .u8 zLK)),(V.sc (.int .u8 zLL)),(V.sc (.int .u8 zK6)),(V.sc (.int .u8 zK7)),(V.sc (.int .u8 zK8)),(V.sc (.int .u8 zK9)),(V.sc (.int .u8 zLa)),(V.sc (.int .u8 zLb)),(V.sc (.int .u8 zLc)),(V.sc (.int .u8 zLd)),(V.sc (.int .u8 zLe)),(V.sc (.int .u8 zLf)),(V.sc (.int .u8 zLg)),(V.sc (.int .u8 zLh)),(V.sc (.int .u8 zLi)),(V.sc (.int .u8 zLj)),(V.sc (.int .u8 zLk)),(V.sc (.int .u8 zLl)),(V.sc (.int .u8 zLm)),(V.sc (.int .u8 zLn)),(V.sc (.int .u8 zLo)),(V.sc (.int .u8 zLp)),(V.sc (.int .u8 zLq)),(V.sc (.int .u8 zLr)),(V.gs 5 zLs),(V.gs 5 zLt)])::(gn 1 ((.live false [(V.sc (.int .u8 zKC)),(V.sc (.int .u8 zKD)),(V.sc (.int .u8 zKE)),(V.sc (.int .u8 zKF)),(V.sc (.int .u8 zLw)),(V.sc (.int .u8 zLx)),(V.sc (.int .u8 zLy)),(V.sc (.int .u8 zLz)),(V.sc (.int .u8 zLA)),(V.sc (.int .u8 zLB)),(V.sc (.int .u8 zKK)),(V.sc (.int .u8 zKL)),(V.sc (.int .u8 zKM)),(V.sc (.int .u8 zKN)),(V.sc (.int .u8 zKO)),(V.sc (.int .u8 zKP)),(V.sc (.int .u8 zKQ)),(V.sc (.int .u8 zKR)),(V.sc (.int .u8 zKS)),(V.sc (.int .u8 zKT)),(V.sc (.int .u8 zKU)),(V.sc (.int .u8 zKV)),(V.sc (.int .u8 zKW)),(V.sc (.int .u8 zKX)),(V.sc (.int .u8 zKY)),(V.sc (.int .u8 zKZ)),(V.sc (.int .u8 zK0)),(V.sc (.int .u8 zK1)),(V.sc (.int .u8 zK2)),(V.sc (.int .u8 zK3)),(V.sc (.int .u8 zK4)),(V.sc (.int .u8 zK5)),(V.own 18 0 zKG 5),(V.own 23 0 zKJ 5)])::(gn 2 ((.live true b11)::(gn 6 ((.fz b18)::(gn 4 ((.live true b23)::(gn 105 [])))))))))))))⟩
abbrev zin (β:Type):Type:=Int→Int→Int→List V→Int→Int→Int→Int→Int→Int→Int→Int→Int→Int→Int→Int→Int→Int→Int→Int→Int→Int→Int→Int→Int→Int→Int→Int→Int→Int→Int→Int→Int→Int→Int→Int→List (List V)→List (List V)→Int→Int→Int→Int→Int→Int→Int→Int→Int→Int→Int→Int→Int→Int→Int→Int→Int→Int→Int→Int→Int→Int→Int→Int→Int→Int→Int→Int→Int→Int→Int→Int→Nat→Nat→List V→List V→List V→Option β
abbrev zg9 (β:Type):Type:=Int→Int→Int→List V→Int→Int→Int→Int→Int→Int→Int→Int→Int→Int→Int→Int→Int→Int→Int→Int→Int→Int→Int→Int→Int→Int→Int→Int→Int→Int→Int→Int→Int→Int→Int→Int→List (List V)→List (List V)→Int→Int→Int→Int→Int→Int→Int→Int→Int→Int→Int→Int→Int→Int→Int→Int→Int→Int→Int→Int→Int→Int→Int→Int→Int→Int→Int→Int→Int→Int→Int→Int→Nat→Nat→List V→List V→List V→Option β
abbrev zt2 (β:Type):Type:=Int→List V→Int→Int→Int→Int→Int→Int→Int→Int→Int→Int→Int→Int→Int→Int→Int→Int→Int→Int→Int→Int→Int→Int→Int→Int→Int→Int→Int→Int→Int→Int→Int→Int→List (List V)→List (List V)→Int→Int→Int→Int→Int→Int→Int→Int→Int→Int→Int→Int→Int→Int→Int→Int→Int→Int→Int→Int→Int→Int→Int→Int→Int→Int→Int→Int→Int→Int→Int→Int→Nat→Nat→List V→List V→List V→Option β
abbrev zlU (β:Type):Type:=Int→List V→Int→Int→Int→Int→Int→Int→Int→Int→Int→Int→Int→Int→Int→Int→Int→Int→Int→Int→Int→Int→Int→Int→Int→Int→Int→Int→Int→Int→Int→Int→Int→Int→List (List V)→List (List V)→Int→Int→Int→Int→Int→Int→Int→Int→Int→Int→Int→Int→Int→Int→Int→Int→Int→Int→Int→Int→Int→Int→Int→Int→Int→Int→Int→Int→Int→Int→Int→Int→Nat→Nat→List V→List V→List V→Option β
def zrJ {β:Type} (zg:xP) (yh:xX) (zb:zt) (xe:yK) (ze:yQ) (zf:zQ) (L:Nat) (p0 p1:List V) (p2:Int) (k_fin:List V→Bool→Option β) (k_hbbbbbbabababa:zin β) (k_hbbbbbbabababav1:zg9 β):Option β :=
 chk (0+34≤(List.length p0)) (
 zg β L (List.map V.dem (List.take 34 p0)) (fun v0 v1 v2 v3 v4 v5 v6 v7 v8 v9 v10 v11 v12 v13 v14 v15 v16 v17 v18 v19 v20 v21 v22 v23 v24 v25 v26 v27 v28 v29 v30 v31 v32 v33 v34 v35 =>
 chk (0+3≤(List.length p1)) (
 yh β L v33 (List.take 3 p1) v35 (fun v36 v37 =>
 chk ([(List.length v37)]=[(List.length v35)]) (
 ifb (decide (v36 ≥ (0:Int))) (
 chk (0≤v36∧v36 < ((v33:Nat):Int)) (
 cI .u32 v37 (((0+((Int.toNat v36) * 5))+1)+2) fun v38 =>
 cI .u32 p1 2 fun v39 =>
 lt (zFA v38 v39) fun x40 =>
 chk (0≤v36∧v36 < ((v33:Nat):Int)) (
 chk (1=1∧(((0+((Int.toNat v36) * 5))+1)+2)+1≤(List.length v37)) (
 lt (xg v37 (((0+((Int.toNat v36) * 5))+1)+2) [(V.sc (.int .u32 x40))]) fun r41 =>
 k_fin [(V.sc (.int .u8 v0)),(V.sc (.int .u8 v1)),(V.sc (.int .u8 v2)),(V.sc (.int .u8 v3)),(V.sc (.int .u8 v4)),(V.sc (.int .u8 v5)),(V.sc (.int .u8 v6)),(V.sc (.int .u8 v7)),(V.sc (.int .u8 v8)),(V.sc (.int .u8 v9)),(V.sc (.int .u8 v10)),(V.sc (.int .u8 v11)),(V.sc (.int .u8 v12)),(V.sc (.int .u8 v13)),(V.sc (.int .u8 v14)),(V.sc (.int .u8 v15)),(V.sc (.int .u8 v16)),(V.sc (.int .u8 v17)),(V.sc (.int .u8 v18)),(V.sc (.int .u8 v19)),(V.sc (.int .u8 v20)),(V.sc (.int .u8 v21)),(V.sc (.int .u8 v22)),(V.sc (.int .u8 v23)),(V.sc (.int .u8 v24)),(V.sc (.int .u8 v25)),(V.sc (.int .u8 v26)),(V.sc (.int .u8 v27)),(V.sc (.int .u8 v28)),(V.sc (.int .u8 v29)),(V.sc (.int .u8 v30)),(V.sc (.int .u8 v31)),(V.sl 5 (yk 5 v32 v34)),(V.sl 5 (yk 5 v33 r41))] false)))) (
 chk (0+3≤(List.length p1)) (
 yh β L v32 (List.take 3 p1) v34 (fun v42 v43 =>
 chk ([(List.length v43)]=[(List.length v34)]) (
 ifb (decide (v42 ≥ (0:Int))) (
 chk (0≤v42∧v42 < ((v32:Nat):Int)) (
 cI .u32 v43 (((0+((Int.toNat v42) * 5))+1)+2) fun v44 =>
 cI .u32 p1 2 fun v45 =>
 lt (zFA v44 v45) fun x46 =>
 chk (0≤v42∧v42 < ((v32:Nat):Int)) (
 chk (1=1∧(((0+((Int.toNat v42) * 5))+1)+2)+1≤(List.length v43)) (
 lt (xg v43 (((0+((Int.toNat v42) * 5))+1)+2) [(V.sc (.int .u32 x46))]) fun r47 =>
 k_fin [(V.sc (.int .u8 v0)),(V.sc (.int .u8 v1)),(V.sc (.int .u8 v2)),(V.sc (.int .u8 v3)),(V.sc (.int .u8 v4)),(V.sc (.int .u8 v5)),(V.sc (.int .u8 v6)),(V.sc (.int .u8 v7)),(V.sc (.int .u8 v8)),(V.sc (.int .u8 v9)),(V.sc (.int .u8 v10)),(V.sc (.int .u8 v11)),(V.sc (.int .u8 v12)),(V.sc (.int .u8 v13)),(V.sc (.int .u8 v14)),(V.sc (.int .u8 v15)),(V.sc (.int .u8 v16)),(V.sc (.int .u8 v17)),(V.sc (.int .u8 v18)),(V.sc (.int .u8 v19)),(V.sc (.int .u8 v20)),(V.sc (.int .u8 v21)),(V.sc (.int .u8 v22)),(V.sc (.int .u8 v23)),(V.sc (.int .u8 v24)),(V.sc (.int .u8 v25)),(V.sc (.int .u8 v26)),(V.sc (.int .u8 v27)),(V.sc (.int .u8 v28)),(V.sc (.int .u8 v29)),(V.sc (.int .u8 v30)),(V.sc (.int .u8 v31)),(V.sl 5 (yk 5 v32 r47)),(V.sl 5 (yk 5 v33 v37))] false)))) (
 chk (0+32≤(List.length p0)) (
 chk (0+3≤(List.length p1)) (
 zb β L (List.take 32 p0) (List.take 3 p1) p2 (fun v48 =>
 chk (0+3≤(List.length p1)) (
 chk ((List.length (List.take 3 p1))=3∧1+3≤5) (
 chk (1=1∧4+1≤(List.length (xg [(V.sc (.int .i64 v48)),(V.sc (.int .u32 (0:Int))),(V.sc (.int .u16 (0:Int))),(V.sc (.int .u32 (0:Int))),(V.sc (.int .u32 (0:Int)))] 1 (List.take 3 p1)))) (
 chk ((List.length (xg (xg [(V.sc (.int .i64 v48)),(V.sc (.int .u32 (0:Int))),(V.sc (.int .u16 (0:Int))),(V.sc (.int .u32 (0:Int))),(V.sc (.int .u32 (0:Int)))] 1 (List.take 3 p1)) 4 [(V.sc (.int .u32 p2))]))=5∧0+5≤5) (
 lt (xg [(V.sc (.int .i64 (0:Int))),(V.sc (.int .u32 (0:Int))),(V.sc (.int .u16 (0:Int))),(V.sc (.int .u32 (0:Int))),(V.sc (.int .u32 (0:Int)))] 0 (xg (xg [(V.sc (.int .i64 v48)),(V.sc (.int .u32 (0:Int))),(V.sc (.int .u16 (0:Int))),(V.sc (.int .u32 (0:Int))),(V.sc (.int .u32 (0:Int)))] 1 (List.take 3 p1)) 4 [(V.sc (.int .u32 p2))])) fun r49 =>
 cI .i64 r49 0 fun v50 =>
 ifb (List.isEmpty v43) (
 xe β L (yk 5 v32 v43) v50 (fun v51 v52 =>
 lt (IntKind.wrap .i64 ((v52:Int) - v51)) fun x53 =>
 ifb (decide (x53 ≥ (8:Int))) (
 k_hbbbbbbabababa v52 v51 v51 p1 (0:Int) (0:Int) (0:Int) (0:Int) (0:Int) (0:Int) (0:Int) (0:Int) (0:Int) (0:Int) (0:Int) (0:Int) (0:Int) (0:Int) (0:Int) (0:Int) (0:Int) (0:Int) (0:Int) (0:Int) (0:Int) (0:Int) (0:Int) (0:Int) (0:Int) (0:Int) (0:Int) (0:Int) (0:Int) (0:Int) (0:Int) (0:Int) ([]:List (List V)) ([]:List (List V)) v0 v1 v2 v3 v4 v5 v6 v7 v8 v9 v10 v11 v12 v13 v14 v15 v16 v17 v18 v19 v20 v21 v22 v23 v24 v25 v26 v27 v28 v29 v30 v31 v32 v33 r49 v43 v37) (
 chk (0+5≤(List.length r49)) (
 ifb (List.isEmpty v43) (
 ze β L (yk 5 v32 v43) (List.take 5 r49) (fun v54 =>
 k_fin [(V.sc (.int .u8 v0)),(V.sc (.int .u8 v1)),(V.sc (.int .u8 v2)),(V.sc (.int .u8 v3)),(V.sc (.int .u8 v4)),(V.sc (.int .u8 v5)),(V.sc (.int .u8 v6)),(V.sc (.int .u8 v7)),(V.sc (.int .u8 v8)),(V.sc (.int .u8 v9)),(V.sc (.int .u8 v10)),(V.sc (.int .u8 v11)),(V.sc (.int .u8 v12)),(V.sc (.int .u8 v13)),(V.sc (.int .u8 v14)),(V.sc (.int .u8 v15)),(V.sc (.int .u8 v16)),(V.sc (.int .u8 v17)),(V.sc (.int .u8 v18)),(V.sc (.int .u8 v19)),(V.sc (.int .u8 v20)),(V.sc (.int .u8 v21)),(V.sc (.int .u8 v22)),(V.sc (.int .u8 v23)),(V.sc (.int .u8 v24)),(V.sc (.int .u8 v25)),(V.sc (.int .u8 v26)),(V.sc (.int .u8 v27)),(V.sc (.int .u8 v28)),(V.sc (.int .u8 v29)),(V.sc (.int .u8 v30)),(V.sc (.int .u8 v31)),(V.sl 5 v54),(V.sl 5 (yk 5 v33 v37))] true)) (
 ze β L (yk 5 v32 v43) (List.take 5 r49) (fun v55 =>
 k_fin [(V.sc (.int .u8 v0)),(V.sc (.int .u8 v1)),(V.sc (.int .u8 v2)),(V.sc (.int .u8 v3)),(V.sc (.int .u8 v4)),(V.sc (.int .u8 v5)),(V.sc (.int .u8 v6)),(V.sc (.int .u8 v7)),(V.sc (.int .u8 v8)),(V.sc (.int .u8 v9)),(V.sc (.int .u8 v10)),(V.sc (.int .u8 v11)),(V.sc (.int .u8 v12)),(V.sc (.int .u8 v13)),(V.sc (.int .u8 v14)),(V.sc (.int .u8 v15)),(V.sc (.int .u8 v16)),(V.sc (.int .u8 v17)),(V.sc (.int .u8 v18)),(V.sc (.int .u8 v19)),(V.sc (.int .u8 v20)),(V.sc (.int .u8 v21)),(V.sc (.int .u8 v22)),(V.sc (.int .u8 v23)),(V.sc (.int .u8 v24)),(V.sc (.int .u8 v25)),(V.sc (.int .u8 v26)),(V.sc (.int .u8 v27)),(V.sc (.int .u8 v28)),(V.sc (.int .u8 v29)),(V.sc (.int .u8 v30)),(V.sc (.int .u8 v31)),(V.sl 5 v55),(V.sl 5 (yk 5 v33 v37))] true)))))) (
 xe β L (yk 5 v32 v43) v50 (fun v56 v57 =>
 lt (IntKind.wrap .i64 ((v57:Int) - v56)) fun x58 =>
 ifb (decide (x58 ≥ (8:Int))) (
 k_hbbbbbbabababav1 v57 v56 v56 p1 (0:Int) (0:Int) (0:Int) (0:Int) (0:Int) (0:Int) (0:Int) (0:Int) (0:Int) (0:Int) (0:Int) (0:Int) (0:Int) (0:Int) (0:Int) (0:Int) (0:Int) (0:Int) (0:Int) (0:Int) (0:Int) (0:Int) (0:Int) (0:Int) (0:Int) (0:Int) (0:Int) (0:Int) (0:Int) (0:Int) (0:Int) (0:Int) ([]:List (List V)) ([]:List (List V)) v0 v1 v2 v3 v4 v5 v6 v7 v8 v9 v10 v11 v12 v13 v14 v15 v16 v17 v18 v19 v20 v21 v22 v23 v24 v25 v26 v27 v28 v29 v30 v31 v32 v33 r49 v43 v37) (
 chk (0+5≤(List.length r49)) (
 ze β L (yk 5 v32 v43) (List.take 5 r49) (fun v59 =>
 k_fin [(V.sc (.int .u8 v0)),(V.sc (.int .u8 v1)),(V.sc (.int .u8 v2)),(V.sc (.int .u8 v3)),(V.sc (.int .u8 v4)),(V.sc (.int .u8 v5)),(V.sc (.int .u8 v6)),(V.sc (.int .u8 v7)),(V.sc (.int .u8 v8)),(V.sc (.int .u8 v9)),(V.sc (.int .u8 v10)),(V.sc (.int .u8 v11)),(V.sc (.int .u8 v12)),(V.sc (.int .u8 v13)),(V.sc (.int .u8 v14)),(V.sc (.int .u8 v15)),(V.sc (.int .u8 v16)),(V.sc (.int .u8 v17)),(V.sc (.int .u8 v18)),(V.sc (.int .u8 v19)),(V.sc (.int .u8 v20)),(V.sc (.int .u8 v21)),(V.sc (.int .u8 v22)),(V.sc (.int .u8 v23)),(V.sc (.int .u8 v24)),(V.sc (.int .u8 v25)),(V.sc (.int .u8 v26)),(V.sc (.int .u8 v27)),(V.sc (.int .u8 v28)),(V.sc (.int .u8 v29)),(V.sc (.int .u8 v30)),(V.sc (.int .u8 v31)),(V.sl 5 v59),(V.sl 5 (yk 5 v33 v37))] true))))))))))))))))))))))
theorem zAJ {β:Type} (zg:xP) (yh:xX) (zb:zt) (xe:yK) (ze:yQ) (zf:zQ) (L:Nat) (p0 p1:List V) (p2:Int) (k:KK β):xr yU (zU zg yh zb xe ze zf L) L zcV [(V.agg p0),(V.agg p1),(V.sc (.int .u32 p2))] [] k=zrJ zg yh zb xe ze zf L p0 p1 p2 (fun zLN zLO=>k (V.tup [(V.agg zLN),(V.sc (.bool zLO))]) []) (fun p13 p14 p15 b4 zLC zLD zLE zLF zLG zLH zLI zLJ zLK zLL zK6 zK7 zK8 zK9 zLa zLb zLc zLd zLe zLf zLg zLh zLi zLj zLk zLl zLm zLn zLo zLp zLq zLr zLs zLt zKC zKD zKE zKF zLw zLx zLy zLz zLA zLB zKK zKL zKM zKN zKO zKP zKQ zKR zKS zKT zKU zKV zKW zKX zKY zKZ zK0 zK1 zK2 zK3 zK4 zK5 zKG zKJ b11 b18 b23=>zH (yn yU (zU zg yh zb xe ze zf L) 0 L zZ) zan L (zcn p13 p14 p15 b4 zLC zLD zLE zLF zLG zLH zLI zLJ zLK zLL zK6 zK7 zK8 zK9 zLa zLb zLc zLd zLe zLf zLg zLh zLi zLj zLk zLl zLm zLn zLo zLp zLq zLr zLs zLt zKC zKD zKE zKF zLw zLx zLy zLz zLA zLB zKK zKL zKM zKN zKO zKP zKQ zKR zKS zKT zKU zKV zKW zKX zKY zKZ zK0 zK1 zK2 zK3 zK4 zK5 zKG zKJ b11 b18 b23) (yH 0 (zV (yn yU (zU zg yh zb xe ze zf L) 0 L zcr) (zV (yn yU (zU zg yh zb xe ze zf L) 0 L zdH) (y6 0 (CF.res zcV) k))))) (fun p13 p14 p15 b4 zLC zLD zLE zLF zLG zLH zLI zLJ zLK zLL zK6 zK7 zK8 zK9 zLa zLb zLc zLd zLe zLf zLg zLh zLi zLj zLk zLl zLm zLn zLo zLp zLq zLr zLs zLt zKC zKD zKE zKF zLw zLx zLy zLz zLA zLB zKK zKL zKM zKN zKO zKP zKQ zKR zKS zKT zKU zKV zKW zKX zKY zKZ zK0 zK1 zK2 zK3 zK4 zK5 zKG zKJ b11 b18 b23=>zH (yn yU (zU zg yh zb xe ze zf L) 0 L zZ) zan L (zb6 p13 p14 p15 b4 zLC zLD zLE zLF zLG zLH zLI zLJ zLK zLL zK6 zK7 zK8 zK9 zLa zLb zLc zLd zLe zLf zLg zLh zLi zLj zLk zLl zLm zLn zLo zLp zLq zLr zLs zLt zKC zKD zKE zKF zLw zLx zLy zLz zLA zLB zKK zKL zKM zKN zKO zKP zKQ zKR zKS zKT zKU zKV zKW zKX zKY zKZ zK0 zK1 zK2 zK3 zK4 zK5 zKG zKJ b11 b18 b23) (yH 0 (zV (yn yU (zU zg yh zb xe ze zf L) 0 L zcr) (zV (yn yU (zU zg yh zb xe ze zf L) 0 L zdH) (y6 0 (CF.res zcV) k))))):=by kernel_rfl
def zi6 {β:Type} (zg:xP) (yh:xX) (zb:zt) (xe:yK) (ze:yQ) (zf:zQ) (L:Nat) (p13 p14 p15:Int) (b4:List V) (zLC zLD zLE zLF zLG zLH zLI zLJ zLK zLL zK6 zK7 zK8 zK9 zLa zLb zLc zLd zLe zLf zLg zLh zLi zLj zLk zLl zLm zLn zLo zLp zLq zLr:Int) (zLs zLt:List (List V)) (zKC zKD zKE zKF zLw zLx zLy zLz zLA zLB zKK zKL zKM zKN zKO zKP zKQ zKR zKS zKT zKU zKV zKW zKX zKY zKZ zK0 zK1 zK2 zK3 zK4 zK5:Int) (zKG zKJ:Nat) (b11 b18 b23:List V) (k_hbbbbbbabababa:zin β) (k_x0:zt2 β):Option β :=
 ifb (decide (p15 < p13)) (
 chk (0≤p15∧p15 < ((zKG:Nat):Int)) (
 cI .u32 b18 (((0+((Int.toNat p15) * 5))+1)+2) fun v60 =>
 chk (0≤p14∧p14 < ((zKG:Nat):Int)) (
 cI .u32 b18 (((0+((Int.toNat p14) * 5))+1)+2) fun v61 =>
 ifb (decide (v60 < v61)) (
 lt (IntKind.wrap .i64 ((p15:Int)+(1:Int))) fun x62 =>
 k_hbbbbbbabababa p13 p15 x62 b4 zLC zLD zLE zLF zLG zLH zLI zLJ zLK zLL zK6 zK7 zK8 zK9 zLa zLb zLc zLd zLe zLf zLg zLh zLi zLj zLk zLl zLm zLn zLo zLp zLq zLr zLs zLt zKC zKD zKE zKF zLw zLx zLy zLz zLA zLB zKK zKL zKM zKN zKO zKP zKQ zKR zKS zKT zKU zKV zKW zKX zKY zKZ zK0 zK1 zK2 zK3 zK4 zK5 zKG zKJ b11 b18 b23) (
 lt (IntKind.wrap .i64 ((p15:Int)+(1:Int))) fun x63 =>
 k_hbbbbbbabababa p13 p14 x63 b4 zLC zLD zLE zLF zLG zLH zLI zLJ zLK zLL zK6 zK7 zK8 zK9 zLa zLb zLc zLd zLe zLf zLg zLh zLi zLj zLk zLl zLm zLn zLo zLp zLq zLr zLs zLt zKC zKD zKE zKF zLw zLx zLy zLz zLA zLB zKK zKL zKM zKN zKO zKP zKQ zKR zKS zKT zKU zKV zKW zKX zKY zKZ zK0 zK1 zK2 zK3 zK4 zK5 zKG zKJ b11 b18 b23)))) (
 k_x0 p14 b4 zLC zLD zLE zLF zLG zLH zLI zLJ zLK zLL zK6 zK7 zK8 zK9 zLa zLb zLc zLd zLe zLf zLg zLh zLi zLj zLk zLl zLm zLn zLo zLp zLq zLr zLs zLt zKC zKD zKE zKF zLw zLx zLy zLz zLA zLB zKK zKL zKM zKN zKO zKP zKQ zKR zKS zKT zKU zKV zKW zKX zKY zKZ zK0 zK1 zK2 zK3 zK4 zK5 zKG zKJ b11 b18 b23)
theorem zoI {β:Type} (zg:xP) (yh:xX) (zb:zt) (xe:yK) (ze:yQ) (zf:zQ) (L:Nat) (p13 p14 p15:Int) (b4:List V) (zLC zLD zLE zLF zLG zLH zLI zLJ zLK zLL zK6 zK7 zK8 zK9 zLa zLb zLc zLd zLe zLf zLg zLh zLi zLj zLk zLl zLm zLn zLo zLp zLq zLr:Int) (zLs zLt:List (List V)) (zKC zKD zKE zKF zLw zLx zLy zLz zLA zLB zKK zKL zKM zKN zKO zKP zKQ zKR zKS zKT zKU zKV zKW zKX zKY zKZ zK0 zK1 zK2 zK3 zK4 zK5:Int) (zKG zKJ:Nat) (b11 b18 b23:List V) (X:St→Option β) (K:KT β):yn yU (zU zg yh zb xe ze zf L) 0 L zZ (zcn p13 p14 p15 b4 zLC zLD zLE zLF zLG zLH zLI zLJ zLK zLL zK6 zK7 zK8 zK9 zLa zLb zLc zLd zLe zLf zLg zLh zLi zLj zLk zLl zLm zLn zLo zLp zLq zLr zLs zLt zKC zKD zKE zKF zLw zLx zLy zLz zLA zLB zKK zKL zKM zKN zKO zKP zKQ zKR zKS zKT zKU zKV zKW zKX zKY zKZ zK0 zK1 zK2 zK3 zK4 zK5 zKG zKJ b11 b18 b23) (zcC zan X K)=zi6 zg yh zb xe ze zf L p13 p14 p15 b4 zLC zLD zLE zLF zLG zLH zLI zLJ zLK zLL zK6 zK7 zK8 zK9 zLa zLb zLc zLd zLe zLf zLg zLh zLi zLj zLk zLl zLm zLn zLo zLp zLq zLr zLs zLt zKC zKD zKE zKF zLw zLx zLy zLz zLA zLB zKK zKL zKM zKN zKO zKP zKQ zKR zKS zKT zKU zKV zKW zKX zKY zKZ zK0 zK1 zK2 zK3 zK4 zK5 zKG zKJ b11 b18 b23 (fun p13 p14 p15 b4 zLC zLD zLE zLF zLG zLH zLI zLJ zLK zLL zK6 zK7 zK8 zK9 zLa zLb zLc zLd zLe zLf zLg zLh zLi zLj zLk zLl zLm zLn zLo zLp zLq zLr zLs zLt zKC zKD zKE zKF zLw zLx zLy zLz zLA zLB zKK zKL zKM zKN zKO zKP zKQ zKR zKS zKT zKU zKV zKW zKX zKY zKZ zK0 zK1 zK2 zK3 zK4 zK5 zKG zKJ b11 b18 b23=>X (zcn p13 p14 p15 b4 zLC zLD zLE zLF zLG zLH zLI zLJ zLK zLL zK6 zK7 zK8 zK9 zLa zLb zLc zLd zLe zLf zLg zLh zLi zLj zLk zLl zLm zLn zLo zLp zLq zLr zLs zLt zKC zKD zKE zKF zLw zLx zLy zLz zLA zLB zKK zKL zKM zKN zKO zKP zKQ zKR zKS zKT zKU zKV zKW zKX zKY zKZ zK0 zK1 zK2 zK3 zK4 zK5 zKG zKJ b11 b18 b23)) (fun p14 b4 zLC zLD zLE zLF zLG zLH zLI zLJ zLK zLL zK6 zK7 zK8 zK9 zLa zLb zLc zLd zLe zLf zLg zLh zLi zLj zLk zLl zLm zLn zLo zLp zLq zLr zLs zLt zKC zKD zKE zKF zLw zLx zLy zLz zLA zLB zKK zKL zKM zKN zKO zKP zKQ zKR zKS zKT zKU zKV zKW zKX zKY zKZ zK0 zK1 zK2 zK3 zK4 zK5 zKG zKJ b11 b18 b23=>K (.exit 0) (zlX p14 b4 zLC zLD zLE zLF zLG zLH zLI zLJ zLK zLL zK6 zK7 zK8 zK9 zLa zLb zLc zLd zLe zLf zLg zLh zLi zLj zLk zLl zLm zLn zLo zLp zLq zLr zLs zLt zKC zKD zKE zKF zLw zLx zLy zLz zLA zLB zKK zKL zKM zKN zKO zKP zKQ zKR zKS zKT zKU zKV zKW zKX zKY zKZ zK0 zK1 zK2 zK3 zK4 zK5 zKG zKJ b11 b18 b23)):=by kernel_rfl
def zeb {β:Type} (zg:xP) (yh:xX) (zb:zt) (xe:yK) (ze:yQ) (zf:zQ) (L:Nat) (p13 p14 p15:Int) (b4:List V) (zLC zLD zLE zLF zLG zLH zLI zLJ zLK zLL zK6 zK7 zK8 zK9 zLa zLb zLc zLd zLe zLf zLg zLh zLi zLj zLk zLl zLm zLn zLo zLp zLq zLr:Int) (zLs zLt:List (List V)) (zKC zKD zKE zKF zLw zLx zLy zLz zLA zLB zKK zKL zKM zKN zKO zKP zKQ zKR zKS zKT zKU zKV zKW zKX zKY zKZ zK0 zK1 zK2 zK3 zK4 zK5:Int) (zKG zKJ:Nat) (b11 b18 b23:List V) (k_hbbbbbbabababav1:zg9 β) (k_x0v1:zlU β):Option β :=
 ifb (decide (p15 < p13)) (
 chk (0≤p15∧p15 < ((zKG:Nat):Int)) (
 cI .u32 b18 (((0+((Int.toNat p15) * 5))+1)+2) fun v64 =>
 chk (0≤p14∧p14 < ((zKG:Nat):Int)) (
 cI .u32 b18 (((0+((Int.toNat p14) * 5))+1)+2) fun v65 =>
 ifb (decide (v64 < v65)) (
 lt (IntKind.wrap .i64 ((p15:Int)+(1:Int))) fun x66 =>
 k_hbbbbbbabababav1 p13 p15 x66 b4 zLC zLD zLE zLF zLG zLH zLI zLJ zLK zLL zK6 zK7 zK8 zK9 zLa zLb zLc zLd zLe zLf zLg zLh zLi zLj zLk zLl zLm zLn zLo zLp zLq zLr zLs zLt zKC zKD zKE zKF zLw zLx zLy zLz zLA zLB zKK zKL zKM zKN zKO zKP zKQ zKR zKS zKT zKU zKV zKW zKX zKY zKZ zK0 zK1 zK2 zK3 zK4 zK5 zKG zKJ b11 b18 b23) (
 lt (IntKind.wrap .i64 ((p15:Int)+(1:Int))) fun x67 =>
 k_hbbbbbbabababav1 p13 p14 x67 b4 zLC zLD zLE zLF zLG zLH zLI zLJ zLK zLL zK6 zK7 zK8 zK9 zLa zLb zLc zLd zLe zLf zLg zLh zLi zLj zLk zLl zLm zLn zLo zLp zLq zLr zLs zLt zKC zKD zKE zKF zLw zLx zLy zLz zLA zLB zKK zKL zKM zKN zKO zKP zKQ zKR zKS zKT zKU zKV zKW zKX zKY zKZ zK0 zK1 zK2 zK3 zK4 zK5 zKG zKJ b11 b18 b23)))) (
 k_x0v1 p14 b4 zLC zLD zLE zLF zLG zLH zLI zLJ zLK zLL zK6 zK7 zK8 zK9 zLa zLb zLc zLd zLe zLf zLg zLh zLi zLj zLk zLl zLm zLn zLo zLp zLq zLr zLs zLt zKC zKD zKE zKF zLw zLx zLy zLz zLA zLB zKK zKL zKM zKN zKO zKP zKQ zKR zKS zKT zKU zKV zKW zKX zKY zKZ zK0 zK1 zK2 zK3 zK4 zK5 zKG zKJ b11 b18 b23)
theorem zns {β:Type} (zg:xP) (yh:xX) (zb:zt) (xe:yK) (ze:yQ) (zf:zQ) (L:Nat) (p13 p14 p15:Int) (b4:List V) (zLC zLD zLE zLF zLG zLH zLI zLJ zLK zLL zK6 zK7 zK8 zK9 zLa zLb zLc zLd zLe zLf zLg zLh zLi zLj zLk zLl zLm zLn zLo zLp zLq zLr:Int) (zLs zLt:List (List V)) (zKC zKD zKE zKF zLw zLx zLy zLz zLA zLB zKK zKL zKM zKN zKO zKP zKQ zKR zKS zKT zKU zKV zKW zKX zKY zKZ zK0 zK1 zK2 zK3 zK4 zK5:Int) (zKG zKJ:Nat) (b11 b18 b23:List V) (X:St→Option β) (K:KT β):yn yU (zU zg yh zb xe ze zf L) 0 L zZ (zb6 p13 p14 p15 b4 zLC zLD zLE zLF zLG zLH zLI zLJ zLK zLL zK6 zK7 zK8 zK9 zLa zLb zLc zLd zLe zLf zLg zLh zLi zLj zLk zLl zLm zLn zLo zLp zLq zLr zLs zLt zKC zKD zKE zKF zLw zLx zLy zLz zLA zLB zKK zKL zKM zKN zKO zKP zKQ zKR zKS zKT zKU zKV zKW zKX zKY zKZ zK0 zK1 zK2 zK3 zK4 zK5 zKG zKJ b11 b18 b23) (zcC zan X K)=zeb zg yh zb xe ze zf L p13 p14 p15 b4 zLC zLD zLE zLF zLG zLH zLI zLJ zLK zLL zK6 zK7 zK8 zK9 zLa zLb zLc zLd zLe zLf zLg zLh zLi zLj zLk zLl zLm zLn zLo zLp zLq zLr zLs zLt zKC zKD zKE zKF zLw zLx zLy zLz zLA zLB zKK zKL zKM zKN zKO zKP zKQ zKR zKS zKT zKU zKV zKW zKX zKY zKZ zK0 zK1 zK2 zK3 zK4 zK5 zKG zKJ b11 b18 b23 (fun p13 p14 p15 b4 zLC zLD zLE zLF zLG zLH zLI zLJ zLK zLL zK6 zK7 zK8 zK9 zLa zLb zLc zLd zLe zLf zLg zLh zLi zLj zLk zLl zLm zLn zLo zLp zLq zLr zLs zLt zKC zKD zKE zKF zLw zLx zLy zLz zLA zLB zKK zKL zKM zKN zKO zKP zKQ zKR zKS zKT zKU zKV zKW zKX zKY zKZ zK0 zK1 zK2 zK3 zK4 zK5 zKG zKJ b11 b18 b23=>X (zb6 p13 p14 p15 b4 zLC zLD zLE zLF zLG zLH zLI zLJ zLK zLL zK6 zK7 zK8 zK9 zLa zLb zLc zLd zLe zLf zLg zLh zLi zLj zLk zLl zLm zLn zLo zLp zLq zLr zLs zLt zKC zKD zKE zKF zLw zLx zLy zLz zLA zLB zKK zKL zKM zKN zKO zKP zKQ zKR zKS zKT zKU zKV zKW zKX zKY zKZ zK0 zK1 zK2 zK3 zK4 zK5 zKG zKJ b11 b18 b23)) (fun p14 b4 zLC zLD zLE zLF zLG zLH zLI zLJ zLK zLL zK6 zK7 zK8 zK9 zLa zLb zLc zLd zLe zLf zLg zLh zLi zLj zLk zLl zLm zLn zLo zLp zLq zLr zLs zLt zKC zKD zKE zKF zLw zLx zLy zLz zLA zLB zKK zKL zKM zKN zKO zKP zKQ zKR zKS zKT zKU zKV zKW zKX zKY zKZ zK0 zK1 zK2 zK3 zK4 zK5 zKG zKJ b11 b18 b23=>K (.exit 0) (zj7 p14 b4 zLC zLD zLE zLF zLG zLH zLI zLJ zLK zLL zK6 zK7 zK8 zK9 zLa zLb zLc zLd zLe zLf zLg zLh zLi zLj zLk zLl zLm zLn zLo zLp zLq zLr zLs zLt zKC zKD zKE zKF zLw zLx zLy zLz zLA zLB zKK zKL zKM zKN zKO zKP zKQ zKR zKS zKT zKU zKV zKW zKX zKY zKZ zK0 zK1 zK2 zK3 zK4 zK5 zKG zKJ b11 b18 b23)):=by kernel_rfl
def zhw {β:Type} (zg:xP) (yh:xX) (zb:zt) (xe:yK) (ze:yQ) (zf:zQ) (L:Nat) (p14:Int) (b4:List V) (zLC zLD zLE zLF zLG zLH zLI zLJ zLK zLL zK6 zK7 zK8 zK9 zLa zLb zLc zLd zLe zLf zLg zLh zLi zLj zLk zLl zLm zLn zLo zLp zLq zLr:Int) (zLs zLt:List (List V)) (zKC zKD zKE zKF zLw zLx zLy zLz zLA zLB zKK zKL zKM zKN zKO zKP zKQ zKR zKS zKT zKU zKV zKW zKX zKY zKZ zK0 zK1 zK2 zK3 zK4 zK5:Int) (zKG zKJ:Nat) (b11 b18 b23:List V) (k_fin:List V→Bool→Option β):Option β :=
 chk (0≤p14∧p14 < ((zKG:Nat):Int)) (
 cI .u32 b18 (((0+((Int.toNat p14) * 5))+1)+2) fun v68 =>
 cI .u32 b4 2 fun v69 =>
 ifb (decide (v68 ≥ v69)) (
 k_fin [(V.sc (.int .u8 zKC)),(V.sc (.int .u8 zKD)),(V.sc (.int .u8 zKE)),(V.sc (.int .u8 zKF)),(V.sc (.int .u8 zLw)),(V.sc (.int .u8 zLx)),(V.sc (.int .u8 zLy)),(V.sc (.int .u8 zLz)),(V.sc (.int .u8 zLA)),(V.sc (.int .u8 zLB)),(V.sc (.int .u8 zKK)),(V.sc (.int .u8 zKL)),(V.sc (.int .u8 zKM)),(V.sc (.int .u8 zKN)),(V.sc (.int .u8 zKO)),(V.sc (.int .u8 zKP)),(V.sc (.int .u8 zKQ)),(V.sc (.int .u8 zKR)),(V.sc (.int .u8 zKS)),(V.sc (.int .u8 zKT)),(V.sc (.int .u8 zKU)),(V.sc (.int .u8 zKV)),(V.sc (.int .u8 zKW)),(V.sc (.int .u8 zKX)),(V.sc (.int .u8 zKY)),(V.sc (.int .u8 zKZ)),(V.sc (.int .u8 zK0)),(V.sc (.int .u8 zK1)),(V.sc (.int .u8 zK2)),(V.sc (.int .u8 zK3)),(V.sc (.int .u8 zK4)),(V.sc (.int .u8 zK5)),(V.sl 5 (yk 5 zKG b18)),(V.sl 5 (yk 5 zKJ b23))] false) (
 ifb (List.isEmpty b18) (
 zf β L (yk 5 zKG b18) p14 (fun v70 =>
 chk (0+5≤(List.length b11)) (
 ze β L v70 (List.take 5 b11) (fun v71 =>
 k_fin [(V.sc (.int .u8 zKC)),(V.sc (.int .u8 zKD)),(V.sc (.int .u8 zKE)),(V.sc (.int .u8 zKF)),(V.sc (.int .u8 zLw)),(V.sc (.int .u8 zLx)),(V.sc (.int .u8 zLy)),(V.sc (.int .u8 zLz)),(V.sc (.int .u8 zLA)),(V.sc (.int .u8 zLB)),(V.sc (.int .u8 zKK)),(V.sc (.int .u8 zKL)),(V.sc (.int .u8 zKM)),(V.sc (.int .u8 zKN)),(V.sc (.int .u8 zKO)),(V.sc (.int .u8 zKP)),(V.sc (.int .u8 zKQ)),(V.sc (.int .u8 zKR)),(V.sc (.int .u8 zKS)),(V.sc (.int .u8 zKT)),(V.sc (.int .u8 zKU)),(V.sc (.int .u8 zKV)),(V.sc (.int .u8 zKW)),(V.sc (.int .u8 zKX)),(V.sc (.int .u8 zKY)),(V.sc (.int .u8 zKZ)),(V.sc (.int .u8 zK0)),(V.sc (.int .u8 zK1)),(V.sc (.int .u8 zK2)),(V.sc (.int .u8 zK3)),(V.sc (.int .u8 zK4)),(V.sc (.int .u8 zK5)),(V.sl 5 v71),(V.sl 5 (yk 5 zKJ b23))] true)))) (
 zf β L (yk 5 zKG b18) p14 (fun v72 =>
 chk (0+5≤(List.length b11)) (
 ze β L v72 (List.take 5 b11) (fun v73 =>
 k_fin [(V.sc (.int .u8 zKC)),(V.sc (.int .u8 zKD)),(V.sc (.int .u8 zKE)),(V.sc (.int .u8 zKF)),(V.sc (.int .u8 zLw)),(V.sc (.int .u8 zLx)),(V.sc (.int .u8 zLy)),(V.sc (.int .u8 zLz)),(V.sc (.int .u8 zLA)),(V.sc (.int .u8 zLB)),(V.sc (.int .u8 zKK)),(V.sc (.int .u8 zKL)),(V.sc (.int .u8 zKM)),(V.sc (.int .u8 zKN)),(V.sc (.int .u8 zKO)),(V.sc (.int .u8 zKP)),(V.sc (.int .u8 zKQ)),(V.sc (.int .u8 zKR)),(V.sc (.int .u8 zKS)),(V.sc (.int .u8 zKT)),(V.sc (.int .u8 zKU)),(V.sc (.int .u8 zKV)),(V.sc (.int .u8 zKW)),(V.sc (.int .u8 zKX)),(V.sc (.int .u8 zKY)),(V.sc (.int .u8 zKZ)),(V.sc (.int .u8 zK0)),(V.sc (.int .u8 zK1)),(V.sc (.int .u8 zK2)),(V.sc (.int .u8 zK3)),(V.sc (.int .u8 zK4)),(V.sc (.int .u8 zK5)),(V.sl 5 v73),(V.sl 5 (yk 5 zKJ b23))] true))))))
theorem znw {β:Type} (zg:xP) (yh:xX) (zb:zt) (xe:yK) (ze:yQ) (zf:zQ) (L:Nat) (p14:Int) (b4:List V) (zLC zLD zLE zLF zLG zLH zLI zLJ zLK zLL zK6 zK7 zK8 zK9 zLa zLb zLc zLd zLe zLf zLg zLh zLi zLj zLk zLl zLm zLn zLo zLp zLq zLr:Int) (zLs zLt:List (List V)) (zKC zKD zKE zKF zLw zLx zLy zLz zLA zLB zKK zKL zKM zKN zKO zKP zKQ zKR zKS zKT zKU zKV zKW zKX zKY zKZ zK0 zK1 zK2 zK3 zK4 zK5:Int) (zKG zKJ:Nat) (b11 b18 b23:List V) (k:KK β):(yH 0 (zV (yn yU (zU zg yh zb xe ze zf L) 0 L zcr) (zV (yn yU (zU zg yh zb xe ze zf L) 0 L zdH) (y6 0 (CF.res zcV) k)))) (.exit 0) (zlX p14 b4 zLC zLD zLE zLF zLG zLH zLI zLJ zLK zLL zK6 zK7 zK8 zK9 zLa zLb zLc zLd zLe zLf zLg zLh zLi zLj zLk zLl zLm zLn zLo zLp zLq zLr zLs zLt zKC zKD zKE zKF zLw zLx zLy zLz zLA zLB zKK zKL zKM zKN zKO zKP zKQ zKR zKS zKT zKU zKV zKW zKX zKY zKZ zK0 zK1 zK2 zK3 zK4 zK5 zKG zKJ b11 b18 b23)=zhw zg yh zb xe ze zf L p14 b4 zLC zLD zLE zLF zLG zLH zLI zLJ zLK zLL zK6 zK7 zK8 zK9 zLa zLb zLc zLd zLe zLf zLg zLh zLi zLj zLk zLl zLm zLn zLo zLp zLq zLr zLs zLt zKC zKD zKE zKF zLw zLx zLy zLz zLA zLB zKK zKL zKM zKN zKO zKP zKQ zKR zKS zKT zKU zKV zKW zKX zKY zKZ zK0 zK1 zK2 zK3 zK4 zK5 zKG zKJ b11 b18 b23 (fun zLN zLO=>k (V.tup [(V.agg zLN),(V.sc (.bool zLO))]) []):=by kernel_rfl
def zde {β:Type} (zg:xP) (yh:xX) (zb:zt) (xe:yK) (ze:yQ) (zf:zQ) (L:Nat) (p14:Int) (b4:List V) (zLC zLD zLE zLF zLG zLH zLI zLJ zLK zLL zK6 zK7 zK8 zK9 zLa zLb zLc zLd zLe zLf zLg zLh zLi zLj zLk zLl zLm zLn zLo zLp zLq zLr:Int) (zLs zLt:List (List V)) (zKC zKD zKE zKF zLw zLx zLy zLz zLA zLB zKK zKL zKM zKN zKO zKP zKQ zKR zKS zKT zKU zKV zKW zKX zKY zKZ zK0 zK1 zK2 zK3 zK4 zK5:Int) (zKG zKJ:Nat) (b11 b18 b23:List V) (k_fin:List V→Bool→Option β):Option β :=
 chk (0≤p14∧p14 < ((zKG:Nat):Int)) (
 cI .u32 b18 (((0+((Int.toNat p14) * 5))+1)+2) fun v74 =>
 cI .u32 b4 2 fun v75 =>
 ifb (decide (v74 ≥ v75)) (
 k_fin [(V.sc (.int .u8 zKC)),(V.sc (.int .u8 zKD)),(V.sc (.int .u8 zKE)),(V.sc (.int .u8 zKF)),(V.sc (.int .u8 zLw)),(V.sc (.int .u8 zLx)),(V.sc (.int .u8 zLy)),(V.sc (.int .u8 zLz)),(V.sc (.int .u8 zLA)),(V.sc (.int .u8 zLB)),(V.sc (.int .u8 zKK)),(V.sc (.int .u8 zKL)),(V.sc (.int .u8 zKM)),(V.sc (.int .u8 zKN)),(V.sc (.int .u8 zKO)),(V.sc (.int .u8 zKP)),(V.sc (.int .u8 zKQ)),(V.sc (.int .u8 zKR)),(V.sc (.int .u8 zKS)),(V.sc (.int .u8 zKT)),(V.sc (.int .u8 zKU)),(V.sc (.int .u8 zKV)),(V.sc (.int .u8 zKW)),(V.sc (.int .u8 zKX)),(V.sc (.int .u8 zKY)),(V.sc (.int .u8 zKZ)),(V.sc (.int .u8 zK0)),(V.sc (.int .u8 zK1)),(V.sc (.int .u8 zK2)),(V.sc (.int .u8 zK3)),(V.sc (.int .u8 zK4)),(V.sc (.int .u8 zK5)),(V.sl 5 (yk 5 zKG b18)),(V.sl 5 (yk 5 zKJ b23))] false) (
 zf β L (yk 5 zKG b18) p14 (fun v76 =>
 chk (0+5≤(List.length b11)) (
 ze β L v76 (List.take 5 b11) (fun v77 =>
 k_fin [(V.sc (.int .u8 zKC)),(V.sc (.int .u8 zKD)),(V.sc (.int .u8 zKE)),(V.sc (.int .u8 zKF)),(V.sc (.int .u8 zLw)),(V.sc (.int .u8 zLx)),(V.sc (.int .u8 zLy)),(V.sc (.int .u8 zLz)),(V.sc (.int .u8 zLA)),(V.sc (.int .u8 zLB)),(V.sc (.int .u8 zKK)),(V.sc (.int .u8 zKL)),(V.sc (.int .u8 zKM)),(V.sc (.int .u8 zKN)),(V.sc (.int .u8 zKO)),(V.sc (.int .u8 zKP)),(V.sc (.int .u8 zKQ)),(V.sc (.int .u8 zKR)),(V.sc (.int .u8 zKS)),(V.sc (.int .u8 zKT)),(V.sc (.int .u8 zKU)),(V.sc (.int .u8 zKV)),(V.sc (.int .u8 zKW)),(V.sc (.int .u8 zKX)),(V.sc (.int .u8 zKY)),(V.sc (.int .u8 zKZ)),(V.sc (.int .u8 zK0)),(V.sc (.int .u8 zK1)),(V.sc (.int .u8 zK2)),(V.sc (.int .u8 zK3)),(V.sc (.int .u8 zK4)),(V.sc (.int .u8 zK5)),(V.sl 5 v77),(V.sl 5 (yk 5 zKJ b23))] true)))))
theorem zkY {β:Type} (zg:xP) (yh:xX) (zb:zt) (xe:yK) (ze:yQ) (zf:zQ) (L:Nat) (p14:Int) (b4:List V) (zLC zLD zLE zLF zLG zLH zLI zLJ zLK zLL zK6 zK7 zK8 zK9 zLa zLb zLc zLd zLe zLf zLg zLh zLi zLj zLk zLl zLm zLn zLo zLp zLq zLr:Int) (zLs zLt:List (List V)) (zKC zKD zKE zKF zLw zLx zLy zLz zLA zLB zKK zKL zKM zKN zKO zKP zKQ zKR zKS zKT zKU zKV zKW zKX zKY zKZ zK0 zK1 zK2 zK3 zK4 zK5:Int) (zKG zKJ:Nat) (b11 b18 b23:List V) (k:KK β):(yH 0 (zV (yn yU (zU zg yh zb xe ze zf L) 0 L zcr) (zV (yn yU (zU zg yh zb xe ze zf L) 0 L zdH) (y6 0 (CF.res zcV) k)))) (.exit 0) (zj7 p14 b4 zLC zLD zLE zLF zLG zLH zLI zLJ zLK zLL zK6 zK7 zK8 zK9 zLa zLb zLc zLd zLe zLf zLg zLh zLi zLj zLk zLl zLm zLn zLo zLp zLq zLr zLs zLt zKC zKD zKE zKF zLw zLx zLy zLz zLA zLB zKK zKL zKM zKN zKO zKP zKQ zKR zKS zKT zKU zKV zKW zKX zKY zKZ zK0 zK1 zK2 zK3 zK4 zK5 zKG zKJ b11 b18 b23)=zde zg yh zb xe ze zf L p14 b4 zLC zLD zLE zLF zLG zLH zLI zLJ zLK zLL zK6 zK7 zK8 zK9 zLa zLb zLc zLd zLe zLf zLg zLh zLi zLj zLk zLl zLm zLn zLo zLp zLq zLr zLs zLt zKC zKD zKE zKF zLw zLx zLy zLz zLA zLB zKK zKL zKM zKN zKO zKP zKQ zKR zKS zKT zKU zKV zKW zKX zKY zKZ zK0 zK1 zK2 zK3 zK4 zK5 zKG zKJ b11 b18 b23 (fun zLN zLO=>k (V.tup [(V.agg zLN),(V.sc (.bool zLO))]) []):=by kernel_rfl
def zeP {β:Type} (zg:xP) (yh:xX) (zb:zt) (xe:yK) (ze:yQ) (zf:zQ) (L:Nat) (k_x0:zt2 β):Nat→Int→Int→Int→List V→Int→Int→Int→Int→Int→Int→Int→Int→Int→Int→Int→Int→Int→Int→Int→Int→Int→Int→Int→Int→Int→Int→Int→Int→Int→Int→Int→Int→Int→Int→Int→Int→List (List V)→List (List V)→Int→Int→Int→Int→Int→Int→Int→Int→Int→Int→Int→Int→Int→Int→Int→Int→Int→Int→Int→Int→Int→Int→Int→Int→Int→Int→Int→Int→Int→Int→Int→Int→Nat→Nat→List V→List V→List V→Option β
 | 0,_,_,_,_,_,_,_,_,_,_,_,_,_,_,_,_,_,_,_,_,_,_,_,_,_,_,_,_,_,_,_,_,_,_,_,_,_,_,_,_,_,_,_,_,_,_,_,_,_,_,_,_,_,_,_,_,_,_,_,_,_,_,_,_,_,_,_,_,_,_,_,_,_,_,_=>none
 | n+1,p13,p14,p15,b4,zLC,zLD,zLE,zLF,zLG,zLH,zLI,zLJ,zLK,zLL,zK6,zK7,zK8,zK9,zLa,zLb,zLc,zLd,zLe,zLf,zLg,zLh,zLi,zLj,zLk,zLl,zLm,zLn,zLo,zLp,zLq,zLr,zLs,zLt,zKC,zKD,zKE,zKF,zLw,zLx,zLy,zLz,zLA,zLB,zKK,zKL,zKM,zKN,zKO,zKP,zKQ,zKR,zKS,zKT,zKU,zKV,zKW,zKX,zKY,zKZ,zK0,zK1,zK2,zK3,zK4,zK5,zKG,zKJ,b11,b18,b23=>zi6 zg yh zb xe ze zf L p13 p14 p15 b4 zLC zLD zLE zLF zLG zLH zLI zLJ zLK zLL zK6 zK7 zK8 zK9 zLa zLb zLc zLd zLe zLf zLg zLh zLi zLj zLk zLl zLm zLn zLo zLp zLq zLr zLs zLt zKC zKD zKE zKF zLw zLx zLy zLz zLA zLB zKK zKL zKM zKN zKO zKP zKQ zKR zKS zKT zKU zKV zKW zKX zKY zKZ zK0 zK1 zK2 zK3 zK4 zK5 zKG zKJ b11 b18 b23 (fun p13 p14 p15 b4 zLC zLD zLE zLF zLG zLH zLI zLJ zLK zLL zK6 zK7 zK8 zK9 zLa zLb zLc zLd zLe zLf zLg zLh zLi zLj zLk zLl zLm zLn zLo zLp zLq zLr zLs zLt zKC zKD zKE zKF zLw zLx zLy zLz zLA zLB zKK zKL zKM zKN zKO zKP zKQ zKR zKS zKT zKU zKV zKW zKX zKY zKZ zK0 zK1 zK2 zK3 zK4 zK5 zKG zKJ b11 b18 b23=>zeP zg yh zb xe ze zf L k_x0 n p13 p14 p15 b4 zLC zLD zLE zLF zLG zLH zLI zLJ zLK zLL zK6 zK7 zK8 zK9 zLa zLb zLc zLd zLe zLf zLg zLh zLi zLj zLk zLl zLm zLn zLo zLp zLq zLr zLs zLt zKC zKD zKE zKF zLw zLx zLy zLz zLA zLB zKK zKL zKM zKN zKO zKP zKQ zKR zKS zKT zKU zKV zKW zKX zKY zKZ zK0 zK1 zK2 zK3 zK4 zK5 zKG zKJ b11 b18 b23) k_x0
theorem zhh {β:Type} (zg:xP) (yh:xX) (zb:zt) (xe:yK) (ze:yQ) (zf:zQ) (L:Nat) (K:KT β):∀ (n:Nat) (p13 p14 p15:Int) (b4:List V) (zLC zLD zLE zLF zLG zLH zLI zLJ zLK zLL zK6 zK7 zK8 zK9 zLa zLb zLc zLd zLe zLf zLg zLh zLi zLj zLk zLl zLm zLn zLo zLp zLq zLr:Int) (zLs zLt:List (List V)) (zKC zKD zKE zKF zLw zLx zLy zLz zLA zLB zKK zKL zKM zKN zKO zKP zKQ zKR zKS zKT zKU zKV zKW zKX zKY zKZ zK0 zK1 zK2 zK3 zK4 zK5:Int) (zKG zKJ:Nat) (b11 b18 b23:List V),zH (yn yU (zU zg yh zb xe ze zf L) 0 L zZ) zan n (zcn p13 p14 p15 b4 zLC zLD zLE zLF zLG zLH zLI zLJ zLK zLL zK6 zK7 zK8 zK9 zLa zLb zLc zLd zLe zLf zLg zLh zLi zLj zLk zLl zLm zLn zLo zLp zLq zLr zLs zLt zKC zKD zKE zKF zLw zLx zLy zLz zLA zLB zKK zKL zKM zKN zKO zKP zKQ zKR zKS zKT zKU zKV zKW zKX zKY zKZ zK0 zK1 zK2 zK3 zK4 zK5 zKG zKJ b11 b18 b23) K=zeP zg yh zb xe ze zf L (fun p14 b4 zLC zLD zLE zLF zLG zLH zLI zLJ zLK zLL zK6 zK7 zK8 zK9 zLa zLb zLc zLd zLe zLf zLg zLh zLi zLj zLk zLl zLm zLn zLo zLp zLq zLr zLs zLt zKC zKD zKE zKF zLw zLx zLy zLz zLA zLB zKK zKL zKM zKN zKO zKP zKQ zKR zKS zKT zKU zKV zKW zKX zKY zKZ zK0 zK1 zK2 zK3 zK4 zK5 zKG zKJ b11 b18 b23=>K (.exit 0) (zlX p14 b4 zLC zLD zLE zLF zLG zLH zLI zLJ zLK zLL zK6 zK7 zK8 zK9 zLa zLb zLc zLd zLe zLf zLg zLh zLi zLj zLk zLl zLm zLn zLo zLp zLq zLr zLs zLt zKC zKD zKE zKF zLw zLx zLy zLz zLA zLB zKK zKL zKM zKN zKO zKP zKQ zKR zKS zKT zKU zKV zKW zKX zKY zKZ zK0 zK1 zK2 zK3 zK4 zK5 zKG zKJ b11 b18 b23)) n p13 p14 p15 b4 zLC zLD zLE zLF zLG zLH zLI zLJ zLK zLL zK6 zK7 zK8 zK9 zLa zLb zLc zLd zLe zLf zLg zLh zLi zLj zLk zLl zLm zLn zLo zLp zLq zLr zLs zLt zKC zKD zKE zKF zLw zLx zLy zLz zLA zLB zKK zKL zKM zKN zKO zKP zKQ zKR zKS zKT zKU zKV zKW zKX zKY zKZ zK0 zK1 zK2 zK3 zK4 zK5 zKG zKJ b11 b18 b23:=by
 intro n
 induction n with
 | zero=>intros; rfl
 | succ n ih =>
  intro p13 p14 p15 b4 zLC zLD zLE zLF zLG zLH zLI zLJ zLK zLL zK6 zK7 zK8 zK9 zLa zLb zLc zLd zLe zLf zLg zLh zLi zLj zLk zLl zLm zLn zLo zLp zLq zLr zLs zLt zKC zKD zKE zKF zLw zLx zLy zLz zLA zLB zKK zKL zKM zKN zKO zKP zKQ zKR zKS zKT zKU zKV zKW zKX zKY zKZ zK0 zK1 zK2 zK3 zK4 zK5 zKG zKJ b11 b18 b23
  refine (zoI zg yh zb xe ze zf L p13 p14 p15 b4 zLC zLD zLE zLF zLG zLH zLI zLJ zLK zLL zK6 zK7 zK8 zK9 zLa zLb zLc zLd zLe zLf zLg zLh zLi zLj zLk zLl zLm zLn zLo zLp zLq zLr zLs zLt zKC zKD zKE zKF zLw zLx zLy zLz zLA zLB zKK zKL zKM zKN zKO zKP zKQ zKR zKS zKT zKU zKV zKW zKX zKY zKZ zK0 zK1 zK2 zK3 zK4 zK5 zKG zKJ b11 b18 b23 (fun σ=>zH (yn yU (zU zg yh zb xe ze zf L) 0 L zZ) zan n σ K) K).trans ?_
  simp only [ih]
  rfl
def zbN {β:Type} (zg:xP) (yh:xX) (zb:zt) (xe:yK) (ze:yQ) (zf:zQ) (L:Nat) (k_x0v1:zlU β):Nat→Int→Int→Int→List V→Int→Int→Int→Int→Int→Int→Int→Int→Int→Int→Int→Int→Int→Int→Int→Int→Int→Int→Int→Int→Int→Int→Int→Int→Int→Int→Int→Int→Int→Int→Int→Int→List (List V)→List (List V)→Int→Int→Int→Int→Int→Int→Int→Int→Int→Int→Int→Int→Int→Int→Int→Int→Int→Int→Int→Int→Int→Int→Int→Int→Int→Int→Int→Int→Int→Int→Int→Int→Nat→Nat→List V→List V→List V→Option β
 | 0,_,_,_,_,_,_,_,_,_,_,_,_,_,_,_,_,_,_,_,_,_,_,_,_,_,_,_,_,_,_,_,_,_,_,_,_,_,_,_,_,_,_,_,_,_,_,_,_,_,_,_,_,_,_,_,_,_,_,_,_,_,_,_,_,_,_,_,_,_,_,_,_,_,_,_=>none
 | n+1,p13,p14,p15,b4,zLC,zLD,zLE,zLF,zLG,zLH,zLI,zLJ,zLK,zLL,zK6,zK7,zK8,zK9,zLa,zLb,zLc,zLd,zLe,zLf,zLg,zLh,zLi,zLj,zLk,zLl,zLm,zLn,zLo,zLp,zLq,zLr,zLs,zLt,zKC,zKD,zKE,zKF,zLw,zLx,zLy,zLz,zLA,zLB,zKK,zKL,zKM,zKN,zKO,zKP,zKQ,zKR,zKS,zKT,zKU,zKV,zKW,zKX,zKY,zKZ,zK0,zK1,zK2,zK3,zK4,zK5,zKG,zKJ,b11,b18,b23=>zeb zg yh zb xe ze zf L p13 p14 p15 b4 zLC zLD zLE zLF zLG zLH zLI zLJ zLK zLL zK6 zK7 zK8 zK9 zLa zLb zLc zLd zLe zLf zLg zLh zLi zLj zLk zLl zLm zLn zLo zLp zLq zLr zLs zLt zKC zKD zKE zKF zLw zLx zLy zLz zLA zLB zKK zKL zKM zKN zKO zKP zKQ zKR zKS zKT zKU zKV zKW zKX zKY zKZ zK0 zK1 zK2 zK3 zK4 zK5 zKG zKJ b11 b18 b23 (fun p13 p14 p15 b4 zLC zLD zLE zLF zLG zLH zLI zLJ zLK zLL zK6 zK7 zK8 zK9 zLa zLb zLc zLd zLe zLf zLg zLh zLi zLj zLk zLl zLm zLn zLo zLp zLq zLr zLs zLt zKC zKD zKE zKF zLw zLx zLy zLz zLA zLB zKK zKL zKM zKN zKO zKP zKQ zKR zKS zKT zKU zKV zKW zKX zKY zKZ zK0 zK1 zK2 zK3 zK4 zK5 zKG zKJ b11 b18 b23=>zbN zg yh zb xe ze zf L k_x0v1 n p13 p14 p15 b4 zLC zLD zLE zLF zLG zLH zLI zLJ zLK zLL zK6 zK7 zK8 zK9 zLa zLb zLc zLd zLe zLf zLg zLh zLi zLj zLk zLl zLm zLn zLo zLp zLq zLr zLs zLt zKC zKD zKE zKF zLw zLx zLy zLz zLA zLB zKK zKL zKM zKN zKO zKP zKQ zKR zKS zKT zKU zKV zKW zKX zKY zKZ zK0 zK1 zK2 zK3 zK4 zK5 zKG zKJ b11 b18 b23) k_x0v1
theorem zf9 {β:Type} (zg:xP) (yh:xX) (zb:zt) (xe:yK) (ze:yQ) (zf:zQ) (L:Nat) (K:KT β):∀ (n:Nat) (p13 p14 p15:Int) (b4:List V) (zLC zLD zLE zLF zLG zLH zLI zLJ zLK zLL zK6 zK7 zK8 zK9 zLa zLb zLc zLd zLe zLf zLg zLh zLi zLj zLk zLl zLm zLn zLo zLp zLq zLr:Int) (zLs zLt:List (List V)) (zKC zKD zKE zKF zLw zLx zLy zLz zLA zLB zKK zKL zKM zKN zKO zKP zKQ zKR zKS zKT zKU zKV zKW zKX zKY zKZ zK0 zK1 zK2 zK3 zK4 zK5:Int) (zKG zKJ:Nat) (b11 b18 b23:List V),zH (yn yU (zU zg yh zb xe ze zf L) 0 L zZ) zan n (zb6 p13 p14 p15 b4 zLC zLD zLE zLF zLG zLH zLI zLJ zLK zLL zK6 zK7 zK8 zK9 zLa zLb zLc zLd zLe zLf zLg zLh zLi zLj zLk zLl zLm zLn zLo zLp zLq zLr zLs zLt zKC zKD zKE zKF zLw zLx zLy zLz zLA zLB zKK zKL zKM zKN zKO zKP zKQ zKR zKS zKT zKU zKV zKW zKX zKY zKZ zK0 zK1 zK2 zK3 zK4 zK5 zKG zKJ b11 b18 b23) K=zbN zg yh zb xe ze zf L (fun p14 b4 zLC zLD zLE zLF zLG zLH zLI zLJ zLK zLL zK6 zK7 zK8 zK9 zLa zLb zLc zLd zLe zLf zLg zLh zLi zLj zLk zLl zLm zLn zLo zLp zLq zLr zLs zLt zKC zKD zKE zKF zLw zLx zLy zLz zLA zLB zKK zKL zKM zKN zKO zKP zKQ zKR zKS zKT zKU zKV zKW zKX zKY zKZ zK0 zK1 zK2 zK3 zK4 zK5 zKG zKJ b11 b18 b23=>K (.exit 0) (zj7 p14 b4 zLC zLD zLE zLF zLG zLH zLI zLJ zLK zLL zK6 zK7 zK8 zK9 zLa zLb zLc zLd zLe zLf zLg zLh zLi zLj zLk zLl zLm zLn zLo zLp zLq zLr zLs zLt zKC zKD zKE zKF zLw zLx zLy zLz zLA zLB zKK zKL zKM zKN zKO zKP zKQ zKR zKS zKT zKU zKV zKW zKX zKY zKZ zK0 zK1 zK2 zK3 zK4 zK5 zKG zKJ b11 b18 b23)) n p13 p14 p15 b4 zLC zLD zLE zLF zLG zLH zLI zLJ zLK zLL zK6 zK7 zK8 zK9 zLa zLb zLc zLd zLe zLf zLg zLh zLi zLj zLk zLl zLm zLn zLo zLp zLq zLr zLs zLt zKC zKD zKE zKF zLw zLx zLy zLz zLA zLB zKK zKL zKM zKN zKO zKP zKQ zKR zKS zKT zKU zKV zKW zKX zKY zKZ zK0 zK1 zK2 zK3 zK4 zK5 zKG zKJ b11 b18 b23:=by
 intro n
 induction n with
 | zero=>intros; rfl
 | succ n ih =>
  intro p13 p14 p15 b4 zLC zLD zLE zLF zLG zLH zLI zLJ zLK zLL zK6 zK7 zK8 zK9 zLa zLb zLc zLd zLe zLf zLg zLh zLi zLj zLk zLl zLm zLn zLo zLp zLq zLr zLs zLt zKC zKD zKE zKF zLw zLx zLy zLz zLA zLB zKK zKL zKM zKN zKO zKP zKQ zKR zKS zKT zKU zKV zKW zKX zKY zKZ zK0 zK1 zK2 zK3 zK4 zK5 zKG zKJ b11 b18 b23
  refine (zns zg yh zb xe ze zf L p13 p14 p15 b4 zLC zLD zLE zLF zLG zLH zLI zLJ zLK zLL zK6 zK7 zK8 zK9 zLa zLb zLc zLd zLe zLf zLg zLh zLi zLj zLk zLl zLm zLn zLo zLp zLq zLr zLs zLt zKC zKD zKE zKF zLw zLx zLy zLz zLA zLB zKK zKL zKM zKN zKO zKP zKQ zKR zKS zKT zKU zKV zKW zKX zKY zKZ zK0 zK1 zK2 zK3 zK4 zK5 zKG zKJ b11 b18 b23 (fun σ=>zH (yn yU (zU zg yh zb xe ze zf L) 0 L zZ) zan n σ K) K).trans ?_
  simp only [ih]
  rfl
def zm3 {β:Type} (zg:xP) (yh:xX) (zb:zt) (xe:yK) (ze:yQ) (zf:zQ) (L:Nat) (p0 p1:List V) (p2:Int) (k_fin:List V→Bool→Option β):Option β :=
 zrJ zg yh zb xe ze zf L p0 p1 p2 k_fin (fun p13 p14 p15 b4 zLC zLD zLE zLF zLG zLH zLI zLJ zLK zLL zK6 zK7 zK8 zK9 zLa zLb zLc zLd zLe zLf zLg zLh zLi zLj zLk zLl zLm zLn zLo zLp zLq zLr zLs zLt zKC zKD zKE zKF zLw zLx zLy zLz zLA zLB zKK zKL zKM zKN zKO zKP zKQ zKR zKS zKT zKU zKV zKW zKX zKY zKZ zK0 zK1 zK2 zK3 zK4 zK5 zKG zKJ b11 b18 b23=>zeP zg yh zb xe ze zf L (fun p14 b4 zLC zLD zLE zLF zLG zLH zLI zLJ zLK zLL zK6 zK7 zK8 zK9 zLa zLb zLc zLd zLe zLf zLg zLh zLi zLj zLk zLl zLm zLn zLo zLp zLq zLr zLs zLt zKC zKD zKE zKF zLw zLx zLy zLz zLA zLB zKK zKL zKM zKN zKO zKP zKQ zKR zKS zKT zKU zKV zKW zKX zKY zKZ zK0 zK1 zK2 zK3 zK4 zK5 zKG zKJ b11 b18 b23=>zhw zg yh zb xe ze zf L p14 b4 zLC zLD zLE zLF zLG zLH zLI zLJ zLK zLL zK6 zK7 zK8 zK9 zLa zLb zLc zLd zLe zLf zLg zLh zLi zLj zLk zLl zLm zLn zLo zLp zLq zLr zLs zLt zKC zKD zKE zKF zLw zLx zLy zLz zLA zLB zKK zKL zKM zKN zKO zKP zKQ zKR zKS zKT zKU zKV zKW zKX zKY zKZ zK0 zK1 zK2 zK3 zK4 zK5 zKG zKJ b11 b18 b23 k_fin) L p13 p14 p15 b4 zLC zLD zLE zLF zLG zLH zLI zLJ zLK zLL zK6 zK7 zK8 zK9 zLa zLb zLc zLd zLe zLf zLg zLh zLi zLj zLk zLl zLm zLn zLo zLp zLq zLr zLs zLt zKC zKD zKE zKF zLw zLx zLy zLz zLA zLB zKK zKL zKM zKN zKO zKP zKQ zKR zKS zKT zKU zKV zKW zKX zKY zKZ zK0 zK1 zK2 zK3 zK4 zK5 zKG zKJ b11 b18 b23) (fun p13 p14 p15 b4 zLC zLD zLE zLF zLG zLH zLI zLJ zLK zLL zK6 zK7 zK8 zK9 zLa zLb zLc zLd zLe zLf zLg zLh zLi zLj zLk zLl zLm zLn zLo zLp zLq zLr zLs zLt zKC zKD zKE zKF zLw zLx zLy zLz zLA zLB zKK zKL zKM zKN zKO zKP zKQ zKR zKS zKT zKU zKV zKW zKX zKY zKZ zK0 zK1 zK2 zK3 zK4 zK5 zKG zKJ b11 b18 b23=>zbN zg yh zb xe ze zf L (fun p14 b4 zLC zLD zLE zLF zLG zLH zLI zLJ zLK zLL zK6 zK7 zK8 zK9 zLa zLb zLc zLd zLe zLf zLg zLh zLi zLj zLk zLl zLm zLn zLo zLp zLq zLr zLs zLt zKC zKD zKE zKF zLw zLx zLy zLz zLA zLB zKK zKL zKM zKN zKO zKP zKQ zKR zKS zKT zKU zKV zKW zKX zKY zKZ zK0 zK1 zK2 zK3 zK4 zK5 zKG zKJ b11 b18 b23=>zde zg yh zb xe ze zf L p14 b4 zLC zLD zLE zLF zLG zLH zLI zLJ zLK zLL zK6 zK7 zK8 zK9 zLa zLb zLc zLd zLe zLf zLg zLh zLi zLj zLk zLl zLm zLn zLo zLp zLq zLr zLs zLt zKC zKD zKE zKF zLw zLx zLy zLz zLA zLB zKK zKL zKM zKN zKO zKP zKQ zKR zKS zKT zKU zKV zKW zKX zKY zKZ zK0 zK1 zK2 zK3 zK4 zK5 zKG zKJ b11 b18 b23 k_fin) L p13 p14 p15 b4 zLC zLD zLE zLF zLG zLH zLI zLJ zLK zLL zK6 zK7 zK8 zK9 zLa zLb zLc zLd zLe zLf zLg zLh zLi zLj zLk zLl zLm zLn zLo zLp zLq zLr zLs zLt zKC zKD zKE zKF zLw zLx zLy zLz zLA zLB zKK zKL zKM zKN zKO zKP zKQ zKR zKS zKT zKU zKV zKW zKX zKY zKZ zK0 zK1 zK2 zK3 zK4 zK5 zKG zKJ b11 b18 b23)
theorem zz0 {β:Type} (zg:xP) (yh:xX) (zb:zt) (xe:yK) (ze:yQ) (zf:zQ) (L:Nat) (p0 p1:List V) (p2:Int) (k:KK β):xr yU (zU zg yh zb xe ze zf L) L zcV [(V.agg p0),(V.agg p1),(V.sc (.int .u32 p2))] [] k=zm3 zg yh zb xe ze zf L p0 p1 p2 (fun zLN zLO=>k (V.tup [(V.agg zLN),(V.sc (.bool zLO))]) []):=by
 refine (zAJ zg yh zb xe ze zf L p0 p1 p2 k).trans ?_
 unfold zm3
 first
  | (simp only [zhh,znw,zf9,zkY]; done)
  | (simp only [zhh,zf9]; rfl)
abbrev zfb:=∀ (β:Type),Nat→List V→List V→Int→(List V→Bool→Option β)→Option β
def xA (β:Type) (L:Nat) (p0 p1:List V) (p2:Int) (k_fin:List V→Bool→Option β):Option β:=zm3 zg yh zb xe ze zf L p0 p1 p2 k_fin
def zjn (xA:zfb) (L:Nat) (β:Type) (args:List V) (bor:Bor) (k:KK β):Option β:=match args,bor with
 | [a0,a1,a2],[]=>aG a0 fun p0=>aG a1 fun p1=>aI .u32 a2 fun p2=>xA β L p0 p1 p2 (fun zLN zLO=>k (V.tup [(V.agg zLN),(V.sc (.bool zLO))]) [])
 | _,_=>none
theorem zzN (L:Nat) (β:Type) (args:List V) (bor:Bor) (k:KK β) (r:β) (h:zjn xA L β args bor k=some r):xr yU (zU zg yh zb xe ze zf L) L zcV args bor k=some r:=by
 unfold zjn at h
 split at h
 ·have q:=yZ h; clear h; obtain ⟨p0,rfl,h⟩:=q
  have q:=yZ h; clear h; obtain ⟨p1,rfl,h⟩:=q
  have q:=zau h; clear h; obtain ⟨p2,rfl,h⟩:=q
  exact (zz0 zg yh zb xe ze zf L p0 p1 p2 k).trans h
 ·cases h
def zlQ:CF:=⟨81,[.cellS 4 34 true,.tmpP 5],
 (.seq (.reg [oo 2 (.box true (tq 0)),
   oo 3 (.box true (tq 1)),
   oo 4 (.alloc false (rp 32 (.sc (.int .u8 0)) (rp 2 (.gs 5 []) []))),
   oo 5 (.move (.const (.sc (.int .i64 0))) false)])
 (.seq (.seq (.reg [oo 13 (.load true 34 (tq 2) false),
   oo 14 (.call 281 [((tq 13),1)] []),
   oo 15 (.un .not (tq 14))])
 (.cond (tq 15)
 (.seq (.reg [oo 16 (.build (rp 32 (.sc (.int .u8 0)) (rp 2 (.sl 5 []) [])) []),
   oz (.store 34 (tq 4) (tq 16)),
   oo 5 (.move (.const (.sc (.int .i64 6))) false)])
 .ret)
 .skip))
 (.seq (.reg [oo 17 (.fieldAddr 32 (tq 2)),
   oo 18 (.load false 1 (tq 17) false),
   oo 19 (.load true 3 (tq 3) false),
   oo 20 (.call 287 [((tq 18),2),((tq 19),2)] []),
   oo 6 (.move (tq 20) false)])
 (.seq (.seq (.reg [oo 21 (.move (tq 6) false),
   oo 22 (.bin .lss (tq 21) (.const (.sc (.int .i64 0))))])
 (.cond (tq 22)
 (.seq (.reg [oo 23 (.build (rp 32 (.sc (.int .u8 0)) (rp 2 (.sl 5 []) [])) []),
   oz (.store 34 (tq 4) (tq 23)),
   oo 5 (.move (.const (.sc (.int .i64 9))) false)])
 .ret)
 .skip))
 (.seq (.reg [oo 24 (.load true 34 (tq 2) false),
   oo 25 (.call 288 [((tq 24),1)] [15,17]),
   oo 7 (.alloc false (rp 32 (.sc (.int .u8 0)) (rp 2 (.gs 5 []) []))),
   oz (.store 34 (tq 7) (tq 25))])
 (.seq (.reg [oo 26 (.fieldAddr 32 (tq 7)),
   oo 27 (.load false 1 (tq 26) false),
   oo 28 (.move (tq 6) false),
   oo 29 (.indexAddrS 5 (tq 27) (tq 28)),
   oo 30 (.load true 5 (tq 29) false),
   oo 8 (.alloc true [(.sc (.int .i64 0)),(.sc (.int .u32 0)),(.sc (.int .u16 0)),(.sc (.int .u32 0)),(.sc (.int .u32 0))]),
   oz (.store 5 (tq 8) (tq 30))])
 (.seq (.reg [oo 31 (.fieldAddr 32 (tq 7)),
   oo 32 (.load false 1 (tq 31) false),
   oo 33 (.move (tq 6) false),
   oo 34 (.call 289 [((tq 32),0),((tq 33),0)] []),
   oo 35 (.fieldAddr 32 (tq 7)),
   oz (.store 1 (tq 35) (tq 34))])
 (.seq (.reg [oo 36 (.fieldAddr 0 (tq 2)),
   oo 37 (.load true 32 (tq 36) false),
   oo 38 (.fieldAddr 1 (tq 8)),
   oo 39 (.load true 3 (tq 38) false),
   oo 40 (.call 290 [((tq 37),0),((tq 39),0)] []),
   oo 41 (.fieldAddr 0 (tq 8)),
   oz (.store 1 (tq 41) (tq 40))])
 (.seq (.reg [oo 43 (.fieldAddr 33 (tq 7)),
   oo 44 (.load false 1 (tq 43) false),
   oo 45 (.fieldAddr 0 (tq 8)),
   oo 46 (.load false 1 (tq 45) false),
   oo 47 (.call 291 [((tq 44),0),((tq 46),0)] []),
   oo 42 (.move (tq 47) true),
   oo 48 (.pull (tq 42) 0),
   oo 49 (.pull (tq 42) 1),
   oo 9 (.move (tq 48) false),
   oo 10 (.move (tq 49) false)])
 (.seq (.reg [oo 11 (.alloc true [(.sc (.int .u32 0)),(.sc (.int .u16 0)),(.sc (.int .u32 0))])])
 (.seq (.reg [oo 50 (.move (tq 10) false),
   oo 51 (.move (tq 9) false),
   oo 52 (.bin .sub (tq 50) (tq 51)),
   oo 53 (.bin .geq (tq 52) (.const (.sc (.int .i64 8)))),
   oo 12 (.move (tq 53) false)])
 (.seq (.seq (.reg [oo 54 (.move (tq 12) false)])
 (.cond (tq 54)
 (.seq (.reg [oo 55 (.fieldAddr 33 (tq 7)),
   oo 56 (.load false 1 (tq 55) false),
   oo 57 (.move (tq 9) false),
   oo 58 (.indexAddrS 5 (tq 56) (tq 57)),
   oo 59 (.fieldAddr 1 (tq 58)),
   oo 60 (.load true 3 (tq 59) false),
   oz (.store 3 (tq 11) (tq 60))])
 (.reg [oo 61 (.fieldAddr 33 (tq 7)),
   oo 62 (.load false 1 (tq 61) false),
   oo 63 (.move (tq 9) false),
   oo 64 (.call 289 [((tq 62),0),((tq 63),0)] []),
   oo 65 (.fieldAddr 33 (tq 7)),
   oz (.store 1 (tq 65) (tq 64))]))
 .skip))
 (.seq (.reg [oo 66 (.fieldAddr 33 (tq 7)),
   oo 67 (.load false 1 (tq 66) false),
   oo 68 (.load true 5 (tq 8) false),
   oo 69 (.call 292 [((tq 67),0),((tq 68),0)] []),
   oo 70 (.fieldAddr 33 (tq 7)),
   oz (.store 1 (tq 70) (tq 69))])
 (.seq (.seq (.reg [oo 71 (.move (tq 12) false)])
 (.cond (tq 71)
 (.dreg [] [(oo 73 (.load true 34 (tq 7) false),ql 7 [11] []),
   (oo 74 (.load true 3 (tq 11) false),ql 11 [7] []),
   (oo 75 (.load true 3 (tq 11) false),ql 11 [7] []),
   (oo 76 (.call 294 [((tq 75),0)] []),qc [7,11] []),
   (oo 77 (.call 293 [((tq 73),1),((tq 74),0),((tq 76),0)] []),q0),
   (oo 72 (.move (tq 77) true),q0),
   (oo 78 (.pull (tq 72) 0),q0),
   (oo 79 (.pull (tq 72) 1),q0),
   (oz (.store 34 (tq 7) (tq 78)),q0)])
 .skip))
 (.seq (.reg [oo 80 (.load true 34 (tq 7) true),
   oz (.store 34 (tq 4) (tq 80)),
   oo 5 (.move (.const (.sc (.int .i64 0))) false)])
 .ret)))))))))))))))⟩
def zss:Hint:=⟨[(0,0),(3,3),(10,5),(18,5),(19,0)],[],[none,none,none,none,none,none,none],[],[(6,1,[15,17])],true,true⟩
def zpG:Nat→Sh:=xO [(18,(.sl 5)),(46,(.int .i64)),(78,(.row [(.int .u8),(.int .u8),(.int .u8),(.int .u8),(.int .u8),(.int .u8),(.int .u8),(.int .u8),(.int .u8),(.int .u8),(.int .u8),(.int .u8),(.int .u8),(.int .u8),(.int .u8),(.int .u8),(.int .u8),(.int .u8),(.int .u8),(.int .u8),(.int .u8),(.int .u8),(.int .u8),(.int .u8),(.int .u8),(.int .u8),(.int .u8),(.int .u8),(.int .u8),(.int .u8),(.int .u8),(.int .u8),(.sl 5),(.sl 5)]))]
def zpI (yu:zaR) (zd:yI) (zg:xP) (zf:zQ) (yf:xK) (xe:yK) (ze:yQ) (zj:zai) (xA:zfb) (L:Nat):CBC:=(xu 293 (zjn xA L) (xu 294 (zeu zj L) (xu 292 (zg8 ze L) (xu 291 (ze5 xe L) (xu 290 (zdJ yf L) (xu 289 (zhn zf L) (xu 288 (zhc zg L) (xu 287 (zhj zd L) (xu 281 (zfX yu L) noC)))))))))
def zrl {β:Type} (yu:zaR) (zd:yI) (zg:xP) (zf:zQ) (yf:xK) (xe:yK) (ze:yQ) (zj:zai) (xA:zfb) (L:Nat) (p0 p1:List V) (k_fin:List V→Int→Option β):Option β :=
 chk (0+34≤(List.length p0)) (
 yu β L (List.map V.dem (List.take 34 p0)) (fun v0 =>
 ifb (!v0) (
 k_fin (List.replicate 32 (V.sc (.int .u8 (0:Int)))++[(V.sl 5 ([]:List (List V))),(V.sl 5 ([]:List (List V)))]) (6:Int)) (
 cLd 5 p0 32 fun v1 =>
 chk (0+3≤(List.length p1)) (
 zd β L v1 (List.take 3 p1) (fun v2 =>
 ifb (decide (v2 < (0:Int))) (
 k_fin (List.replicate 32 (V.sc (.int .u8 (0:Int)))++[(V.sl 5 ([]:List (List V))),(V.sl 5 ([]:List (List V)))]) (9:Int)) (
 chk (0+34≤(List.length p0)) (
 zg β L (List.map V.dem (List.take 34 p0)) (fun v3 v4 v5 v6 v7 v8 v9 v10 v11 v12 v13 v14 v15 v16 v17 v18 v19 v20 v21 v22 v23 v24 v25 v26 v27 v28 v29 v30 v31 v32 v33 v34 v35 v36 v37 v38 =>
 chk (0≤v2∧v2 < ((v35:Nat):Int)) (
 chk ((0+((Int.toNat v2) * 5))+5≤(List.length v37)) (
 chk ((List.length (List.take 5 (List.drop (0+((Int.toNat v2) * 5)) v37)))=5∧0+5≤5) (
 lt (xg [(V.sc (.int .i64 (0:Int))),(V.sc (.int .u32 (0:Int))),(V.sc (.int .u16 (0:Int))),(V.sc (.int .u32 (0:Int))),(V.sc (.int .u32 (0:Int)))] 0 (List.take 5 (List.drop (0+((Int.toNat v2) * 5)) v37))) fun r39 =>
 ifb (List.isEmpty v37) (
 zf β L (yk 5 v35 v37) v2 (fun v40 =>
 chk (0+32≤(List.length p0)) (
 chk (1+3≤(List.length r39)) (
 yf β L (List.take 32 p0) (List.take 3 (List.drop 1 r39)) (fun v41 =>
 chk (1=1∧0+1≤(List.length r39)) (
 lt (xg r39 0 [(V.sc (.int .i64 v41))]) fun r42 =>
 cI .i64 r42 0 fun v43 =>
 ifb (List.isEmpty v38) (
 xe β L (yk 5 v36 v38) v43 (fun v44 v45 =>
 lt (IntKind.wrap .i64 ((v45:Int) - v44)) fun x46 =>
 ifb (decide (x46 ≥ (8:Int))) (
 chk (0≤v44∧v44 < ((v36:Nat):Int)) (
 chk (((0+((Int.toNat v44) * 5))+1)+3≤(List.length v38)) (
 chk ((List.length (List.take 3 (List.drop ((0+((Int.toNat v44) * 5))+1) v38)))=3∧0+3≤3) (
 lt (xg [(V.sc (.int .u32 (0:Int))),(V.sc (.int .u16 (0:Int))),(V.sc (.int .u32 (0:Int)))] 0 (List.take 3 (List.drop ((0+((Int.toNat v44) * 5))+1) v38))) fun r47 =>
 ifb (List.isEmpty v38) (
 zf β L (yk 5 v36 v38) v44 (fun v48 =>
 chk (0+5≤(List.length r42)) (
 ze β L v48 (List.take 5 r42) (fun v49 =>
 ifb (decide (x46 ≥ (8:Int))) (
 chk (0+3≤(List.length r47)) (
 chk (0+3≤(List.length r47)) (
 zj β L (List.take 3 r47) (fun v50 =>
 xA β L [(V.sc (.int .u8 v3)),(V.sc (.int .u8 v4)),(V.sc (.int .u8 v5)),(V.sc (.int .u8 v6)),(V.sc (.int .u8 v7)),(V.sc (.int .u8 v8)),(V.sc (.int .u8 v9)),(V.sc (.int .u8 v10)),(V.sc (.int .u8 v11)),(V.sc (.int .u8 v12)),(V.sc (.int .u8 v13)),(V.sc (.int .u8 v14)),(V.sc (.int .u8 v15)),(V.sc (.int .u8 v16)),(V.sc (.int .u8 v17)),(V.sc (.int .u8 v18)),(V.sc (.int .u8 v19)),(V.sc (.int .u8 v20)),(V.sc (.int .u8 v21)),(V.sc (.int .u8 v22)),(V.sc (.int .u8 v23)),(V.sc (.int .u8 v24)),(V.sc (.int .u8 v25)),(V.sc (.int .u8 v26)),(V.sc (.int .u8 v27)),(V.sc (.int .u8 v28)),(V.sc (.int .u8 v29)),(V.sc (.int .u8 v30)),(V.sc (.int .u8 v31)),(V.sc (.int .u8 v32)),(V.sc (.int .u8 v33)),(V.sc (.int .u8 v34)),(V.sl 5 v40),(V.sl 5 v49)] (List.take 3 r47) v50 (fun v51 v52 =>
 chk (List.length v51=34) (
 cI .u8 v51 0 fun v53 =>
 cI .u8 v51 1 fun v54 =>
 cI .u8 v51 2 fun v55 =>
 cI .u8 v51 3 fun v56 =>
 cI .u8 v51 4 fun v57 =>
 cI .u8 v51 5 fun v58 =>
 cI .u8 v51 6 fun v59 =>
 cI .u8 v51 7 fun v60 =>
 cI .u8 v51 8 fun v61 =>
 cI .u8 v51 9 fun v62 =>
 cI .u8 v51 10 fun v63 =>
 cI .u8 v51 11 fun v64 =>
 cI .u8 v51 12 fun v65 =>
 cI .u8 v51 13 fun v66 =>
 cI .u8 v51 14 fun v67 =>
 cI .u8 v51 15 fun v68 =>
 cI .u8 v51 16 fun v69 =>
 cI .u8 v51 17 fun v70 =>
 cI .u8 v51 18 fun v71 =>
 cI .u8 v51 19 fun v72 =>
 cI .u8 v51 20 fun v73 =>
 cI .u8 v51 21 fun v74 =>
 cI .u8 v51 22 fun v75 =>
 cI .u8 v51 23 fun v76 =>
 cI .u8 v51 24 fun v77 =>
 cI .u8 v51 25 fun v78 =>
 cI .u8 v51 26 fun v79 =>
 cI .u8 v51 27 fun v80 =>
 cI .u8 v51 28 fun v81 =>
 cI .u8 v51 29 fun v82 =>
 cI .u8 v51 30 fun v83 =>
 cI .u8 v51 31 fun v84 =>
 cL 5 v51 32 fun v85 =>
 cL 5 v51 33 fun v86 =>
 k_fin [(V.sc (.int .u8 v53)),(V.sc (.int .u8 v54)),(V.sc (.int .u8 v55)),(V.sc (.int .u8 v56)),(V.sc (.int .u8 v57)),(V.sc (.int .u8 v58)),(V.sc (.int .u8 v59)),(V.sc (.int .u8 v60)),(V.sc (.int .u8 v61)),(V.sc (.int .u8 v62)),(V.sc (.int .u8 v63)),(V.sc (.int .u8 v64)),(V.sc (.int .u8 v65)),(V.sc (.int .u8 v66)),(V.sc (.int .u8 v67)),(V.sc (.int .u8 v68)),(V.sc (.int .u8 v69)),(V.sc (.int .u8 v70)),(V.sc (.int .u8 v71)),(V.sc (.int .u8 v72)),(V.sc (.int .u8 v73)),(V.sc (.int .u8 v74)),(V.sc (.int .u8 v75)),(V.sc (.int .u8 v76)),(V.sc (.int .u8 v77)),(V.sc (.int .u8 v78)),(V.sc (.int .u8 v79)),(V.sc (.int .u8 v80)),(V.sc (.int .u8 v81)),(V.sc (.int .u8 v82)),(V.sc (.int .u8 v83)),(V.sc (.int .u8 v84)),(V.sl 5 v85),(V.sl 5 v86)] (0:Int))))))) (
 k_fin [(V.sc (.int .u8 v3)),(V.sc (.int .u8 v4)),(V.sc (.int .u8 v5)),(V.sc (.int .u8 v6)),(V.sc (.int .u8 v7)),(V.sc (.int .u8 v8)),(V.sc (.int .u8 v9)),(V.sc (.int .u8 v10)),(V.sc (.int .u8 v11)),(V.sc (.int .u8 v12)),(V.sc (.int .u8 v13)),(V.sc (.int .u8 v14)),(V.sc (.int .u8 v15)),(V.sc (.int .u8 v16)),(V.sc (.int .u8 v17)),(V.sc (.int .u8 v18)),(V.sc (.int .u8 v19)),(V.sc (.int .u8 v20)),(V.sc (.int .u8 v21)),(V.sc (.int .u8 v22)),(V.sc (.int .u8 v23)),(V.sc (.int .u8 v24)),(V.sc (.int .u8 v25)),(V.sc (.int .u8 v26)),(V.sc (.int .u8 v27)),(V.sc (.int .u8 v28)),(V.sc (.int .u8 v29)),(V.sc (.int .u8 v30)),(V.sc (.int .u8 v31)),(V.sc (.int .u8 v32)),(V.sc (.int .u8 v33)),(V.sc (.int .u8 v34)),(V.sl 5 v40),(V.sl 5 v49)] (0:Int)))))) (
 zf β L (yk 5 v36 v38) v44 (fun v87 =>
 chk (0+5≤(List.length r42)) (
 ze β L v87 (List.take 5 r42) (fun v88 =>
 ifb (decide (x46 ≥ (8:Int))) (
 chk (0+3≤(List.length r47)) (
 chk (0+3≤(List.length r47)) (
 zj β L (List.take 3 r47) (fun v89 =>
 xA β L [(V.sc (.int .u8 v3)),(V.sc (.int .u8 v4)),(V.sc (.int .u8 v5)),(V.sc (.int .u8 v6)),(V.sc (.int .u8 v7)),(V.sc (.int .u8 v8)),(V.sc (.int .u8 v9)),(V.sc (.int .u8 v10)),(V.sc (.int .u8 v11)),(V.sc (.int .u8 v12)),(V.sc (.int .u8 v13)),(V.sc (.int .u8 v14)),(V.sc (.int .u8 v15)),(V.sc (.int .u8 v16)),(V.sc (.int .u8 v17)),(V.sc (.int .u8 v18)),(V.sc (.int .u8 v19)),(V.sc (.int .u8 v20)),(V.sc (.int .u8 v21)),(V.sc (.int .u8 v22)),(V.sc (.int .u8 v23)),(V.sc (.int .u8 v24)),(V.sc (.int .u8 v25)),(V.sc (.int .u8 v26)),(V.sc (.int .u8 v27)),(V.sc (.int .u8 v28)),(V.sc (.int .u8 v29)),(V.sc (.int .u8 v30)),(V.sc (.int .u8 v31)),(V.sc (.int .u8 v32)),(V.sc (.int .u8 v33)),(V.sc (.int .u8 v34)),(V.sl 5 v40),(V.sl 5 v88)] (List.take 3 r47) v89 (fun v90 v91 =>
 chk (List.length v90=34) (
 cI .u8 v90 0 fun v92 =>
 cI .u8 v90 1 fun v93 =>
 cI .u8 v90 2 fun v94 =>
 cI .u8 v90 3 fun v95 =>
 cI .u8 v90 4 fun v96 =>
 cI .u8 v90 5 fun v97 =>
 cI .u8 v90 6 fun v98 =>
 cI .u8 v90 7 fun v99 =>
 cI .u8 v90 8 fun zMX =>
 cI .u8 v90 9 fun zMY =>
 cI .u8 v90 10 fun zMZ =>
 cI .u8 v90 11 fun zM0 =>
 cI .u8 v90 12 fun zM1 =>
 cI .u8 v90 13 fun zM2 =>
 cI .u8 v90 14 fun zM3 =>
 cI .u8 v90 15 fun zM4 =>
 cI .u8 v90 16 fun zM5 =>
 cI .u8 v90 17 fun zM6 =>
 cI .u8 v90 18 fun zM7 =>
 cI .u8 v90 19 fun zM8 =>
 cI .u8 v90 20 fun zM9 =>
 cI .u8 v90 21 fun zNa =>
 cI .u8 v90 22 fun zNb =>
 cI .u8 v90 23 fun zNc =>
 cI .u8 v90 24 fun zNd =>
 cI .u8 v90 25 fun zNe =>
 cI .u8 v90 26 fun zNf =>
 cI .u8 v90 27 fun zNg =>
 cI .u8 v90 28 fun zNh =>
 cI .u8 v90 29 fun zNi =>
 cI .u8 v90 30 fun zNj =>
 cI .u8 v90 31 fun zNk =>
 cL 5 v90 32 fun zNl =>
 cL 5 v90 33 fun zNm =>
 k_fin [(V.sc (.int .u8 v92)),(V.sc (.int .u8 v93)),(V.sc (.int .u8 v94)),(V.sc (.int .u8 v95)),(V.sc (.int .u8 v96)),(V.sc (.int .u8 v97)),(V.sc (.int .u8 v98)),(V.sc (.int .u8 v99)),(V.sc (.int .u8 zMX)),(V.sc (.int .u8 zMY)),(V.sc (.int .u8 zMZ)),(V.sc (.int .u8 zM0)),(V.sc (.int .u8 zM1)),(V.sc (.int .u8 zM2)),(V.sc (.int .u8 zM3)),(V.sc (.int .u8 zM4)),(V.sc (.int .u8 zM5)),(V.sc (.int .u8 zM6)),(V.sc (.int .u8 zM7)),(V.sc (.int .u8 zM8)),(V.sc (.int .u8 zM9)),(V.sc (.int .u8 zNa)),(V.sc (.int .u8 zNb)),(V.sc (.int .u8 zNc)),(V.sc (.int .u8 zNd)),(V.sc (.int .u8 zNe)),(V.sc (.int .u8 zNf)),(V.sc (.int .u8 zNg)),(V.sc (.int .u8 zNh)),(V.sc (.int .u8 zNi)),(V.sc (.int .u8 zNj)),(V.sc (.int .u8 zNk)),(V.sl 5 zNl),(V.sl 5 zNm)] (0:Int))))))) (
 k_fin [(V.sc (.int .u8 v3)),(V.sc (.int .u8 v4)),(V.sc (.int .u8 v5)),(V.sc (.int .u8 v6)),(V.sc (.int .u8 v7)),(V.sc (.int .u8 v8)),(V.sc (.int .u8 v9)),(V.sc (.int .u8 v10)),(V.sc (.int .u8 v11)),(V.sc (.int .u8 v12)),(V.sc (.int .u8 v13)),(V.sc (.int .u8 v14)),(V.sc (.int .u8 v15)),(V.sc (.int .u8 v16)),(V.sc (.int .u8 v17)),(V.sc (.int .u8 v18)),(V.sc (.int .u8 v19)),(V.sc (.int .u8 v20)),(V.sc (.int .u8 v21)),(V.sc (.int .u8 v22)),(V.sc (.int .u8 v23)),(V.sc (.int .u8 v24)),(V.sc (.int .u8 v25)),(V.sc (.int .u8 v26)),(V.sc (.int .u8 v27)),(V.sc (.int .u8 v28)),(V.sc (.int .u8 v29)),(V.sc (.int .u8 v30)),(V.sc (.int .u8 v31)),(V.sc (.int .u8 v32)),(V.sc (.int .u8 v33)),(V.sc (.int .u8 v34)),(V.sl 5 v40),(V.sl 5 v88)] (0:Int)))))))))) (
 chk (0+5≤(List.length r42)) (
 ifb (List.isEmpty v38) (
 ze β L (yk 5 v36 v38) (List.take 5 r42) (fun zMM =>
 ifb (decide (x46 ≥ (8:Int))) (
 zj β L [(V.sc (.int .u32 (0:Int))),(V.sc (.int .u16 (0:Int))),(V.sc (.int .u32 (0:Int)))] (fun zNn =>
 xA β L [(V.sc (.int .u8 v3)),(V.sc (.int .u8 v4)),(V.sc (.int .u8 v5)),(V.sc (.int .u8 v6)),(V.sc (.int .u8 v7)),(V.sc (.int .u8 v8)),(V.sc (.int .u8 v9)),(V.sc (.int .u8 v10)),(V.sc (.int .u8 v11)),(V.sc (.int .u8 v12)),(V.sc (.int .u8 v13)),(V.sc (.int .u8 v14)),(V.sc (.int .u8 v15)),(V.sc (.int .u8 v16)),(V.sc (.int .u8 v17)),(V.sc (.int .u8 v18)),(V.sc (.int .u8 v19)),(V.sc (.int .u8 v20)),(V.sc (.int .u8 v21)),(V.sc (.int .u8 v22)),(V.sc (.int .u8 v23)),(V.sc (.int .u8 v24)),(V.sc (.int .u8 v25)),(V.sc (.int .u8 v26)),(V.sc (.int .u8 v27)),(V.sc (.int .u8 v28)),(V.sc (.int .u8 v29)),(V.sc (.int .u8 v30)),(V.sc (.int .u8 v31)),(V.sc (.int .u8 v32)),(V.sc (.int .u8 v33)),(V.sc (.int .u8 v34)),(V.sl 5 v40),(V.sl 5 zMM)] [(V.sc (.int .u32 (0:Int))),(V.sc (.int .u16 (0:Int))),(V.sc (.int .u32 (0:Int)))] zNn (fun zLV zS9 =>
 chk (List.length zLV=34) (
 cI .u8 zLV 0 fun zNo =>
 cI .u8 zLV 1 fun zNp =>
 cI .u8 zLV 2 fun zNq =>
 cI .u8 zLV 3 fun zNr =>
 cI .u8 zLV 4 fun zNs =>
 cI .u8 zLV 5 fun zNt =>
 cI .u8 zLV 6 fun zNu =>
 cI .u8 zLV 7 fun zNv =>
 cI .u8 zLV 8 fun zNw =>
 cI .u8 zLV 9 fun zNx =>
 cI .u8 zLV 10 fun zNy =>
 cI .u8 zLV 11 fun zNz =>
 cI .u8 zLV 12 fun zNA =>
 cI .u8 zLV 13 fun zNB =>
 cI .u8 zLV 14 fun zNC =>
 cI .u8 zLV 15 fun zND =>
 cI .u8 zLV 16 fun zNE =>
 cI .u8 zLV 17 fun zNF =>
 cI .u8 zLV 18 fun zNG =>
 cI .u8 zLV 19 fun zNH =>
 cI .u8 zLV 20 fun zNI =>
 cI .u8 zLV 21 fun zNJ =>
 cI .u8 zLV 22 fun zNK =>
 cI .u8 zLV 23 fun zNL =>
 cI .u8 zLV 24 fun zNM =>
 cI .u8 zLV 25 fun zNN =>
 cI .u8 zLV 26 fun zNO =>
 cI .u8 zLV 27 fun zNP =>
 cI .u8 zLV 28 fun zNQ =>
 cI .u8 zLV 29 fun zNR =>
 cI .u8 zLV 30 fun zNS =>
 cI .u8 zLV 31 fun zNT =>
 cL 5 zLV 32 fun zNU =>
 cL 5 zLV 33 fun zNV =>
 k_fin [(V.sc (.int .u8 zNo)),(V.sc (.int .u8 zNp)),(V.sc (.int .u8 zNq)),(V.sc (.int .u8 zNr)),(V.sc (.int .u8 zNs)),(V.sc (.int .u8 zNt)),(V.sc (.int .u8 zNu)),(V.sc (.int .u8 zNv)),(V.sc (.int .u8 zNw)),(V.sc (.int .u8 zNx)),(V.sc (.int .u8 zNy)),(V.sc (.int .u8 zNz)),(V.sc (.int .u8 zNA)),(V.sc (.int .u8 zNB)),(V.sc (.int .u8 zNC)),(V.sc (.int .u8 zND)),(V.sc (.int .u8 zNE)),(V.sc (.int .u8 zNF)),(V.sc (.int .u8 zNG)),(V.sc (.int .u8 zNH)),(V.sc (.int .u8 zNI)),(V.sc (.int .u8 zNJ)),(V.sc (.int .u8 zNK)),(V.sc (.int .u8 zNL)),(V.sc (.int .u8 zNM)),(V.sc (.int .u8 zNN)),(V.sc (.int .u8 zNO)),(V.sc (.int .u8 zNP)),(V.sc (.int .u8 zNQ)),(V.sc (.int .u8 zNR)),(V.sc (.int .u8 zNS)),(V.sc (.int .u8 zNT)),(V.sl 5 zNU),(V.sl 5 zNV)] (0:Int))))) (
 k_fin [(V.sc (.int .u8 v3)),(V.sc (.int .u8 v4)),(V.sc (.int .u8 v5)),(V.sc (.int .u8 v6)),(V.sc (.int .u8 v7)),(V.sc (.int .u8 v8)),(V.sc (.int .u8 v9)),(V.sc (.int .u8 v10)),(V.sc (.int .u8 v11)),(V.sc (.int .u8 v12)),(V.sc (.int .u8 v13)),(V.sc (.int .u8 v14)),(V.sc (.int .u8 v15)),(V.sc (.int .u8 v16)),(V.sc (.int .u8 v17)),(V.sc (.int .u8 v18)),(V.sc (.int .u8 v19)),(V.sc (.int .u8 v20)),(V.sc (.int .u8 v21)),(V.sc (.int .u8 v22)),(V.sc (.int .u8 v23)),(V.sc (.int .u8 v24)),(V.sc (.int .u8 v25)),(V.sc (.int .u8 v26)),(V.sc (.int .u8 v27)),(V.sc (.int .u8 v28)),(V.sc (.int .u8 v29)),(V.sc (.int .u8 v30)),(V.sc (.int .u8 v31)),(V.sc (.int .u8 v32)),(V.sc (.int .u8 v33)),(V.sc (.int .u8 v34)),(V.sl 5 v40),(V.sl 5 zMM)] (0:Int)))) (
 ze β L (yk 5 v36 v38) (List.take 5 r42) (fun zMN =>
 ifb (decide (x46 ≥ (8:Int))) (
 zj β L [(V.sc (.int .u32 (0:Int))),(V.sc (.int .u16 (0:Int))),(V.sc (.int .u32 (0:Int)))] (fun zNW =>
 xA β L [(V.sc (.int .u8 v3)),(V.sc (.int .u8 v4)),(V.sc (.int .u8 v5)),(V.sc (.int .u8 v6)),(V.sc (.int .u8 v7)),(V.sc (.int .u8 v8)),(V.sc (.int .u8 v9)),(V.sc (.int .u8 v10)),(V.sc (.int .u8 v11)),(V.sc (.int .u8 v12)),(V.sc (.int .u8 v13)),(V.sc (.int .u8 v14)),(V.sc (.int .u8 v15)),(V.sc (.int .u8 v16)),(V.sc (.int .u8 v17)),(V.sc (.int .u8 v18)),(V.sc (.int .u8 v19)),(V.sc (.int .u8 v20)),(V.sc (.int .u8 v21)),(V.sc (.int .u8 v22)),(V.sc (.int .u8 v23)),(V.sc (.int .u8 v24)),(V.sc (.int .u8 v25)),(V.sc (.int .u8 v26)),(V.sc (.int .u8 v27)),(V.sc (.int .u8 v28)),(V.sc (.int .u8 v29)),(V.sc (.int .u8 v30)),(V.sc (.int .u8 v31)),(V.sc (.int .u8 v32)),(V.sc (.int .u8 v33)),(V.sc (.int .u8 v34)),(V.sl 5 v40),(V.sl 5 zMN)] [(V.sc (.int .u32 (0:Int))),(V.sc (.int .u16 (0:Int))),(V.sc (.int .u32 (0:Int)))] zNW (fun zLW zTa =>
 chk (List.length zLW=34) (
 cI .u8 zLW 0 fun zNX =>
 cI .u8 zLW 1 fun zNY =>
 cI .u8 zLW 2 fun zNZ =>
 cI .u8 zLW 3 fun zN0 =>
 cI .u8 zLW 4 fun zN1 =>
 cI .u8 zLW 5 fun zN2 =>
 cI .u8 zLW 6 fun zN3 =>
 cI .u8 zLW 7 fun zN4 =>
 cI .u8 zLW 8 fun zN5 =>
 cI .u8 zLW 9 fun zN6 =>
 cI .u8 zLW 10 fun zN7 =>
 cI .u8 zLW 11 fun zN8 =>
 cI .u8 zLW 12 fun zN9 =>
 cI .u8 zLW 13 fun zOa =>
 cI .u8 zLW 14 fun zOb =>
 cI .u8 zLW 15 fun zOc =>
 cI .u8 zLW 16 fun zOd =>
 cI .u8 zLW 17 fun zOe =>
 cI .u8 zLW 18 fun zOf =>
 cI .u8 zLW 19 fun zOg =>
 cI .u8 zLW 20 fun zOh =>
 cI .u8 zLW 21 fun zOi =>
 cI .u8 zLW 22 fun zOj =>
 cI .u8 zLW 23 fun zOk =>
 cI .u8 zLW 24 fun zOl =>
 cI .u8 zLW 25 fun zOm =>
 cI .u8 zLW 26 fun zOn =>
 cI .u8 zLW 27 fun zOo =>
 cI .u8 zLW 28 fun zOp =>
 cI .u8 zLW 29 fun zOq =>
 cI .u8 zLW 30 fun zOr =>
 cI .u8 zLW 31 fun zOs =>
 cL 5 zLW 32 fun zOt =>
 cL 5 zLW 33 fun zOu =>
 k_fin [(V.sc (.int .u8 zNX)),(V.sc (.int .u8 zNY)),(V.sc (.int .u8 zNZ)),(V.sc (.int .u8 zN0)),(V.sc (.int .u8 zN1)),(V.sc (.int .u8 zN2)),(V.sc (.int .u8 zN3)),(V.sc (.int .u8 zN4)),(V.sc (.int .u8 zN5)),(V.sc (.int .u8 zN6)),(V.sc (.int .u8 zN7)),(V.sc (.int .u8 zN8)),(V.sc (.int .u8 zN9)),(V.sc (.int .u8 zOa)),(V.sc (.int .u8 zOb)),(V.sc (.int .u8 zOc)),(V.sc (.int .u8 zOd)),(V.sc (.int .u8 zOe)),(V.sc (.int .u8 zOf)),(V.sc (.int .u8 zOg)),(V.sc (.int .u8 zOh)),(V.sc (.int .u8 zOi)),(V.sc (.int .u8 zOj)),(V.sc (.int .u8 zOk)),(V.sc (.int .u8 zOl)),(V.sc (.int .u8 zOm)),(V.sc (.int .u8 zOn)),(V.sc (.int .u8 zOo)),(V.sc (.int .u8 zOp)),(V.sc (.int .u8 zOq)),(V.sc (.int .u8 zOr)),(V.sc (.int .u8 zOs)),(V.sl 5 zOt),(V.sl 5 zOu)] (0:Int))))) (
 k_fin [(V.sc (.int .u8 v3)),(V.sc (.int .u8 v4)),(V.sc (.int .u8 v5)),(V.sc (.int .u8 v6)),(V.sc (.int .u8 v7)),(V.sc (.int .u8 v8)),(V.sc (.int .u8 v9)),(V.sc (.int .u8 v10)),(V.sc (.int .u8 v11)),(V.sc (.int .u8 v12)),(V.sc (.int .u8 v13)),(V.sc (.int .u8 v14)),(V.sc (.int .u8 v15)),(V.sc (.int .u8 v16)),(V.sc (.int .u8 v17)),(V.sc (.int .u8 v18)),(V.sc (.int .u8 v19)),(V.sc (.int .u8 v20)),(V.sc (.int .u8 v21)),(V.sc (.int .u8 v22)),(V.sc (.int .u8 v23)),(V.sc (.int .u8 v24)),(V.sc (.int .u8 v25)),(V.sc (.int .u8 v26)),(V.sc (.int .u8 v27)),(V.sc (.int .u8 v28)),(V.sc (.int .u8 v29)),(V.sc (.int .u8 v30)),(V.sc (.int .u8 v31)),(V.sc (.int .u8 v32)),(V.sc (.int .u8 v33)),(V.sc (.int .u8 v34)),(V.sl 5 v40),(V.sl 5 zMN)] (0:Int)))))))) (
 xe β L (yk 5 v36 v38) v43 (fun zMa zOv =>
 lt (IntKind.wrap .i64 ((zOv:Int) - zMa)) fun zMK =>
 ifb (decide (zMK ≥ (8:Int))) (
 chk (0≤zMa∧zMa < ((v36:Nat):Int)) (
 chk (((0+((Int.toNat zMa) * 5))+1)+3≤(List.length v38)) (
 chk ((List.length (List.take 3 (List.drop ((0+((Int.toNat zMa) * 5))+1) v38)))=3∧0+3≤3) (
 lt (xg [(V.sc (.int .u32 (0:Int))),(V.sc (.int .u16 (0:Int))),(V.sc (.int .u32 (0:Int)))] 0 (List.take 3 (List.drop ((0+((Int.toNat zMa) * 5))+1) v38))) fun zMB =>
 zf β L (yk 5 v36 v38) zMa (fun zOw =>
 chk (0+5≤(List.length r42)) (
 ze β L zOw (List.take 5 r42) (fun zMO =>
 ifb (decide (zMK ≥ (8:Int))) (
 chk (0+3≤(List.length zMB)) (
 chk (0+3≤(List.length zMB)) (
 zj β L (List.take 3 zMB) (fun zOx =>
 xA β L [(V.sc (.int .u8 v3)),(V.sc (.int .u8 v4)),(V.sc (.int .u8 v5)),(V.sc (.int .u8 v6)),(V.sc (.int .u8 v7)),(V.sc (.int .u8 v8)),(V.sc (.int .u8 v9)),(V.sc (.int .u8 v10)),(V.sc (.int .u8 v11)),(V.sc (.int .u8 v12)),(V.sc (.int .u8 v13)),(V.sc (.int .u8 v14)),(V.sc (.int .u8 v15)),(V.sc (.int .u8 v16)),(V.sc (.int .u8 v17)),(V.sc (.int .u8 v18)),(V.sc (.int .u8 v19)),(V.sc (.int .u8 v20)),(V.sc (.int .u8 v21)),(V.sc (.int .u8 v22)),(V.sc (.int .u8 v23)),(V.sc (.int .u8 v24)),(V.sc (.int .u8 v25)),(V.sc (.int .u8 v26)),(V.sc (.int .u8 v27)),(V.sc (.int .u8 v28)),(V.sc (.int .u8 v29)),(V.sc (.int .u8 v30)),(V.sc (.int .u8 v31)),(V.sc (.int .u8 v32)),(V.sc (.int .u8 v33)),(V.sc (.int .u8 v34)),(V.sl 5 v40),(V.sl 5 zMO)] (List.take 3 zMB) zOx (fun zLX zTb =>
 chk (List.length zLX=34) (
 cI .u8 zLX 0 fun zOy =>
 cI .u8 zLX 1 fun zOz =>
 cI .u8 zLX 2 fun zOA =>
 cI .u8 zLX 3 fun zOB =>
 cI .u8 zLX 4 fun zOC =>
 cI .u8 zLX 5 fun zOD =>
 cI .u8 zLX 6 fun zOE =>
 cI .u8 zLX 7 fun zOF =>
 cI .u8 zLX 8 fun zOG =>
 cI .u8 zLX 9 fun zOH =>
 cI .u8 zLX 10 fun zOI =>
 cI .u8 zLX 11 fun zOJ =>
 cI .u8 zLX 12 fun zOK =>
 cI .u8 zLX 13 fun zOL =>
 cI .u8 zLX 14 fun zOM =>
 cI .u8 zLX 15 fun zON =>
 cI .u8 zLX 16 fun zOO =>
 cI .u8 zLX 17 fun zOP =>
 cI .u8 zLX 18 fun zOQ =>
 cI .u8 zLX 19 fun zOR =>
 cI .u8 zLX 20 fun zOS =>
 cI .u8 zLX 21 fun zOT =>
 cI .u8 zLX 22 fun zOU =>
 cI .u8 zLX 23 fun zOV =>
 cI .u8 zLX 24 fun zOW =>
 cI .u8 zLX 25 fun zOX =>
 cI .u8 zLX 26 fun zOY =>
 cI .u8 zLX 27 fun zOZ =>
 cI .u8 zLX 28 fun zO0 =>
 cI .u8 zLX 29 fun zO1 =>
 cI .u8 zLX 30 fun zO2 =>
 cI .u8 zLX 31 fun zO3 =>
 cL 5 zLX 32 fun zO4 =>
 cL 5 zLX 33 fun zO5 =>
 k_fin [(V.sc (.int .u8 zOy)),(V.sc (.int .u8 zOz)),(V.sc (.int .u8 zOA)),(V.sc (.int .u8 zOB)),(V.sc (.int .u8 zOC)),(V.sc (.int .u8 zOD)),(V.sc (.int .u8 zOE)),(V.sc (.int .u8 zOF)),(V.sc (.int .u8 zOG)),(V.sc (.int .u8 zOH)),(V.sc (.int .u8 zOI)),(V.sc (.int .u8 zOJ)),(V.sc (.int .u8 zOK)),(V.sc (.int .u8 zOL)),(V.sc (.int .u8 zOM)),(V.sc (.int .u8 zON)),(V.sc (.int .u8 zOO)),(V.sc (.int .u8 zOP)),(V.sc (.int .u8 zOQ)),(V.sc (.int .u8 zOR)),(V.sc (.int .u8 zOS)),(V.sc (.int .u8 zOT)),(V.sc (.int .u8 zOU)),(V.sc (.int .u8 zOV)),(V.sc (.int .u8 zOW)),(V.sc (.int .u8 zOX)),(V.sc (.int .u8 zOY)),(V.sc (.int .u8 zOZ)),(V.sc (.int .u8 zO0)),(V.sc (.int .u8 zO1)),(V.sc (.int .u8 zO2)),(V.sc (.int .u8 zO3)),(V.sl 5 zO4),(V.sl 5 zO5)] (0:Int))))))) (
 k_fin [(V.sc (.int .u8 v3)),(V.sc (.int .u8 v4)),(V.sc (.int .u8 v5)),(V.sc (.int .u8 v6)),(V.sc (.int .u8 v7)),(V.sc (.int .u8 v8)),(V.sc (.int .u8 v9)),(V.sc (.int .u8 v10)),(V.sc (.int .u8 v11)),(V.sc (.int .u8 v12)),(V.sc (.int .u8 v13)),(V.sc (.int .u8 v14)),(V.sc (.int .u8 v15)),(V.sc (.int .u8 v16)),(V.sc (.int .u8 v17)),(V.sc (.int .u8 v18)),(V.sc (.int .u8 v19)),(V.sc (.int .u8 v20)),(V.sc (.int .u8 v21)),(V.sc (.int .u8 v22)),(V.sc (.int .u8 v23)),(V.sc (.int .u8 v24)),(V.sc (.int .u8 v25)),(V.sc (.int .u8 v26)),(V.sc (.int .u8 v27)),(V.sc (.int .u8 v28)),(V.sc (.int .u8 v29)),(V.sc (.int .u8 v30)),(V.sc (.int .u8 v31)),(V.sc (.int .u8 v32)),(V.sc (.int .u8 v33)),(V.sc (.int .u8 v34)),(V.sl 5 v40),(V.sl 5 zMO)] (0:Int))))))))) (
 chk (0+5≤(List.length r42)) (
 ze β L (yk 5 v36 v38) (List.take 5 r42) (fun zMP =>
 ifb (decide (zMK ≥ (8:Int))) (
 zj β L [(V.sc (.int .u32 (0:Int))),(V.sc (.int .u16 (0:Int))),(V.sc (.int .u32 (0:Int)))] (fun zO6 =>
 xA β L [(V.sc (.int .u8 v3)),(V.sc (.int .u8 v4)),(V.sc (.int .u8 v5)),(V.sc (.int .u8 v6)),(V.sc (.int .u8 v7)),(V.sc (.int .u8 v8)),(V.sc (.int .u8 v9)),(V.sc (.int .u8 v10)),(V.sc (.int .u8 v11)),(V.sc (.int .u8 v12)),(V.sc (.int .u8 v13)),(V.sc (.int .u8 v14)),(V.sc (.int .u8 v15)),(V.sc (.int .u8 v16)),(V.sc (.int .u8 v17)),(V.sc (.int .u8 v18)),(V.sc (.int .u8 v19)),(V.sc (.int .u8 v20)),(V.sc (.int .u8 v21)),(V.sc (.int .u8 v22)),(V.sc (.int .u8 v23)),(V.sc (.int .u8 v24)),(V.sc (.int .u8 v25)),(V.sc (.int .u8 v26)),(V.sc (.int .u8 v27)),(V.sc (.int .u8 v28)),(V.sc (.int .u8 v29)),(V.sc (.int .u8 v30)),(V.sc (.int .u8 v31)),(V.sc (.int .u8 v32)),(V.sc (.int .u8 v33)),(V.sc (.int .u8 v34)),(V.sl 5 v40),(V.sl 5 zMP)] [(V.sc (.int .u32 (0:Int))),(V.sc (.int .u16 (0:Int))),(V.sc (.int .u32 (0:Int)))] zO6 (fun zLY zTc =>
 chk (List.length zLY=34) (
 cI .u8 zLY 0 fun zO7 =>
 cI .u8 zLY 1 fun zO8 =>
 cI .u8 zLY 2 fun zO9 =>
 cI .u8 zLY 3 fun zPa =>
 cI .u8 zLY 4 fun zPb =>
 cI .u8 zLY 5 fun zPc =>
 cI .u8 zLY 6 fun zPd =>
 cI .u8 zLY 7 fun zPe =>
 cI .u8 zLY 8 fun zPf =>
 cI .u8 zLY 9 fun zPg =>
 cI .u8 zLY 10 fun zPh =>
 cI .u8 zLY 11 fun zPi =>
 cI .u8 zLY 12 fun zPj =>
 cI .u8 zLY 13 fun zPk =>
 cI .u8 zLY 14 fun zPl =>
 cI .u8 zLY 15 fun zPm =>
 cI .u8 zLY 16 fun zPn =>
 cI .u8 zLY 17 fun zPo =>
 cI .u8 zLY 18 fun zPp =>
 cI .u8 zLY 19 fun zPq =>
 cI .u8 zLY 20 fun zPr =>
 cI .u8 zLY 21 fun zPs =>
 cI .u8 zLY 22 fun zPt =>
 cI .u8 zLY 23 fun zPu =>
 cI .u8 zLY 24 fun zPv =>
 cI .u8 zLY 25 fun zPw =>
 cI .u8 zLY 26 fun zPx =>
 cI .u8 zLY 27 fun zPy =>
 cI .u8 zLY 28 fun zPz =>
 cI .u8 zLY 29 fun zPA =>
 cI .u8 zLY 30 fun zPB =>
 cI .u8 zLY 31 fun zPC =>
 cL 5 zLY 32 fun zPD =>
 cL 5 zLY 33 fun zPE =>
 k_fin [(V.sc (.int .u8 zO7)),(V.sc (.int .u8 zO8)),(V.sc (.int .u8 zO9)),(V.sc (.int .u8 zPa)),(V.sc (.int .u8 zPb)),(V.sc (.int .u8 zPc)),(V.sc (.int .u8 zPd)),(V.sc (.int .u8 zPe)),(V.sc (.int .u8 zPf)),(V.sc (.int .u8 zPg)),(V.sc (.int .u8 zPh)),(V.sc (.int .u8 zPi)),(V.sc (.int .u8 zPj)),(V.sc (.int .u8 zPk)),(V.sc (.int .u8 zPl)),(V.sc (.int .u8 zPm)),(V.sc (.int .u8 zPn)),(V.sc (.int .u8 zPo)),(V.sc (.int .u8 zPp)),(V.sc (.int .u8 zPq)),(V.sc (.int .u8 zPr)),(V.sc (.int .u8 zPs)),(V.sc (.int .u8 zPt)),(V.sc (.int .u8 zPu)),(V.sc (.int .u8 zPv)),(V.sc (.int .u8 zPw)),(V.sc (.int .u8 zPx)),(V.sc (.int .u8 zPy)),(V.sc (.int .u8 zPz)),(V.sc (.int .u8 zPA)),(V.sc (.int .u8 zPB)),(V.sc (.int .u8 zPC)),(V.sl 5 zPD),(V.sl 5 zPE)] (0:Int))))) (
 k_fin [(V.sc (.int .u8 v3)),(V.sc (.int .u8 v4)),(V.sc (.int .u8 v5)),(V.sc (.int .u8 v6)),(V.sc (.int .u8 v7)),(V.sc (.int .u8 v8)),(V.sc (.int .u8 v9)),(V.sc (.int .u8 v10)),(V.sc (.int .u8 v11)),(V.sc (.int .u8 v12)),(V.sc (.int .u8 v13)),(V.sc (.int .u8 v14)),(V.sc (.int .u8 v15)),(V.sc (.int .u8 v16)),(V.sc (.int .u8 v17)),(V.sc (.int .u8 v18)),(V.sc (.int .u8 v19)),(V.sc (.int .u8 v20)),(V.sc (.int .u8 v21)),(V.sc (.int .u8 v22)),(V.sc (.int .u8 v23)),(V.sc (.int .u8 v24)),(V.sc (.int .u8 v25)),(V.sc (.int .u8 v26)),(V.sc (.int .u8 v27)),(V.sc (.int .u8 v28)),(V.sc (.int .u8 v29)),(V.sc (.int .u8 v30)),(V.sc (.int .u8 v31)),(V.sc (.int .u8 v32)),(V.sc (.int .u8 v33)),(V.sc (.int .u8 v34)),(V.sl 5 v40),(V.sl 5 zMP)] (0:Int))))))))))))) (
 zf β L (yk 5 v35 v37) v2 (fun zL5 =>
 chk (0+32≤(List.length p0)) (
 chk (1+3≤(List.length r39)) (
 yf β L (List.take 32 p0) (List.take 3 (List.drop 1 r39)) (fun zPF =>
 chk (1=1∧0+1≤(List.length r39)) (
 lt (xg r39 0 [(V.sc (.int .i64 zPF))]) fun zL6 =>
 cI .i64 zL6 0 fun zMQ =>
 ifb (List.isEmpty v38) (
 xe β L (yk 5 v36 v38) zMQ (fun zL7 zPG =>
 lt (IntKind.wrap .i64 ((zPG:Int) - zL7)) fun zMe =>
 ifb (decide (zMe ≥ (8:Int))) (
 chk (0≤zL7∧zL7 < ((v36:Nat):Int)) (
 chk (((0+((Int.toNat zL7) * 5))+1)+3≤(List.length v38)) (
 chk ((List.length (List.take 3 (List.drop ((0+((Int.toNat zL7) * 5))+1) v38)))=3∧0+3≤3) (
 lt (xg [(V.sc (.int .u32 (0:Int))),(V.sc (.int .u16 (0:Int))),(V.sc (.int .u32 (0:Int)))] 0 (List.take 3 (List.drop ((0+((Int.toNat zL7) * 5))+1) v38))) fun zL8 =>
 ifb (List.isEmpty v38) (
 zf β L (yk 5 v36 v38) zL7 (fun zPH =>
 chk (0+5≤(List.length zL6)) (
 ze β L zPH (List.take 5 zL6) (fun zMR =>
 ifb (decide (zMe ≥ (8:Int))) (
 chk (0+3≤(List.length zL8)) (
 chk (0+3≤(List.length zL8)) (
 zj β L (List.take 3 zL8) (fun zPI =>
 xA β L [(V.sc (.int .u8 v3)),(V.sc (.int .u8 v4)),(V.sc (.int .u8 v5)),(V.sc (.int .u8 v6)),(V.sc (.int .u8 v7)),(V.sc (.int .u8 v8)),(V.sc (.int .u8 v9)),(V.sc (.int .u8 v10)),(V.sc (.int .u8 v11)),(V.sc (.int .u8 v12)),(V.sc (.int .u8 v13)),(V.sc (.int .u8 v14)),(V.sc (.int .u8 v15)),(V.sc (.int .u8 v16)),(V.sc (.int .u8 v17)),(V.sc (.int .u8 v18)),(V.sc (.int .u8 v19)),(V.sc (.int .u8 v20)),(V.sc (.int .u8 v21)),(V.sc (.int .u8 v22)),(V.sc (.int .u8 v23)),(V.sc (.int .u8 v24)),(V.sc (.int .u8 v25)),(V.sc (.int .u8 v26)),(V.sc (.int .u8 v27)),(V.sc (.int .u8 v28)),(V.sc (.int .u8 v29)),(V.sc (.int .u8 v30)),(V.sc (.int .u8 v31)),(V.sc (.int .u8 v32)),(V.sc (.int .u8 v33)),(V.sc (.int .u8 v34)),(V.sl 5 zL5),(V.sl 5 zMR)] (List.take 3 zL8) zPI (fun zLZ zTd =>
 chk (List.length zLZ=34) (
 cI .u8 zLZ 0 fun zPJ =>
 cI .u8 zLZ 1 fun zPK =>
 cI .u8 zLZ 2 fun zPL =>
 cI .u8 zLZ 3 fun zPM =>
 cI .u8 zLZ 4 fun zPN =>
 cI .u8 zLZ 5 fun zPO =>
 cI .u8 zLZ 6 fun zPP =>
 cI .u8 zLZ 7 fun zPQ =>
 cI .u8 zLZ 8 fun zPR =>
 cI .u8 zLZ 9 fun zPS =>
 cI .u8 zLZ 10 fun zPT =>
 cI .u8 zLZ 11 fun zPU =>
 cI .u8 zLZ 12 fun zPV =>
 cI .u8 zLZ 13 fun zPW =>
 cI .u8 zLZ 14 fun zPX =>
 cI .u8 zLZ 15 fun zPY =>
 cI .u8 zLZ 16 fun zPZ =>
 cI .u8 zLZ 17 fun zP0 =>
 cI .u8 zLZ 18 fun zP1 =>
 cI .u8 zLZ 19 fun zP2 =>
 cI .u8 zLZ 20 fun zP3 =>
 cI .u8 zLZ 21 fun zP4 =>
 cI .u8 zLZ 22 fun zP5 =>
 cI .u8 zLZ 23 fun zP6 =>
 cI .u8 zLZ 24 fun zP7 =>
 cI .u8 zLZ 25 fun zP8 =>
 cI .u8 zLZ 26 fun zP9 =>
 cI .u8 zLZ 27 fun zQa =>
 cI .u8 zLZ 28 fun zQb =>
 cI .u8 zLZ 29 fun zQc =>
 cI .u8 zLZ 30 fun zQd =>
 cI .u8 zLZ 31 fun zQe =>
 cL 5 zLZ 32 fun zQf =>
 cL 5 zLZ 33 fun zQg =>
 k_fin [(V.sc (.int .u8 zPJ)),(V.sc (.int .u8 zPK)),(V.sc (.int .u8 zPL)),(V.sc (.int .u8 zPM)),(V.sc (.int .u8 zPN)),(V.sc (.int .u8 zPO)),(V.sc (.int .u8 zPP)),(V.sc (.int .u8 zPQ)),(V.sc (.int .u8 zPR)),(V.sc (.int .u8 zPS)),(V.sc (.int .u8 zPT)),(V.sc (.int .u8 zPU)),(V.sc (.int .u8 zPV)),(V.sc (.int .u8 zPW)),(V.sc (.int .u8 zPX)),(V.sc (.int .u8 zPY)),(V.sc (.int .u8 zPZ)),(V.sc (.int .u8 zP0)),(V.sc (.int .u8 zP1)),(V.sc (.int .u8 zP2)),(V.sc (.int .u8 zP3)),(V.sc (.int .u8 zP4)),(V.sc (.int .u8 zP5)),(V.sc (.int .u8 zP6)),(V.sc (.int .u8 zP7)),(V.sc (.int .u8 zP8)),(V.sc (.int .u8 zP9)),(V.sc (.int .u8 zQa)),(V.sc (.int .u8 zQb)),(V.sc (.int .u8 zQc)),(V.sc (.int .u8 zQd)),(V.sc (.int .u8 zQe)),(V.sl 5 zQf),(V.sl 5 zQg)] (0:Int))))))) (
 k_fin [(V.sc (.int .u8 v3)),(V.sc (.int .u8 v4)),(V.sc (.int .u8 v5)),(V.sc (.int .u8 v6)),(V.sc (.int .u8 v7)),(V.sc (.int .u8 v8)),(V.sc (.int .u8 v9)),(V.sc (.int .u8 v10)),(V.sc (.int .u8 v11)),(V.sc (.int .u8 v12)),(V.sc (.int .u8 v13)),(V.sc (.int .u8 v14)),(V.sc (.int .u8 v15)),(V.sc (.int .u8 v16)),(V.sc (.int .u8 v17)),(V.sc (.int .u8 v18)),(V.sc (.int .u8 v19)),(V.sc (.int .u8 v20)),(V.sc (.int .u8 v21)),(V.sc (.int .u8 v22)),(V.sc (.int .u8 v23)),(V.sc (.int .u8 v24)),(V.sc (.int .u8 v25)),(V.sc (.int .u8 v26)),(V.sc (.int .u8 v27)),(V.sc (.int .u8 v28)),(V.sc (.int .u8 v29)),(V.sc (.int .u8 v30)),(V.sc (.int .u8 v31)),(V.sc (.int .u8 v32)),(V.sc (.int .u8 v33)),(V.sc (.int .u8 v34)),(V.sl 5 zL5),(V.sl 5 zMR)] (0:Int)))))) (
 zf β L (yk 5 v36 v38) zL7 (fun zQh =>
 chk (0+5≤(List.length zL6)) (
 ze β L zQh (List.take 5 zL6) (fun zMS =>
 ifb (decide (zMe ≥ (8:Int))) (
 chk (0+3≤(List.length zL8)) (
 chk (0+3≤(List.length zL8)) (
 zj β L (List.take 3 zL8) (fun zQi =>
 xA β L [(V.sc (.int .u8 v3)),(V.sc (.int .u8 v4)),(V.sc (.int .u8 v5)),(V.sc (.int .u8 v6)),(V.sc (.int .u8 v7)),(V.sc (.int .u8 v8)),(V.sc (.int .u8 v9)),(V.sc (.int .u8 v10)),(V.sc (.int .u8 v11)),(V.sc (.int .u8 v12)),(V.sc (.int .u8 v13)),(V.sc (.int .u8 v14)),(V.sc (.int .u8 v15)),(V.sc (.int .u8 v16)),(V.sc (.int .u8 v17)),(V.sc (.int .u8 v18)),(V.sc (.int .u8 v19)),(V.sc (.int .u8 v20)),(V.sc (.int .u8 v21)),(V.sc (.int .u8 v22)),(V.sc (.int .u8 v23)),(V.sc (.int .u8 v24)),(V.sc (.int .u8 v25)),(V.sc (.int .u8 v26)),(V.sc (.int .u8 v27)),(V.sc (.int .u8 v28)),(V.sc (.int .u8 v29)),(V.sc (.int .u8 v30)),(V.sc (.int .u8 v31)),(V.sc (.int .u8 v32)),(V.sc (.int .u8 v33)),(V.sc (.int .u8 v34)),(V.sl 5 zL5),(V.sl 5 zMS)] (List.take 3 zL8) zQi (fun zL0 zTe =>
 chk (List.length zL0=34) (
 cI .u8 zL0 0 fun zQj =>
 cI .u8 zL0 1 fun zQk =>
 cI .u8 zL0 2 fun zQl =>
 cI .u8 zL0 3 fun zQm =>
 cI .u8 zL0 4 fun zQn =>
 cI .u8 zL0 5 fun zQo =>
 cI .u8 zL0 6 fun zQp =>
 cI .u8 zL0 7 fun zQq =>
 cI .u8 zL0 8 fun zQr =>
 cI .u8 zL0 9 fun zQs =>
 cI .u8 zL0 10 fun zQt =>
 cI .u8 zL0 11 fun zQu =>
 cI .u8 zL0 12 fun zQv =>
 cI .u8 zL0 13 fun zQw =>
 cI .u8 zL0 14 fun zQx =>
 cI .u8 zL0 15 fun zQy =>
 cI .u8 zL0 16 fun zQz =>
 cI .u8 zL0 17 fun zQA =>
 cI .u8 zL0 18 fun zQB =>
 cI .u8 zL0 19 fun zQC =>
 cI .u8 zL0 20 fun zQD =>
 cI .u8 zL0 21 fun zQE =>
 cI .u8 zL0 22 fun zQF =>
 cI .u8 zL0 23 fun zQG =>
 cI .u8 zL0 24 fun zQH =>
 cI .u8 zL0 25 fun zQI =>
 cI .u8 zL0 26 fun zQJ =>
 cI .u8 zL0 27 fun zQK =>
 cI .u8 zL0 28 fun zQL =>
 cI .u8 zL0 29 fun zQM =>
 cI .u8 zL0 30 fun zQN =>
 cI .u8 zL0 31 fun zQO =>
 cL 5 zL0 32 fun zQP =>
 cL 5 zL0 33 fun zQQ =>
 k_fin [(V.sc (.int .u8 zQj)),(V.sc (.int .u8 zQk)),(V.sc (.int .u8 zQl)),(V.sc (.int .u8 zQm)),(V.sc (.int .u8 zQn)),(V.sc (.int .u8 zQo)),(V.sc (.int .u8 zQp)),(V.sc (.int .u8 zQq)),(V.sc (.int .u8 zQr)),(V.sc (.int .u8 zQs)),(V.sc (.int .u8 zQt)),(V.sc (.int .u8 zQu)),(V.sc (.int .u8 zQv)),(V.sc (.int .u8 zQw)),(V.sc (.int .u8 zQx)),(V.sc (.int .u8 zQy)),(V.sc (.int .u8 zQz)),(V.sc (.int .u8 zQA)),(V.sc (.int .u8 zQB)),(V.sc (.int .u8 zQC)),(V.sc (.int .u8 zQD)),(V.sc (.int .u8 zQE)),(V.sc (.int .u8 zQF)),(V.sc (.int .u8 zQG)),(V.sc (.int .u8 zQH)),(V.sc (.int .u8 zQI)),(V.sc (.int .u8 zQJ)),(V.sc (.int .u8 zQK)),(V.sc (.int .u8 zQL)),(V.sc (.int .u8 zQM)),(V.sc (.int .u8 zQN)),(V.sc (.int .u8 zQO)),(V.sl 5 zQP),(V.sl 5 zQQ)] (0:Int))))))) (
 k_fin [(V.sc (.int .u8 v3)),(V.sc (.int .u8 v4)),(V.sc (.int .u8 v5)),(V.sc (.int .u8 v6)),(V.sc (.int .u8 v7)),(V.sc (.int .u8 v8)),(V.sc (.int .u8 v9)),(V.sc (.int .u8 v10)),(V.sc (.int .u8 v11)),(V.sc (.int .u8 v12)),(V.sc (.int .u8 v13)),(V.sc (.int .u8 v14)),(V.sc (.int .u8 v15)),(V.sc (.int .u8 v16)),(V.sc (.int .u8 v17)),(V.sc (.int .u8 v18)),(V.sc (.int .u8 v19)),(V.sc (.int .u8 v20)),(V.sc (.int .u8 v21)),(V.sc (.int .u8 v22)),(V.sc (.int .u8 v23)),(V.sc (.int .u8 v24)),(V.sc (.int .u8 v25)),(V.sc (.int .u8 v26)),(V.sc (.int .u8 v27)),(V.sc (.int .u8 v28)),(V.sc (.int .u8 v29)),(V.sc (.int .u8 v30)),(V.sc (.int .u8 v31)),(V.sc (.int .u8 v32)),(V.sc (.int .u8 v33)),(V.sc (.int .u8 v34)),(V.sl 5 zL5),(V.sl 5 zMS)] (0:Int)))))))))) (
 chk (0+5≤(List.length zL6)) (
 ifb (List.isEmpty v38) (
 ze β L (yk 5 v36 v38) (List.take 5 zL6) (fun zMT =>
 ifb (decide (zMe ≥ (8:Int))) (
 zj β L [(V.sc (.int .u32 (0:Int))),(V.sc (.int .u16 (0:Int))),(V.sc (.int .u32 (0:Int)))] (fun zQR =>
 xA β L [(V.sc (.int .u8 v3)),(V.sc (.int .u8 v4)),(V.sc (.int .u8 v5)),(V.sc (.int .u8 v6)),(V.sc (.int .u8 v7)),(V.sc (.int .u8 v8)),(V.sc (.int .u8 v9)),(V.sc (.int .u8 v10)),(V.sc (.int .u8 v11)),(V.sc (.int .u8 v12)),(V.sc (.int .u8 v13)),(V.sc (.int .u8 v14)),(V.sc (.int .u8 v15)),(V.sc (.int .u8 v16)),(V.sc (.int .u8 v17)),(V.sc (.int .u8 v18)),(V.sc (.int .u8 v19)),(V.sc (.int .u8 v20)),(V.sc (.int .u8 v21)),(V.sc (.int .u8 v22)),(V.sc (.int .u8 v23)),(V.sc (.int .u8 v24)),(V.sc (.int .u8 v25)),(V.sc (.int .u8 v26)),(V.sc (.int .u8 v27)),(V.sc (.int .u8 v28)),(V.sc (.int .u8 v29)),(V.sc (.int .u8 v30)),(V.sc (.int .u8 v31)),(V.sc (.int .u8 v32)),(V.sc (.int .u8 v33)),(V.sc (.int .u8 v34)),(V.sl 5 zL5),(V.sl 5 zMT)] [(V.sc (.int .u32 (0:Int))),(V.sc (.int .u16 (0:Int))),(V.sc (.int .u32 (0:Int)))] zQR (fun zL1 zTf =>
 chk (List.length zL1=34) (
 cI .u8 zL1 0 fun zQS =>
 cI .u8 zL1 1 fun zQT =>
 cI .u8 zL1 2 fun zQU =>
 cI .u8 zL1 3 fun zQV =>
 cI .u8 zL1 4 fun zQW =>
 cI .u8 zL1 5 fun zQX =>
 cI .u8 zL1 6 fun zQY =>
 cI .u8 zL1 7 fun zQZ =>
 cI .u8 zL1 8 fun zQ0 =>
 cI .u8 zL1 9 fun zQ1 =>
 cI .u8 zL1 10 fun zQ2 =>
 cI .u8 zL1 11 fun zQ3 =>
 cI .u8 zL1 12 fun zQ4 =>
 cI .u8 zL1 13 fun zQ5 =>
 cI .u8 zL1 14 fun zQ6 =>
 cI .u8 zL1 15 fun zQ7 =>
 cI .u8 zL1 16 fun zQ8 =>
 cI .u8 zL1 17 fun zQ9 =>
 cI .u8 zL1 18 fun zRa =>
 cI .u8 zL1 19 fun zRb =>
 cI .u8 zL1 20 fun zRc =>
 cI .u8 zL1 21 fun zRd =>
 cI .u8 zL1 22 fun zRe =>
 cI .u8 zL1 23 fun zRf =>
 cI .u8 zL1 24 fun zRg =>
 cI .u8 zL1 25 fun zRh =>
 cI .u8 zL1 26 fun zRi =>
 cI .u8 zL1 27 fun zRj =>
 cI .u8 zL1 28 fun zRk =>
 cI .u8 zL1 29 fun zRl =>
 cI .u8 zL1 30 fun zRm =>
 cI .u8 zL1 31 fun zRn =>
 cL 5 zL1 32 fun zRo =>
 cL 5 zL1 33 fun zRp =>
 k_fin [(V.sc (.int .u8 zQS)),(V.sc (.int .u8 zQT)),(V.sc (.int .u8 zQU)),(V.sc (.int .u8 zQV)),(V.sc (.int .u8 zQW)),(V.sc (.int .u8 zQX)),(V.sc (.int .u8 zQY)),(V.sc (.int .u8 zQZ)),(V.sc (.int .u8 zQ0)),(V.sc (.int .u8 zQ1)),(V.sc (.int .u8 zQ2)),(V.sc (.int .u8 zQ3)),(V.sc (.int .u8 zQ4)),(V.sc (.int .u8 zQ5)),(V.sc (.int .u8 zQ6)),(V.sc (.int .u8 zQ7)),(V.sc (.int .u8 zQ8)),(V.sc (.int .u8 zQ9)),(V.sc (.int .u8 zRa)),(V.sc (.int .u8 zRb)),(V.sc (.int .u8 zRc)),(V.sc (.int .u8 zRd)),(V.sc (.int .u8 zRe)),(V.sc (.int .u8 zRf)),(V.sc (.int .u8 zRg)),(V.sc (.int .u8 zRh)),(V.sc (.int .u8 zRi)),(V.sc (.int .u8 zRj)),(V.sc (.int .u8 zRk)),(V.sc (.int .u8 zRl)),(V.sc (.int .u8 zRm)),(V.sc (.int .u8 zRn)),(V.sl 5 zRo),(V.sl 5 zRp)] (0:Int))))) (
 k_fin [(V.sc (.int .u8 v3)),(V.sc (.int .u8 v4)),(V.sc (.int .u8 v5)),(V.sc (.int .u8 v6)),(V.sc (.int .u8 v7)),(V.sc (.int .u8 v8)),(V.sc (.int .u8 v9)),(V.sc (.int .u8 v10)),(V.sc (.int .u8 v11)),(V.sc (.int .u8 v12)),(V.sc (.int .u8 v13)),(V.sc (.int .u8 v14)),(V.sc (.int .u8 v15)),(V.sc (.int .u8 v16)),(V.sc (.int .u8 v17)),(V.sc (.int .u8 v18)),(V.sc (.int .u8 v19)),(V.sc (.int .u8 v20)),(V.sc (.int .u8 v21)),(V.sc (.int .u8 v22)),(V.sc (.int .u8 v23)),(V.sc (.int .u8 v24)),(V.sc (.int .u8 v25)),(V.sc (.int .u8 v26)),(V.sc (.int .u8 v27)),(V.sc (.int .u8 v28)),(V.sc (.int .u8 v29)),(V.sc (.int .u8 v30)),(V.sc (.int .u8 v31)),(V.sc (.int .u8 v32)),(V.sc (.int .u8 v33)),(V.sc (.int .u8 v34)),(V.sl 5 zL5),(V.sl 5 zMT)] (0:Int)))) (
 ze β L (yk 5 v36 v38) (List.take 5 zL6) (fun zMU =>
 ifb (decide (zMe ≥ (8:Int))) (
 zj β L [(V.sc (.int .u32 (0:Int))),(V.sc (.int .u16 (0:Int))),(V.sc (.int .u32 (0:Int)))] (fun zRq =>
 xA β L [(V.sc (.int .u8 v3)),(V.sc (.int .u8 v4)),(V.sc (.int .u8 v5)),(V.sc (.int .u8 v6)),(V.sc (.int .u8 v7)),(V.sc (.int .u8 v8)),(V.sc (.int .u8 v9)),(V.sc (.int .u8 v10)),(V.sc (.int .u8 v11)),(V.sc (.int .u8 v12)),(V.sc (.int .u8 v13)),(V.sc (.int .u8 v14)),(V.sc (.int .u8 v15)),(V.sc (.int .u8 v16)),(V.sc (.int .u8 v17)),(V.sc (.int .u8 v18)),(V.sc (.int .u8 v19)),(V.sc (.int .u8 v20)),(V.sc (.int .u8 v21)),(V.sc (.int .u8 v22)),(V.sc (.int .u8 v23)),(V.sc (.int .u8 v24)),(V.sc (.int .u8 v25)),(V.sc (.int .u8 v26)),(V.sc (.int .u8 v27)),(V.sc (.int .u8 v28)),(V.sc (.int .u8 v29)),(V.sc (.int .u8 v30)),(V.sc (.int .u8 v31)),(V.sc (.int .u8 v32)),(V.sc (.int .u8 v33)),(V.sc (.int .u8 v34)),(V.sl 5 zL5),(V.sl 5 zMU)] [(V.sc (.int .u32 (0:Int))),(V.sc (.int .u16 (0:Int))),(V.sc (.int .u32 (0:Int)))] zRq (fun zL2 zTg =>
 chk (List.length zL2=34) (
 cI .u8 zL2 0 fun zRr =>
 cI .u8 zL2 1 fun zRs =>
 cI .u8 zL2 2 fun zRt =>
 cI .u8 zL2 3 fun zRu =>
 cI .u8 zL2 4 fun zRv =>
 cI .u8 zL2 5 fun zRw =>
 cI .u8 zL2 6 fun zRx =>
 cI .u8 zL2 7 fun zRy =>
 cI .u8 zL2 8 fun zRz =>
 cI .u8 zL2 9 fun zRA =>
 cI .u8 zL2 10 fun zRB =>
 cI .u8 zL2 11 fun zRC =>
 cI .u8 zL2 12 fun zRD =>
 cI .u8 zL2 13 fun zRE =>
 cI .u8 zL2 14 fun zRF =>
 cI .u8 zL2 15 fun zRG =>
 cI .u8 zL2 16 fun zRH =>
 cI .u8 zL2 17 fun zRI =>
 cI .u8 zL2 18 fun zRJ =>
 cI .u8 zL2 19 fun zRK =>
 cI .u8 zL2 20 fun zRL =>
 cI .u8 zL2 21 fun zRM =>
 cI .u8 zL2 22 fun zRN =>
 cI .u8 zL2 23 fun zRO =>
 cI .u8 zL2 24 fun zRP =>
 cI .u8 zL2 25 fun zRQ =>
 cI .u8 zL2 26 fun zRR =>
 cI .u8 zL2 27 fun zRS =>
 cI .u8 zL2 28 fun zRT =>
 cI .u8 zL2 29 fun zRU =>
 cI .u8 zL2 30 fun zRV =>
 cI .u8 zL2 31 fun zRW =>
 cL 5 zL2 32 fun zRX =>
 cL 5 zL2 33 fun zRY =>
 k_fin [(V.sc (.int .u8 zRr)),(V.sc (.int .u8 zRs)),(V.sc (.int .u8 zRt)),(V.sc (.int .u8 zRu)),(V.sc (.int .u8 zRv)),(V.sc (.int .u8 zRw)),(V.sc (.int .u8 zRx)),(V.sc (.int .u8 zRy)),(V.sc (.int .u8 zRz)),(V.sc (.int .u8 zRA)),(V.sc (.int .u8 zRB)),(V.sc (.int .u8 zRC)),(V.sc (.int .u8 zRD)),(V.sc (.int .u8 zRE)),(V.sc (.int .u8 zRF)),(V.sc (.int .u8 zRG)),(V.sc (.int .u8 zRH)),(V.sc (.int .u8 zRI)),(V.sc (.int .u8 zRJ)),(V.sc (.int .u8 zRK)),(V.sc (.int .u8 zRL)),(V.sc (.int .u8 zRM)),(V.sc (.int .u8 zRN)),(V.sc (.int .u8 zRO)),(V.sc (.int .u8 zRP)),(V.sc (.int .u8 zRQ)),(V.sc (.int .u8 zRR)),(V.sc (.int .u8 zRS)),(V.sc (.int .u8 zRT)),(V.sc (.int .u8 zRU)),(V.sc (.int .u8 zRV)),(V.sc (.int .u8 zRW)),(V.sl 5 zRX),(V.sl 5 zRY)] (0:Int))))) (
 k_fin [(V.sc (.int .u8 v3)),(V.sc (.int .u8 v4)),(V.sc (.int .u8 v5)),(V.sc (.int .u8 v6)),(V.sc (.int .u8 v7)),(V.sc (.int .u8 v8)),(V.sc (.int .u8 v9)),(V.sc (.int .u8 v10)),(V.sc (.int .u8 v11)),(V.sc (.int .u8 v12)),(V.sc (.int .u8 v13)),(V.sc (.int .u8 v14)),(V.sc (.int .u8 v15)),(V.sc (.int .u8 v16)),(V.sc (.int .u8 v17)),(V.sc (.int .u8 v18)),(V.sc (.int .u8 v19)),(V.sc (.int .u8 v20)),(V.sc (.int .u8 v21)),(V.sc (.int .u8 v22)),(V.sc (.int .u8 v23)),(V.sc (.int .u8 v24)),(V.sc (.int .u8 v25)),(V.sc (.int .u8 v26)),(V.sc (.int .u8 v27)),(V.sc (.int .u8 v28)),(V.sc (.int .u8 v29)),(V.sc (.int .u8 v30)),(V.sc (.int .u8 v31)),(V.sc (.int .u8 v32)),(V.sc (.int .u8 v33)),(V.sc (.int .u8 v34)),(V.sl 5 zL5),(V.sl 5 zMU)] (0:Int)))))))) (
 xe β L (yk 5 v36 v38) zMQ (fun zMb zRZ =>
 lt (IntKind.wrap .i64 ((zRZ:Int) - zMb)) fun zML =>
 ifb (decide (zML ≥ (8:Int))) (
 chk (0≤zMb∧zMb < ((v36:Nat):Int)) (
 chk (((0+((Int.toNat zMb) * 5))+1)+3≤(List.length v38)) (
 chk ((List.length (List.take 3 (List.drop ((0+((Int.toNat zMb) * 5))+1) v38)))=3∧0+3≤3) (
 lt (xg [(V.sc (.int .u32 (0:Int))),(V.sc (.int .u16 (0:Int))),(V.sc (.int .u32 (0:Int)))] 0 (List.take 3 (List.drop ((0+((Int.toNat zMb) * 5))+1) v38))) fun zMC =>
 zf β L (yk 5 v36 v38) zMb (fun zR0 =>
 chk (0+5≤(List.length zL6)) (
 ze β L zR0 (List.take 5 zL6) (fun zMV =>
 ifb (decide (zML ≥ (8:Int))) (
 chk (0+3≤(List.length zMC)) (
 chk (0+3≤(List.length zMC)) (
 zj β L (List.take 3 zMC) (fun zR1 =>
 xA β L [(V.sc (.int .u8 v3)),(V.sc (.int .u8 v4)),(V.sc (.int .u8 v5)),(V.sc (.int .u8 v6)),(V.sc (.int .u8 v7)),(V.sc (.int .u8 v8)),(V.sc (.int .u8 v9)),(V.sc (.int .u8 v10)),(V.sc (.int .u8 v11)),(V.sc (.int .u8 v12)),(V.sc (.int .u8 v13)),(V.sc (.int .u8 v14)),(V.sc (.int .u8 v15)),(V.sc (.int .u8 v16)),(V.sc (.int .u8 v17)),(V.sc (.int .u8 v18)),(V.sc (.int .u8 v19)),(V.sc (.int .u8 v20)),(V.sc (.int .u8 v21)),(V.sc (.int .u8 v22)),(V.sc (.int .u8 v23)),(V.sc (.int .u8 v24)),(V.sc (.int .u8 v25)),(V.sc (.int .u8 v26)),(V.sc (.int .u8 v27)),(V.sc (.int .u8 v28)),(V.sc (.int .u8 v29)),(V.sc (.int .u8 v30)),(V.sc (.int .u8 v31)),(V.sc (.int .u8 v32)),(V.sc (.int .u8 v33)),(V.sc (.int .u8 v34)),(V.sl 5 zL5),(V.sl 5 zMV)] (List.take 3 zMC) zR1 (fun zL3 zTh =>
 chk (List.length zL3=34) (
 cI .u8 zL3 0 fun zR2 =>
 cI .u8 zL3 1 fun zR3 =>
 cI .u8 zL3 2 fun zR4 =>
 cI .u8 zL3 3 fun zR5 =>
 cI .u8 zL3 4 fun zR6 =>
 cI .u8 zL3 5 fun zR7 =>
 cI .u8 zL3 6 fun zR8 =>
 cI .u8 zL3 7 fun zR9 =>
 cI .u8 zL3 8 fun zSa =>
 cI .u8 zL3 9 fun zSb =>
 cI .u8 zL3 10 fun zSc =>
 cI .u8 zL3 11 fun zSd =>
 cI .u8 zL3 12 fun zSe =>
 cI .u8 zL3 13 fun zSf =>
 cI .u8 zL3 14 fun zSg =>
 cI .u8 zL3 15 fun zSh =>
 cI .u8 zL3 16 fun zSi =>
 cI .u8 zL3 17 fun zSj =>
 cI .u8 zL3 18 fun zSk =>
 cI .u8 zL3 19 fun zSl =>
 cI .u8 zL3 20 fun zSm =>
 cI .u8 zL3 21 fun zSn =>
 cI .u8 zL3 22 fun zSo =>
 cI .u8 zL3 23 fun zSp =>
 cI .u8 zL3 24 fun zSq =>
 cI .u8 zL3 25 fun zSr =>
 cI .u8 zL3 26 fun zSs =>
 cI .u8 zL3 27 fun zSt =>
 cI .u8 zL3 28 fun zSu =>
 cI .u8 zL3 29 fun zSv =>
 cI .u8 zL3 30 fun zSw =>
 cI .u8 zL3 31 fun zSx =>
 cL 5 zL3 32 fun zSy =>
 cL 5 zL3 33 fun zSz =>
 k_fin [(V.sc (.int .u8 zR2)),(V.sc (.int .u8 zR3)),(V.sc (.int .u8 zR4)),(V.sc (.int .u8 zR5)),(V.sc (.int .u8 zR6)),(V.sc (.int .u8 zR7)),(V.sc (.int .u8 zR8)),(V.sc (.int .u8 zR9)),(V.sc (.int .u8 zSa)),(V.sc (.int .u8 zSb)),(V.sc (.int .u8 zSc)),(V.sc (.int .u8 zSd)),(V.sc (.int .u8 zSe)),(V.sc (.int .u8 zSf)),(V.sc (.int .u8 zSg)),(V.sc (.int .u8 zSh)),(V.sc (.int .u8 zSi)),(V.sc (.int .u8 zSj)),(V.sc (.int .u8 zSk)),(V.sc (.int .u8 zSl)),(V.sc (.int .u8 zSm)),(V.sc (.int .u8 zSn)),(V.sc (.int .u8 zSo)),(V.sc (.int .u8 zSp)),(V.sc (.int .u8 zSq)),(V.sc (.int .u8 zSr)),(V.sc (.int .u8 zSs)),(V.sc (.int .u8 zSt)),(V.sc (.int .u8 zSu)),(V.sc (.int .u8 zSv)),(V.sc (.int .u8 zSw)),(V.sc (.int .u8 zSx)),(V.sl 5 zSy),(V.sl 5 zSz)] (0:Int))))))) (
 k_fin [(V.sc (.int .u8 v3)),(V.sc (.int .u8 v4)),(V.sc (.int .u8 v5)),(V.sc (.int .u8 v6)),(V.sc (.int .u8 v7)),(V.sc (.int .u8 v8)),(V.sc (.int .u8 v9)),(V.sc (.int .u8 v10)),(V.sc (.int .u8 v11)),(V.sc (.int .u8 v12)),(V.sc (.int .u8 v13)),(V.sc (.int .u8 v14)),(V.sc (.int .u8 v15)),(V.sc (.int .u8 v16)),(V.sc (.int .u8 v17)),(V.sc (.int .u8 v18)),(V.sc (.int .u8 v19)),(V.sc (.int .u8 v20)),(V.sc (.int .u8 v21)),(V.sc (.int .u8 v22)),(V.sc (.int .u8 v23)),(V.sc (.int .u8 v24)),(V.sc (.int .u8 v25)),(V.sc (.int .u8 v26)),(V.sc (.int .u8 v27)),(V.sc (.int .u8 v28)),(V.sc (.int .u8 v29)),(V.sc (.int .u8 v30)),(V.sc (.int .u8 v31)),(V.sc (.int .u8 v32)),(V.sc (.int .u8 v33)),(V.sc (.int .u8 v34)),(V.sl 5 zL5),(V.sl 5 zMV)] (0:Int))))))))) (
 chk (0+5≤(List.length zL6)) (
 ze β L (yk 5 v36 v38) (List.take 5 zL6) (fun zMW =>
 ifb (decide (zML ≥ (8:Int))) (
 zj β L [(V.sc (.int .u32 (0:Int))),(V.sc (.int .u16 (0:Int))),(V.sc (.int .u32 (0:Int)))] (fun zSA =>
 xA β L [(V.sc (.int .u8 v3)),(V.sc (.int .u8 v4)),(V.sc (.int .u8 v5)),(V.sc (.int .u8 v6)),(V.sc (.int .u8 v7)),(V.sc (.int .u8 v8)),(V.sc (.int .u8 v9)),(V.sc (.int .u8 v10)),(V.sc (.int .u8 v11)),(V.sc (.int .u8 v12)),(V.sc (.int .u8 v13)),(V.sc (.int .u8 v14)),(V.sc (.int .u8 v15)),(V.sc (.int .u8 v16)),(V.sc (.int .u8 v17)),(V.sc (.int .u8 v18)),(V.sc (.int .u8 v19)),(V.sc (.int .u8 v20)),(V.sc (.int .u8 v21)),(V.sc (.int .u8 v22)),(V.sc (.int .u8 v23)),(V.sc (.int .u8 v24)),(V.sc (.int .u8 v25)),(V.sc (.int .u8 v26)),(V.sc (.int .u8 v27)),(V.sc (.int .u8 v28)),(V.sc (.int .u8 v29)),(V.sc (.int .u8 v30)),(V.sc (.int .u8 v31)),(V.sc (.int .u8 v32)),(V.sc (.int .u8 v33)),(V.sc (.int .u8 v34)),(V.sl 5 zL5),(V.sl 5 zMW)] [(V.sc (.int .u32 (0:Int))),(V.sc (.int .u16 (0:Int))),(V.sc (.int .u32 (0:Int)))] zSA (fun zL4 zTi =>
 chk (List.length zL4=34) (
 cI .u8 zL4 0 fun zSB =>
 cI .u8 zL4 1 fun zSC =>
 cI .u8 zL4 2 fun zSD =>
 cI .u8 zL4 3 fun zSE =>
 cI .u8 zL4 4 fun zSF =>
 cI .u8 zL4 5 fun zSG =>
 cI .u8 zL4 6 fun zSH =>
 cI .u8 zL4 7 fun zSI =>
 cI .u8 zL4 8 fun zSJ =>
 cI .u8 zL4 9 fun zSK =>
 cI .u8 zL4 10 fun zSL =>
 cI .u8 zL4 11 fun zSM =>
 cI .u8 zL4 12 fun zSN =>
 cI .u8 zL4 13 fun zSO =>
 cI .u8 zL4 14 fun zSP =>
 cI .u8 zL4 15 fun zSQ =>
 cI .u8 zL4 16 fun zSR =>
 cI .u8 zL4 17 fun zSS =>
 cI .u8 zL4 18 fun zST =>
 cI .u8 zL4 19 fun zSU =>
 cI .u8 zL4 20 fun zSV =>
 cI .u8 zL4 21 fun zSW =>
 cI .u8 zL4 22 fun zSX =>
 cI .u8 zL4 23 fun zSY =>
 cI .u8 zL4 24 fun zSZ =>
 cI .u8 zL4 25 fun zS0 =>
 cI .u8 zL4 26 fun zS1 =>
 cI .u8 zL4 27 fun zS2 =>
 cI .u8 zL4 28 fun zS3 =>
 cI .u8 zL4 29 fun zS4 =>
 cI .u8 zL4 30 fun zS5 =>
 cI .u8 zL4 31 fun zS6 =>
 cL 5 zL4 32 fun zS7 =>
 cL 5 zL4 33 fun zS8 =>
 k_fin [(V.sc (.int .u8 zSB)),(V.sc (.int .u8 zSC)),(V.sc (.int .u8 zSD)),(V.sc (.int .u8 zSE)),(V.sc (.int .u8 zSF)),(V.sc (.int .u8 zSG)),(V.sc (.int .u8 zSH)),(V.sc (.int .u8 zSI)),(V.sc (.int .u8 zSJ)),(V.sc (.int .u8 zSK)),(V.sc (.int .u8 zSL)),(V.sc (.int .u8 zSM)),(V.sc (.int .u8 zSN)),(V.sc (.int .u8 zSO)),(V.sc (.int .u8 zSP)),(V.sc (.int .u8 zSQ)),(V.sc (.int .u8 zSR)),(V.sc (.int .u8 zSS)),(V.sc (.int .u8 zST)),(V.sc (.int .u8 zSU)),(V.sc (.int .u8 zSV)),(V.sc (.int .u8 zSW)),(V.sc (.int .u8 zSX)),(V.sc (.int .u8 zSY)),(V.sc (.int .u8 zSZ)),(V.sc (.int .u8 zS0)),(V.sc (.int .u8 zS1)),(V.sc (.int .u8 zS2)),(V.sc (.int .u8 zS3)),(V.sc (.int .u8 zS4)),(V.sc (.int .u8 zS5)),(V.sc (.int .u8 zS6)),(V.sl 5 zS7),(V.sl 5 zS8)] (0:Int))))) (
 k_fin [(V.sc (.int .u8 v3)),(V.sc (.int .u8 v4)),(V.sc (.int .u8 v5)),(V.sc (.int .u8 v6)),(V.sc (.int .u8 v7)),(V.sc (.int .u8 v8)),(V.sc (.int .u8 v9)),(V.sc (.int .u8 v10)),(V.sc (.int .u8 v11)),(V.sc (.int .u8 v12)),(V.sc (.int .u8 v13)),(V.sc (.int .u8 v14)),(V.sc (.int .u8 v15)),(V.sc (.int .u8 v16)),(V.sc (.int .u8 v17)),(V.sc (.int .u8 v18)),(V.sc (.int .u8 v19)),(V.sc (.int .u8 v20)),(V.sc (.int .u8 v21)),(V.sc (.int .u8 v22)),(V.sc (.int .u8 v23)),(V.sc (.int .u8 v24)),(V.sc (.int .u8 v25)),(V.sc (.int .u8 v26)),(V.sc (.int .u8 v27)),(V.sc (.int .u8 v28)),(V.sc (.int .u8 v29)),(V.sc (.int .u8 v30)),(V.sc (.int .u8 v31)),(V.sc (.int .u8 v32)),(V.sc (.int .u8 v33)),(V.sc (.int .u8 v34)),(V.sl 5 zL5),(V.sl 5 zMW)] (0:Int))))))))))))))))))))))))
theorem zAB {β:Type} (yu:zaR) (zd:yI) (zg:xP) (zf:zQ) (yf:xK) (xe:yK) (ze:yQ) (zj:zai) (xA:zfb) (L:Nat) (p0 p1:List V) (k:KK β):xr zpG (zpI yu zd zg zf yf xe ze zj xA L) L zlQ [(V.agg p0),(V.agg p1)] [] k=zrl yu zd zg zf yf xe ze zj xA L p0 p1 (fun zLN zLO=>k (V.tup [(V.agg zLN),(V.sc (.int .i64 zLO))]) []):=by kernel_rfl
abbrev zbU:=∀ (β:Type),Nat→List V→List V→(List V→Int→Option β)→Option β
def zy (β:Type) (L:Nat) (p0 p1:List V) (k_fin:List V→Int→Option β):Option β:=zrl yu zd zg zf yf xe ze zj xA L p0 p1 k_fin
def znu (zy:zbU) (L:Nat) (β:Type) (args:List V) (bor:Bor) (k:KK β):Option β:=match args,bor with
 | [a0,a1],[]=>aG a0 fun p0=>aG a1 fun p1=>zy β L p0 p1 (fun zLN zLO=>k (V.tup [(V.agg zLN),(V.sc (.int .i64 zLO))]) [])
 | _,_=>none
theorem zAT (L:Nat) (β:Type) (args:List V) (bor:Bor) (k:KK β) (r:β) (h:znu zy L β args bor k=some r):xr zpG (zpI yu zd zg zf yf xe ze zj xA L) L zlQ args bor k=some r:=by
 unfold znu at h
 split at h
 ·have q:=yZ h; clear h; obtain ⟨p0,rfl,h⟩:=q
  have q:=yZ h; clear h; obtain ⟨p1,rfl,h⟩:=q
  exact (zAB yu zd zg zf yf xe ze zj xA L p0 p1 k).trans h
 ·cases h
def znb:CF:=⟨18,[.cell 2 true 3],
 (.seq (.reg [oo 2 (.alloc true [(.sc (.int .u32 0)),(.sc (.int .u16 0)),(.sc (.int .u32 0))])])
 (.seq (.reg [oo 3 (.move (tq 0) false),
   oo 4 (.call 231 [((tq 3),0),((.const (.sc (.int .i64 6))),0)] []),
   oo 5 (.conv .u32 (tq 4)),
   oo 6 (.bin .shl (tq 5) (.const (.sc (.int .u64 16)))),
   oo 7 (.move (tq 0) false),
   oo 8 (.call 231 [((tq 7),0),((.const (.sc (.int .i64 5))),0)] []),
   oo 9 (.conv .u32 (tq 8)),
   oo 10 (.bin .add (tq 6) (tq 9)),
   oo 11 (.move (tq 0) false),
   oo 12 (.call 231 [((tq 11),0),((.const (.sc (.int .i64 2))),0)] []),
   oo 13 (.conv .u16 (tq 12)),
   oo 14 (.move (tq 0) false),
   oo 15 (.call 231 [((tq 14),0),((.const (.sc (.int .i64 50))),0)] []),
   oo 16 (.conv .u32 (tq 15)),
   oo 17 (.build [(.sc (.int .u32 0)),(.sc (.int .u16 0)),(.sc (.int .u32 0))] [(0,1,(tq 10)),(1,1,(tq 13)),(2,1,(tq 16))]),
   oz (.store 3 (tq 2) (tq 17))])
 .ret))⟩
def zt7:Hint:=⟨[],[],[none],[],[],false,false⟩
def zrj:Nat→Sh:=xO []
def zrd (ya:zl) (L:Nat):CBC:=(xu 231 (zbg ya L) noC)
def zsW {β:Type} (ya:zl) (L:Nat) (zKA:List (List V)) (zKB:Int) (k_fin:List V→List (List V)→Int→Option β):Option β :=
 ya β L (6:Int) zKA zKB (fun v0 v1 v2 =>
 lt (IntKind.wrap .u32 v0) fun x3 =>
 lt (zrq .u32 x3 (16:Int)) fun x4 =>
 ya β L (5:Int) v1 v2 (fun v5 v6 v7 =>
 lt (IntKind.wrap .u32 v5) fun x8 =>
 lt (IntKind.wrap .u32 ((x4:Int)+x8)) fun x9 =>
 ya β L (2:Int) v6 v7 (fun v10 v11 v12 =>
 lt (IntKind.wrap .u16 v10) fun x13 =>
 ya β L (50:Int) v11 v12 (fun v14 v15 v16 =>
 lt (IntKind.wrap .u32 v14) fun x17 =>
 lt [(V.sc (.int .u32 x9)),(V.sc (.int .u16 x13)),(V.sc (.int .u32 x17))] fun r18 =>
 chk (0=0∧(List.length r18)=3∧3≠0) (
 k_fin r18 v15 v16)))))
theorem zBd {β:Type} (ya:zl) (L:Nat) (zKA:List (List V)) (zKB:Int) (k:KK β):xr zrj (zrd ya L) L znb [(V.ptr 0 0)] [(.live false [(V.sl 1 zKA),(V.sc (.int .i64 zKB))])] k=zsW ya L zKA zKB (fun p0 zKA zKB=>k (V.agg p0) [(.live false [(V.sl 1 zKA),(V.sc (.int .i64 zKB))])]):=by kernel_rfl
abbrev yC:=∀ (β:Type),Nat→List (List V)→Int→(List V→List (List V)→Int→Option β)→Option β
def xf (β:Type) (L:Nat) (zKA:List (List V)) (zKB:Int) (k_fin:List V→List (List V)→Int→Option β):Option β:=zsW ya L zKA zKB k_fin
def zir (xf:yC) (L:Nat) (β:Type) (args:List V) (bor:Bor) (k:KK β):Option β:=match args,bor with
 | [a0],[(.live false [w0_0,w0_1])]=>aP 0 0 a0 (aL 1 w0_0 fun zKA=>aI .i64 w0_1 fun zKB=>xf β L zKA zKB (fun p0 zKA zKB=>k (V.agg p0) [(.live false [(V.sl 1 zKA),(V.sc (.int .i64 zKB))])]))
 | _,_=>none
theorem zBz (L:Nat) (β:Type) (args:List V) (bor:Bor) (k:KK β) (r:β) (h:zir xf L β args bor k=some r):xr zrj (zrd ya L) L znb args bor k=some r:=by
 unfold zir at h
 split at h
 ·have q:=zlx h; clear h; obtain ⟨rfl,h⟩:=q
  have q:=z9 h; clear h; obtain ⟨zKA,rfl,h⟩:=q
  have q:=zau h; clear h; obtain ⟨zKB,rfl,h⟩:=q
  exact (zBd ya L zKA zKB k).trans h
 ·cases h
def zkx:CF:=⟨24,[.cell 6 true 34,.tmp 7,.tmp 8],
 (.seq (.reg [oo 3 (.box true (tq 0)),
   oo 4 (.box true (tq 1)),
   oo 6 (.alloc true (rp 32 (.sc (.int .u8 0)) (rp 2 (.gs 5 []) []))),
   oo 7 (.move (.const (.sc (.bool false))) false),
   oo 8 (.move (.const (.sc (.int .i64 0))) false)])
 (.seq (.seq (.reg [oo 11 (.load true 34 (tq 3) false),
   oo 12 (.call 281 [((tq 11),1)] []),
   oo 13 (.un .not (tq 12))])
 (.cond (tq 13)
 (.seq (.reg [oo 14 (.build (rp 32 (.sc (.int .u8 0)) (rp 2 (.sl 5 []) [])) []),
   oz (.store 34 (tq 6) (tq 14)),
   oo 7 (.move (.const (.sc (.bool false))) false),
   oo 8 (.move (.const (.sc (.int .i64 6))) false)])
 .ret)
 .skip))
 (.seq (.reg [oo 16 (.load true 34 (tq 3) false),
   oo 17 (.load true 3 (tq 4) false),
   oo 18 (.move (tq 2) false),
   oo 19 (.call 293 [((tq 16),1),((tq 17),0),((tq 18),0)] []),
   oo 15 (.move (tq 19) true),
   oo 20 (.pull (tq 15) 0),
   oo 21 (.pull (tq 15) 1),
   oo 9 (.alloc true (rp 32 (.sc (.int .u8 0)) (rp 2 (.gs 5 []) []))),
   oz (.store 34 (tq 9) (tq 20)),
   oo 10 (.move (tq 21) false)])
 (.seq (.reg [oo 22 (.load true 34 (tq 9) false),
   oo 23 (.move (tq 10) false),
   oz (.store 34 (tq 6) (tq 22)),
   oo 7 (.move (tq 23) false),
   oo 8 (.move (.const (.sc (.int .i64 0))) false)])
 .ret))))⟩
def zqV:Hint:=⟨[(0,0),(0,2),(3,4),(3,7)],[],[none,none,none],[],[],false,false⟩
def zoy:Nat→Sh:=xO []
def zol (yu:zaR) (xA:zfb) (L:Nat):CBC:=(xu 293 (zjn xA L) (xu 281 (zfX yu L) noC))
def zpW {β:Type} (yu:zaR) (xA:zfb) (L:Nat) (p0 p1:List V) (p2:Int) (k_fin:List V→Bool→Int→Option β):Option β :=
 chk (0+34≤(List.length p0)) (
 yu β L (List.map V.dem (List.take 34 p0)) (fun v0 =>
 ifb (!v0) (
 lt (List.replicate 32 (V.sc (.int .u8 (0:Int)))++[(V.sl 5 ([]:List (List V))),(V.sl 5 ([]:List (List V)))]) fun r1 =>
 chk (0=0∧(List.length r1)=34∧34≠0) (
 k_fin r1 false (6:Int))) (
 chk (0+34≤(List.length p0)) (
 chk (0+3≤(List.length p1)) (
 xA β L (List.map V.dem (List.take 34 p0)) (List.take 3 p1) p2 (fun v2 v3 =>
 chk ((List.length v2)=34∧0+34≤34) (
 lt (xg (List.replicate 32 (V.sc (.int .u8 (0:Int)))++[(V.gs 5 ([]:List (List V))),(V.gs 5 ([]:List (List V)))]) 0 v2) fun r4 =>
 chk (0+34≤(List.length r4)) (
 chk ((List.length (List.take 34 r4))=34∧0+34≤34) (
 lt (xg (List.replicate 32 (V.sc (.int .u8 (0:Int)))++[(V.gs 5 ([]:List (List V))),(V.gs 5 ([]:List (List V)))]) 0 (List.take 34 r4)) fun r5 =>
 chk (0=0∧(List.length r5)=34∧34≠0) (
 k_fin r5 v3 (0:Int)))))))))))
theorem zzg {β:Type} (yu:zaR) (xA:zfb) (L:Nat) (p0 p1:List V) (p2:Int) (k:KK β):xr zoy (zol yu xA L) L zkx [(V.agg p0),(V.agg p1),(V.sc (.int .u32 p2))] [] k=zpW yu xA L p0 p1 p2 (fun zLN zLO zL9=>k (V.tup [(V.agg zLN),(V.sc (.bool zLO)),(V.sc (.int .i64 zL9))]) []):=by kernel_rfl
abbrev zbp:=∀ (β:Type),Nat→List V→List V→Int→(List V→Bool→Int→Option β)→Option β
def zu (β:Type) (L:Nat) (p0 p1:List V) (p2:Int) (k_fin:List V→Bool→Int→Option β):Option β:=zpW yu xA L p0 p1 p2 k_fin
def zlJ (zu:zbp) (L:Nat) (β:Type) (args:List V) (bor:Bor) (k:KK β):Option β:=match args,bor with
 | [a0,a1,a2],[]=>aG a0 fun p0=>aG a1 fun p1=>aI .u32 a2 fun p2=>zu β L p0 p1 p2 (fun zLN zLO zL9=>k (V.tup [(V.agg zLN),(V.sc (.bool zLO)),(V.sc (.int .i64 zL9))]) [])
 | _,_=>none
theorem zy0 (L:Nat) (β:Type) (args:List V) (bor:Bor) (k:KK β) (r:β) (h:zlJ zu L β args bor k=some r):xr zoy (zol yu xA L) L zkx args bor k=some r:=by
 unfold zlJ at h
 split at h
 ·have q:=yZ h; clear h; obtain ⟨p0,rfl,h⟩:=q
  have q:=yZ h; clear h; obtain ⟨p1,rfl,h⟩:=q
  have q:=zau h; clear h; obtain ⟨p2,rfl,h⟩:=q
  exact (zzg yu xA L p0 p1 p2 k).trans h
 ·cases h
def zeJ:CC:=(.seq (.seq (.reg [oo 10 (.move (tq 4) false),
   oo 11 (.bin .gtr (tq 10) (.const (.sc (.int .i64 0))))])
 (.cond (tq 11)
 .skip
 (.seq (.mask (bl 12 49) (bl 313358403731439 49))
 (.exit 0))))
 (.seq (.block 1 (.seq (.reg [oo 14 (.move (tq 0) false),
   oo 15 (.call 231 [((tq 14),0),((.const (.sc (.int .i64 4))),0)] [])])
 (.block 2 (.seq (.reg [oo 28 (.bin .eql (tq 15) (.const (.sc (.int .i64 0)))),
   oo 27 (.move (tq 28) false)])
 (.cond (tq 27)
 (.seq (.reg [oo 29 (.fieldAddr 32 (tq 3)),
   oo 30 (.load false 1 (tq 29) false),
   oo 31 (.lenS (tq 30)),
   oo 32 (.bin .gtr (tq 31) (.const (.sc (.int .i64 0))))])
 (.cond (tq 32)
 (.dreg [] [(oo 34 (.load true 34 (tq 3) false),{ q1 with root:=some 3 }),
   (oo 35 (.fieldAddr 32 (tq 3)),q0),
   (oo 36 (.load false 1 (tq 35) false),{ q1 with root:=some 3 }),
   (oo 37 (.move (tq 0) false),q0),
   (oo 38 (.fieldAddr 32 (tq 3)),q0),
   (oo 39 (.load false 1 (tq 38) false),{ q1 with root:=some 3 }),
   (oo 40 (.lenS (tq 39)),q0),
   (oo 41 (.call 231 [((tq 37),0),((tq 40),0)] []),{ q0 with w:=[3] }),
   (oo 42 (.indexAddrS 5 (tq 36) (tq 41)),q0),
   (oo 43 (.fieldAddr 1 (tq 42)),q0),
   (oo 44 (.load true 3 (tq 43) false),q1),
   (oo 45 (.call 272 [((tq 34),1),((tq 44),0)] []),q0),
   (oo 33 (.move (tq 45) true),q0),
   (oo 46 (.pull (tq 33) 0),q0),
   (oo 47 (.pull (tq 33) 1),q0),
   (oz (.store 34 (tq 3) (tq 46)),q0)])
 .skip))
 (.dreg [] [(oo 17 (.load true 34 (tq 3) false),ql 3 [] []),
   (oo 18 (.move (tq 0) false),q0),
   (oo 19 (.call 262 [((tq 18),0)] []),qc [3] []),
   (oo 20 (.move (tq 0) false),q0),
   (oo 21 (.call 231 [((tq 20),0),((.const (.sc (.int .i64 4))),0)] []),qc [3] []),
   (oo 22 (.conv .u32 (tq 21)),q0),
   (oo 23 (.call 273 [((tq 17),1),((tq 19),0),((tq 22),0)] []),q0),
   (oo 16 (.move (tq 23) true),q0),
   (oo 24 (.pull (tq 16) 0),q0),
   (oo 25 (.pull (tq 16) 1),q0),
   (oo 26 (.pull (tq 16) 2),q0),
   (oz (.store 34 (tq 3) (tq 24)),q0)]))))))
 (.reg [oo 12 (.move (tq 4) false),
   oo 13 (.bin .sub (tq 12) (.const (.sc (.int .i64 1)))),
   oo 4 (.move (tq 13) false)])))
def zoz:CC:=(.seq (.reg [oo 48 (.load true 34 (tq 3) false),
   oz (.store 34 (tq 2) (tq 48))])
 .ret)
def zfh:CF:=⟨49,[.cell 2 true 34],
 (.seq (.reg [oo 2 (.alloc true (rp 32 (.sc (.int .u8 0)) (rp 2 (.gs 5 []) [])))])
 (.seq (.reg [oo 5 (.move (tq 0) false),
   oo 6 (.call 236 [((tq 5),0)] []),
   oo 7 (.build (rp 32 (.sc (.int .u8 0)) (rp 2 (.sl 5 []) [])) [(0,32,(tq 6))]),
   oo 3 (.alloc true (rp 32 (.sc (.int .u8 0)) (rp 2 (.gs 5 []) []))),
   oz (.store 34 (tq 3) (tq 7))])
 (.seq (.seq (.reg [oo 8 (.move (tq 0) false),
   oo 9 (.call 231 [((tq 8),0),((.const (.sc (.int .i64 40))),0)] []),
   oo 4 (.move (tq 9) false)])
 (.block 0 (.loop (bl 29 49) (bl 313358403731455 49)
 zeJ)))
 zoz)))⟩
def zug:Hint:=⟨[(0,0),(1,3),(9,12),(6,7)],[],[none,some ((bl 29 49),(bl 313358403731455 49)),none,some ((bl 12 49),(bl 313358403731439 49)),none,none,none,none,none],[],[],false,false⟩
def zcM:Nat→Sh:=xO [(30,(.sl 5)),(36,(.sl 5)),(39,(.sl 5))]
def zcK (zA:zci) (ya:zl) (zy:zbU) (xf:yC) (zu:zbp) (L:Nat):CBC:=(xu 273 (zlJ zu L) (xu 262 (zir xf L) (xu 272 (znu zy L) (xu 231 (zbg ya L) (xu 236 (zoN zA L) noC)))))
def zhQ:St→St:=zac 1 (bl 29 49) (bl 313358403731455 49)
def zfz (p4:Int) (zKA:List (List V)) (zKB:Int) (b3 b4:List V):St:=⟨((V.ptr 0 0)::(jn 1 ((V.ptr 3 0)::((V.ptr 4 0)::((V.sc (.int .i64 p4))::(jn 44 [])))))),((.live false [(V.sl 1 zKA),(V.sc (.int .i64 zKB))])::(gn 2 ((.live true b3)::((.live true b4)::(gn 45 [])))))⟩
def znd (zKA:List (List V)) (zKB:Int) (b3 b4:List V):St:=⟨(jn 2 ((V.ptr 3 0)::((V.ptr 4 0)::(jn 45 [])))),((.live false [(V.sl 1 zKA),(V.sc (.int .i64 zKB))])::(gn 2 ((.live true b3)::((.live true b4)::(gn 45 [])))))⟩
def zta {β:Type} (zA:zci) (ya:zl) (zy:zbU) (xf:yC) (zu:zbp) (L:Nat) (zKA:List (List V)) (zKB:Int) (k_hbbaba:Int→List (List V)→Int→List V→List V→Option β):Option β :=
 zA β L zKA zKB (fun v0 v1 v2 =>
 chk ((List.length v0)=32∧0+32≤34) (
 chk ((List.length (xg (List.replicate 32 (V.sc (.int .u8 (0:Int)))++[(V.sl 5 ([]:List (List V))),(V.sl 5 ([]:List (List V)))]) 0 v0))=34∧0+34≤34) (
 lt (xg (List.replicate 32 (V.sc (.int .u8 (0:Int)))++[(V.gs 5 ([]:List (List V))),(V.gs 5 ([]:List (List V)))]) 0 (xg (List.replicate 32 (V.sc (.int .u8 (0:Int)))++[(V.sl 5 ([]:List (List V))),(V.sl 5 ([]:List (List V)))]) 0 v0)) fun r3 =>
 ya β L (40:Int) v1 v2 (fun v4 v5 v6 =>
 k_hbbaba v4 v5 v6 (List.replicate 32 (V.sc (.int .u8 (0:Int)))++[(V.gs 5 ([]:List (List V))),(V.gs 5 ([]:List (List V)))]) r3))))
theorem zA9 {β:Type} (zA:zci) (ya:zl) (zy:zbU) (xf:yC) (zu:zbp) (L:Nat) (zKA:List (List V)) (zKB:Int) (k:KK β):xr zcM (zcK zA ya zy xf zu L) L zfh [(V.ptr 0 0)] [(.live false [(V.sl 1 zKA),(V.sc (.int .i64 zKB))])] k=zta zA ya zy xf zu L zKA zKB (fun p4 zKA zKB b3 b4=>zH (yn zcM (zcK zA ya zy xf zu L) 1 L zeJ) zhQ L (zfz p4 zKA zKB b3 b4) (yH 0 (zV (yn zcM (zcK zA ya zy xf zu L) 1 L zoz) (y6 1 (CF.res zfh) k)))):=by kernel_rfl
def zdN {β:Type} (zA:zci) (ya:zl) (zy:zbU) (xf:yC) (zu:zbp) (L:Nat) (p4:Int) (zKA:List (List V)) (zKB:Int) (b3 b4:List V) (k_hbbaba:Int→List (List V)→Int→List V→List V→Option β) (k_x0:List (List V)→Int→List V→List V→Option β):Option β :=
 ifb (decide (p4 > (0:Int))) (
 ya β L (4:Int) zKA zKB (fun v7 v8 v9 =>
 ifb ((v7:Int) == (0:Int)) (
 cLd 5 b4 32 fun v10 =>
 ifb (decide (((List.length v10:Nat):Int) > (0:Int))) (
 chk (0+34≤(List.length b4)) (
 cLd 5 b4 32 fun v11 =>
 cLd 5 b4 32 fun v12 =>
 ya β L ((List.length v12:Nat):Int) v8 v9 (fun v13 v14 v15 =>
 idx v11 v13 fun c16 =>
 zy β L (List.map V.dem (List.take 34 b4)) (List.take 3 (List.drop 1 c16)) (fun v17 v18 =>
 chk ((List.length v17)=34∧0+34≤(List.length b4)) (
 lt (xg b4 0 v17) fun r19 =>
 lt (IntKind.wrap .i64 ((p4:Int) - (1:Int))) fun x20 =>
 k_hbbaba x20 v14 v15 b3 r19))))) (
 lt (IntKind.wrap .i64 ((p4:Int) - (1:Int))) fun x21 =>
 k_hbbaba x21 v8 v9 b3 b4)) (
 chk (0+34≤(List.length b4)) (
 xf β L v8 v9 (fun v22 v23 v24 =>
 ya β L (4:Int) v23 v24 (fun v25 v26 v27 =>
 lt (IntKind.wrap .u32 v25) fun x28 =>
 zu β L (List.map V.dem (List.take 34 b4)) v22 x28 (fun v29 v30 v31 =>
 chk ((List.length v29)=34∧0+34≤(List.length b4)) (
 lt (xg b4 0 v29) fun r32 =>
 lt (IntKind.wrap .i64 ((p4:Int) - (1:Int))) fun x33 =>
 k_hbbaba x33 v26 v27 b3 r32)))))))) (
 k_x0 zKA zKB b3 b4)
theorem zvD {β:Type} (zA:zci) (ya:zl) (zy:zbU) (xf:yC) (zu:zbp) (L:Nat) (p4:Int) (zKA:List (List V)) (zKB:Int) (b3 b4:List V) (X:St→Option β) (K:KT β):yn zcM (zcK zA ya zy xf zu L) 1 L zeJ (zfz p4 zKA zKB b3 b4) (zcC zhQ X K)=zdN zA ya zy xf zu L p4 zKA zKB b3 b4 (fun p4 zKA zKB b3 b4=>X (zfz p4 zKA zKB b3 b4)) (fun zKA zKB b3 b4=>K (.exit 0) (znd zKA zKB b3 b4)):=by kernel_rfl
def zjH {β:Type} (zA:zci) (ya:zl) (zy:zbU) (xf:yC) (zu:zbp) (L:Nat) (zKA:List (List V)) (zKB:Int) (b3 b4:List V) (k_fin:List V→List (List V)→Int→Option β):Option β :=
 chk (0+34≤(List.length b4)) (
 chk ((List.length (List.take 34 b4))=34∧0+34≤(List.length b3)) (
 lt (xg b3 0 (List.take 34 b4)) fun r34 =>
 chk (0=0∧(List.length r34)=34∧34≠0) (
 k_fin r34 zKA zKB)))
theorem ztL {β:Type} (zA:zci) (ya:zl) (zy:zbU) (xf:yC) (zu:zbp) (L:Nat) (zKA:List (List V)) (zKB:Int) (b3 b4:List V) (k:KK β):(yH 0 (zV (yn zcM (zcK zA ya zy xf zu L) 1 L zoz) (y6 1 (CF.res zfh) k))) (.exit 0) (znd zKA zKB b3 b4)=zjH zA ya zy xf zu L zKA zKB b3 b4 (fun p0 zKA zKB=>k (V.agg p0) [(.live false [(V.sl 1 zKA),(V.sc (.int .i64 zKB))])]):=by kernel_rfl
def zca {β:Type} (zA:zci) (ya:zl) (zy:zbU) (xf:yC) (zu:zbp) (L:Nat) (k_x0:List (List V)→Int→List V→List V→Option β):Nat→Int→List (List V)→Int→List V→List V→Option β
 | 0,_,_,_,_,_=>none
 | n+1,p4,zKA,zKB,b3,b4=>zdN zA ya zy xf zu L p4 zKA zKB b3 b4 (fun p4 zKA zKB b3 b4=>zca zA ya zy xf zu L k_x0 n p4 zKA zKB b3 b4) k_x0
theorem znZ {β:Type} (zA:zci) (ya:zl) (zy:zbU) (xf:yC) (zu:zbp) (L:Nat) (K:KT β):∀ (n:Nat) (p4:Int) (zKA:List (List V)) (zKB:Int) (b3 b4:List V),zH (yn zcM (zcK zA ya zy xf zu L) 1 L zeJ) zhQ n (zfz p4 zKA zKB b3 b4) K=zca zA ya zy xf zu L (fun zKA zKB b3 b4=>K (.exit 0) (znd zKA zKB b3 b4)) n p4 zKA zKB b3 b4:=by
 intro n
 induction n with
 | zero=>intros; rfl
 | succ n ih =>
  intro p4 zKA zKB b3 b4
  refine (zvD zA ya zy xf zu L p4 zKA zKB b3 b4 (fun σ=>zH (yn zcM (zcK zA ya zy xf zu L) 1 L zeJ) zhQ n σ K) K).trans ?_
  simp only [ih]
  rfl
def zoV {β:Type} (zA:zci) (ya:zl) (zy:zbU) (xf:yC) (zu:zbp) (L:Nat) (zKA:List (List V)) (zKB:Int) (k_fin:List V→List (List V)→Int→Option β):Option β :=
 zta zA ya zy xf zu L zKA zKB (fun p4 zKA zKB b3 b4=>zca zA ya zy xf zu L (fun zKA zKB b3 b4=>zjH zA ya zy xf zu L zKA zKB b3 b4 k_fin) L p4 zKA zKB b3 b4)
theorem zBF {β:Type} (zA:zci) (ya:zl) (zy:zbU) (xf:yC) (zu:zbp) (L:Nat) (zKA:List (List V)) (zKB:Int) (k:KK β):xr zcM (zcK zA ya zy xf zu L) L zfh [(V.ptr 0 0)] [(.live false [(V.sl 1 zKA),(V.sc (.int .i64 zKB))])] k=zoV zA ya zy xf zu L zKA zKB (fun p0 zKA zKB=>k (V.agg p0) [(.live false [(V.sl 1 zKA),(V.sc (.int .i64 zKB))])]):=by
 refine (zA9 zA ya zy xf zu L zKA zKB k).trans ?_
 unfold zoV
 first
  | (simp only [znZ,ztL]; done)
  | (simp only [znZ]; rfl)
abbrev xy:=∀ (β:Type),Nat→List (List V)→Int→(List V→List (List V)→Int→Option β)→Option β
def xd (β:Type) (L:Nat) (zKA:List (List V)) (zKB:Int) (k_fin:List V→List (List V)→Int→Option β):Option β:=zoV zA ya zy xf zu L zKA zKB k_fin
def zgx (xd:xy) (L:Nat) (β:Type) (args:List V) (bor:Bor) (k:KK β):Option β:=match args,bor with
 | [a0],[(.live false [w0_0,w0_1])]=>aP 0 0 a0 (aL 1 w0_0 fun zKA=>aI .i64 w0_1 fun zKB=>xd β L zKA zKB (fun p0 zKA zKB=>k (V.agg p0) [(.live false [(V.sl 1 zKA),(V.sc (.int .i64 zKB))])]))
 | _,_=>none
theorem zA5 (L:Nat) (β:Type) (args:List V) (bor:Bor) (k:KK β) (r:β) (h:zgx xd L β args bor k=some r):xr zcM (zcK zA ya zy xf zu L) L zfh args bor k=some r:=by
 unfold zgx at h
 split at h
 ·have q:=zlx h; clear h; obtain ⟨rfl,h⟩:=q
  have q:=z9 h; clear h; obtain ⟨zKA,rfl,h⟩:=q
  have q:=zau h; clear h; obtain ⟨zKB,rfl,h⟩:=q
  exact (zBF zA ya zy xf zu L zKA zKB k).trans h
 ·cases h
def zo9:CF:=⟨15,[.tmp 6],
 (.seq (.reg [oo 6 (.move (.const (.sc (.int .i64 0))) false)])
 (.seq (.reg [oo 7 (.move (tq 1) false),
   oo 8 (.move (tq 0) false),
   oo 9 (.move (tq 2) false),
   oo 10 (.move (tq 1) false),
   oo 11 (.bin .sub (tq 9) (tq 10)),
   oo 12 (.bin .add (tq 11) (.const (.sc (.int .i64 1)))),
   oo 13 (.call 231 [((tq 8),0),((tq 12),0)] []),
   oo 14 (.bin .add (tq 7) (tq 13)),
   oo 6 (.move (tq 14) false)])
 .ret))⟩
def zmK:Hint:=⟨[],[],[none],[],[],false,false⟩
def zHp:Nat→Sh:=xO []
def zGU (ya:zl) (L:Nat):CBC:=(xu 231 (zbg ya L) noC)
def zyc {β:Type} (ya:zl) (L:Nat) (p1 p2:Int) (zKA:List (List V)) (zKB:Int) (k_fin:Int→List (List V)→Int→Option β):Option β :=
 lt (IntKind.wrap .i64 ((p2:Int) - p1)) fun x0 =>
 lt (IntKind.wrap .i64 ((x0:Int)+(1:Int))) fun x1 =>
 ya β L x1 zKA zKB (fun v2 v3 v4 =>
 lt (IntKind.wrap .i64 ((p1:Int)+v2)) fun x5 =>
 k_fin x5 v3 v4)
abbrev zcx:=∀ (β:Type),Nat→Int→Int→List (List V)→Int→(Int→List (List V)→Int→Option β)→Option β
def yS (β:Type) (L:Nat) (p1 p2:Int) (zKA:List (List V)) (zKB:Int) (k_fin:Int→List (List V)→Int→Option β):Option β:=zyc ya L p1 p2 zKA zKB k_fin
def zx8 (yS:zcx) (L:Nat) (β:Type) (args:List V) (bor:Bor) (k:KK β):Option β:=match args,bor with
 | [a0,a1,a2],[(.live false [w0_0,w0_1])]=>aP 0 0 a0 (aI .i64 a1 fun p1=>aI .i64 a2 fun p2=>aL 1 w0_0 fun zKA=>aI .i64 w0_1 fun zKB=>yS β L p1 p2 zKA zKB (fun p0 zKA zKB=>k (V.sc (.int .i64 p0)) [(.live false [(V.sl 1 zKA),(V.sc (.int .i64 zKB))])]))
 | _,_=>none
def zwH:CC:=(.seq (.seq (.reg [oo 5 (.move (tq 4) false),
   oo 6 (.bin .lss (tq 5) (.const (.sc (.int .i64 8))))])
 (.cond (tq 6)
 .skip
 (.seq (.mask (bl 8 30) (bl 662158319 30))
 (.exit 0))))
 (.seq (.block 1 (.seq (.reg [oo 9 (.move (tq 0) false),
   oo 10 (.call 231 [((tq 9),0),((.const (.sc (.int .i64 2))),0)] []),
   oo 11 (.bin .eql (tq 10) (.const (.sc (.int .i64 0))))])
 (.cond (tq 11)
 (.reg [oo 12 (.move (tq 3) true),
   oo 13 (.move (tq 0) false),
   oo 14 (.call 274 [((tq 13),0),((.const (.sc (.int .i64 1))),0),((.const (.sc (.int .i64 3))),0)] []),
   oo 15 (.move (tq 4) false),
   oo 16 (.conv .u32 (tq 15)),
   oo 17 (.bin .shl (tq 16) (.const (.sc (.int .u64 16)))),
   oo 18 (.move (tq 0) false),
   oo 19 (.call 231 [((tq 18),0),((.const (.sc (.int .i64 3))),0)] []),
   oo 20 (.conv .u32 (tq 19)),
   oo 21 (.bin .add (tq 17) (tq 20)),
   oo 22 (.move (tq 0) false),
   oo 23 (.call 231 [((tq 22),0),((.const (.sc (.int .i64 2))),0)] []),
   oo 24 (.conv .u16 (tq 23)),
   oo 25 (.build [(.sc (.int .u32 0)),(.sc (.int .u16 0)),(.sc (.int .u32 0))] [(0,1,(tq 21)),(1,1,(tq 24))]),
   oo 26 (.build [(.sc (.int .i64 0)),(.sc (.int .u32 0)),(.sc (.int .u16 0)),(.sc (.int .u32 0))] [(0,1,(tq 14)),(1,3,(tq 25))]),
   oo 27 (.buildSlice 4 1 [(.sc (.int .i64 0)),(.sc (.int .u32 0)),(.sc (.int .u16 0)),(.sc (.int .u32 0))] [(0,4,(tq 26))]),
   oo 28 (.append 4 24 (tq 12) (tq 27)),
   oo 3 (.move (tq 28) true)])
 .skip)))
 (.reg [oo 7 (.move (tq 4) false),
   oo 8 (.bin .add (tq 7) (.const (.sc (.int .i64 1)))),
   oo 4 (.move (tq 8) false)])))
def zAH:CC:=(.seq (.reg [oo 29 (.move (tq 3) true),
   oo 2 (.move (tq 29) true)])
 .ret)
def zve:CF:=⟨30,[.tmp 2],
 (.seq (.reg [oo 2 (.move (.const (.gs 4 [])) true)])
 (.seq (.reg [oo 3 (.move (.const (.gs 4 [])) true)])
 (.seq (.seq (.reg [oo 4 (.move (.const (.sc (.int .i64 0))) false)])
 (.block 0 (.loop (bl 25 30) (bl 662158335 30)
 zwH)))
 zAH)))⟩
def zsA:Hint:=⟨[(0,0),(1,0),(6,0),(6,17),(7,0),(7,1)],[],[none,some ((bl 25 30),(bl 662158335 30)),none,some ((bl 8 30),(bl 662158319 30)),none,none,none],[],[],false,false⟩
def zJA:Nat→Sh:=xO []
def zJC (ya:zl) (yS:zcx) (L:Nat):CBC:=(xu 274 (zx8 yS L) (xu 231 (zbg ya L) noC))
def zHt:St→St:=zac 1 (bl 25 30) (bl 662158335 30)
def zFi (p3:List (List V)) (p4:Int) (zKA:List (List V)) (zKB:Int):St:=⟨((V.ptr 0 0)::(jn 2 ((V.gs 4 p3)::((V.sc (.int .i64 p4))::(jn 25 []))))),((.live false [(V.sl 1 zKA),(V.sc (.int .i64 zKB))])::(gn 30 []))⟩
def zHB (p3 zKA:List (List V)) (zKB:Int):St:=⟨(jn 3 ((V.gs 4 p3)::(jn 26 []))),((.live false [(V.sl 1 zKA),(V.sc (.int .i64 zKB))])::(gn 30 []))⟩
def zDP {β:Type} (ya:zl) (yS:zcx) (L:Nat) (zKA:List (List V)) (zKB:Int) (k_hbbaba:List (List V)→Int→List (List V)→Int→Option β):Option β :=
 k_hbbaba ([]:List (List V)) (0:Int) zKA zKB
def zxH {β:Type} (ya:zl) (yS:zcx) (L:Nat) (p3:List (List V)) (p4:Int) (zKA:List (List V)) (zKB:Int) (k_hbbaba:List (List V)→Int→List (List V)→Int→Option β) (k_x0:List (List V)→List (List V)→Int→Option β):Option β :=
 ifb (decide (p4 < (8:Int))) (
 ya β L (2:Int) zKA zKB (fun v0 v1 v2 =>
 ifb ((v0:Int) == (0:Int)) (
 yS β L (1:Int) (3:Int) v1 v2 (fun v3 v4 v5 =>
 lt (IntKind.wrap .u32 p4) fun x6 =>
 lt (zrq .u32 x6 (16:Int)) fun x7 =>
 ya β L (3:Int) v4 v5 (fun v8 v9 v10 =>
 lt (IntKind.wrap .u32 v8) fun x11 =>
 lt (IntKind.wrap .u32 ((x7:Int)+x11)) fun x12 =>
 ya β L (2:Int) v9 v10 (fun v13 v14 v15 =>
 lt (IntKind.wrap .u16 v13) fun x16 =>
 chk ((List.length p3+List.length (yk 4 1 [(V.sc (.int .i64 v3)),(V.sc (.int .u32 x12)),(V.sc (.int .u16 x16)),(V.sc (.int .u32 (0:Int)))])) * 24≤yr∧List.length p3+List.length (yk 4 1 [(V.sc (.int .i64 v3)),(V.sc (.int .u32 x12)),(V.sc (.int .u16 x16)),(V.sc (.int .u32 (0:Int)))])≤yr) (
 lt (p3++(yk 4 1 [(V.sc (.int .i64 v3)),(V.sc (.int .u32 x12)),(V.sc (.int .u16 x16)),(V.sc (.int .u32 (0:Int)))])) fun l17 =>
 lt (IntKind.wrap .i64 ((p4:Int)+(1:Int))) fun x18 =>
 k_hbbaba l17 x18 v14 v15))))) (
 lt (IntKind.wrap .i64 ((p4:Int)+(1:Int))) fun x19 =>
 k_hbbaba p3 x19 v1 v2))) (
 k_x0 p3 zKA zKB)
def zvL {β:Type} (ya:zl) (yS:zcx) (L:Nat) (p3 zKA:List (List V)) (zKB:Int) (k_fin:List (List V)→List (List V)→Int→Option β):Option β :=
 k_fin p3 zKA zKB
def zp1 {β:Type} (ya:zl) (yS:zcx) (L:Nat) (k_x0:List (List V)→List (List V)→Int→Option β):Nat→List (List V)→Int→List (List V)→Int→Option β
 | 0,_,_,_,_=>none
 | n+1,p3,p4,zKA,zKB=>zxH ya yS L p3 p4 zKA zKB (fun p3 p4 zKA zKB=>zp1 ya yS L k_x0 n p3 p4 zKA zKB) k_x0
def zDF {β:Type} (ya:zl) (yS:zcx) (L:Nat) (zKA:List (List V)) (zKB:Int) (k_fin:List (List V)→List (List V)→Int→Option β):Option β :=
 zDP ya yS L zKA zKB (fun p3 p4 zKA zKB=>zp1 ya yS L (fun p3 zKA zKB=>zvL ya yS L p3 zKA zKB k_fin) L p3 p4 zKA zKB)
abbrev zat:=∀ (β:Type),Nat→List (List V)→Int→(List (List V)→List (List V)→Int→Option β)→Option β
def zB (β:Type) (L:Nat) (zKA:List (List V)) (zKB:Int) (k_fin:List (List V)→List (List V)→Int→Option β):Option β:=zDF ya yS L zKA zKB k_fin
def zDr (zB:zat) (L:Nat) (β:Type) (args:List V) (bor:Bor) (k:KK β):Option β:=match args,bor with
 | [a0],[(.live false [w0_0,w0_1])]=>aP 0 0 a0 (aL 1 w0_0 fun zKA=>aI .i64 w0_1 fun zKB=>zB β L zKA zKB (fun p0 zKA zKB=>k (V.gs 4 p0) [(.live false [(V.sl 1 zKA),(V.sc (.int .i64 zKB))])]))
 | _,_=>none
def zxa:CC:=(.seq (.seq (.reg [oo 6 (.move (tq 5) false),
   oo 7 (.move (tq 0) false),
   oo 8 (.lenS (tq 7)),
   oo 9 (.bin .lss (tq 6) (tq 8))])
 (.cond (tq 9)
 .skip
 (.seq (.mask (bl 0 21) (bl 1441479 21))
 (.exit 0))))
 (.seq (.block 1 (.seq (.dreg [] [(oo 12 (.move (tq 0) false),q0),
   (oo 13 (.move (tq 5) false),q0),
   (oo 14 (.indexAddrS 4 (tq 12) (tq 13)),q0),
   (oo 15 (.fieldAddr 1 (tq 14)),q0),
   (oo 16 (.load true 3 (tq 15) false),q1),
   (oo 17 (.call 294 [((tq 16),0)] []),{ q0 with w:=[3] }),
   (oo 18 (.load true 3 (tq 3) false),{ q1 with root:=some 3 }),
   (oo 19 (.call 294 [((tq 18),0)] []),q0),
   (oo 20 (.bin .eql (tq 17) (tq 19)),q0)])
 (.cond (tq 20)
 (.seq (.reg [oo 4 (.move (.const (.sc (.bool true))) false)])
 (.seq (.mask (bl 16 21) (bl 1441495 21))
 .ret))
 .skip)))
 (.reg [oo 10 (.move (tq 5) false),
   oo 11 (.bin .add (tq 10) (.const (.sc (.int .i64 1)))),
   oo 5 (.move (tq 11) false)])))
def zzW:CC:=(.seq (.reg [oo 4 (.move (.const (.sc (.bool false))) false)])
 .ret)
def ztB:CF:=⟨21,[.tmp 4],
 (.seq (.reg [oo 3 (.box true (tq 1)),
   oo 4 (.move (.const (.sc (.bool false))) false)])
 (.seq (.seq (.reg [oo 5 (.move (.const (.sc (.int .i64 0))) false)])
 (.block 0 (.loop (bl 41 21) (bl 1441519 21)
 zxa)))
 zzW))⟩
def zre:Hint:=⟨[],[],[none,some ((bl 41 21),(bl 1441519 21)),none,some ((bl 0 21),(bl 1441479 21)),none,none,some ((bl 16 21),(bl 1441495 21)),none],[],[],false,false⟩
def zJo:Nat→Sh:=xO []
def zIX (zj:zai) (L:Nat):CBC:=(xu 294 (zeu zj L) noC)
def zHu:St→St:=zac 0 (bl 41 21) (bl 1441519 21)
def zFW (p0:List (List V)) (p5:Int) (b3:List V):St:=⟨((V.sl 4 p0)::(jn 2 ((V.ptr 3 0)::(jn 1 ((V.sc (.int .i64 p5))::(jn 15 [])))))),(gn 3 ((.live true b3)::(gn 17 [])))⟩
def zHl (p4:Bool):St:=⟨(jn 4 ((V.sc (.bool p4))::(jn 16 []))),(gn 21 [])⟩
def zHv:St:=⟨(jn 21 []),(gn 21 [])⟩
def zC1 {β:Type} (zj:zai) (L:Nat) (p0:List (List V)) (p1:List V) (k_hbaba:List (List V)→Int→List V→Option β):Option β :=
 k_hbaba p0 (0:Int) p1
def zxR {β:Type} (zj:zai) (L:Nat) (p0:List (List V)) (p5:Int) (b3:List V) (k_ret:Bool→Option β) (k_hbaba:List (List V)→Int→List V→Option β) (k_x0:Option β):Option β :=
 ifb (decide (p5 < ((List.length p0:Nat):Int))) (
 idx p0 p5 fun c0 =>
 zj β L (List.take 3 (List.drop 1 c0)) (fun v1 =>
 chk (0+3≤(List.length b3)) (
 zj β L (List.take 3 b3) (fun v2 =>
 ifb ((v1:Int) == v2) (
 k_ret true) (
 lt (IntKind.wrap .i64 ((p5:Int)+(1:Int))) fun x3 =>
 k_hbaba p0 x3 b3))))) (
 k_x0)
def zuO {β:Type} (zj:zai) (L:Nat) (p4:Bool) (k_fin:Bool→Option β):Option β :=
 k_fin p4
def zvR {β:Type} (zj:zai) (L:Nat) (k_fin:Bool→Option β):Option β :=
 k_fin false
def zp9 {β:Type} (zj:zai) (L:Nat) (k_ret:Bool→Option β) (k_x0:Option β):Nat→List (List V)→Int→List V→Option β
 | 0,_,_,_=>none
 | n+1,p0,p5,b3=>zxR zj L p0 p5 b3 k_ret (fun p0 p5 b3=>zp9 zj L k_ret k_x0 n p0 p5 b3) k_x0
def zCW {β:Type} (zj:zai) (L:Nat) (p0:List (List V)) (p1:List V) (k_fin:Bool→Option β):Option β :=
 zC1 zj L p0 p1 (fun p0 p5 b3=>zp9 zj L (fun p4=>zuO zj L p4 k_fin) (zvR zj L k_fin) L p0 p5 b3)
abbrev xN:=∀ (β:Type),Nat→List (List V)→List V→(Bool→Option β)→Option β
def xm (β:Type) (L:Nat) (p0:List (List V)) (p1:List V) (k_fin:Bool→Option β):Option β:=zCW zj L p0 p1 k_fin
def zpM (xm:xN) (L:Nat) (β:Type) (args:List V) (bor:Bor) (k:KK β):Option β:=match args,bor with
 | [a0,a1],[]=>aL 4 a0 fun p0=>aG a1 fun p1=>xm β L p0 p1 (fun p0=>k (V.sc (.bool p0)) [])
 | _,_=>none
def zwe:CC:=(.seq (.seq (.reg [oo 4 (.move (tq 3) false),
   oo 5 (.move (tq 0) false),
   oo 6 (.lenS (tq 5)),
   oo 7 (.bin .lss (tq 4) (tq 6))])
 (.cond (tq 7)
 .skip
 (.seq (.mask (bl 1 38) (bl 266287972275 38))
 (.exit 0))))
 (.seq (.block 1 (.seq (.dreg [] [(oo 10 (.move (tq 0) false),q0),
   (oo 11 (.move (tq 3) false),q0),
   (oo 12 (.indexAddrS 4 (tq 10) (tq 11)),q0),
   (oo 13 (.fieldAddr 0 (tq 12)),q0),
   (oo 14 (.load false 1 (tq 13) false),q0),
   (oo 15 (.bin .lss (tq 14) (.const (.sc (.int .i64 1)))),q0),
   (oo 16 (.move (tq 15) false),q0),
   (⟨(some 17),false,(some (16,false)),.move (tq 0) false⟩,q0),
   (⟨(some 18),false,(some (16,false)),.move (tq 3) false⟩,q0),
   (⟨(some 19),false,(some (16,false)),.indexAddrS 4 (tq 17) (tq 18)⟩,q0),
   (⟨(some 20),false,(some (16,false)),.fieldAddr 0 (tq 19)⟩,q0),
   (⟨(some 21),false,(some (16,false)),.load false 1 (tq 20) false⟩,q0),
   (⟨(some 22),false,(some (16,false)),.bin .gtr (tq 21) (.const (.sc (.int .i64 3)))⟩,q0),
   (oo 23 (.pick (tq 16) (.const (.sc (.bool true))) (tq 22)),q0),
   (oo 24 (.move (tq 23) false),q0),
   (⟨(some 25),false,(some (24,false)),.move (tq 0) false⟩,q0),
   (⟨(some 26),false,(some (24,false)),.move (tq 3) false⟩,q0),
   (⟨(some 27),false,(some (24,false)),.sliceS 4 (tq 25) none (some (tq 26)) none⟩,q0),
   (⟨(some 28),false,(some (24,false)),.move (tq 0) false⟩,q0),
   (⟨(some 29),false,(some (24,false)),.move (tq 3) false⟩,q0),
   (⟨(some 30),false,(some (24,false)),.indexAddrS 4 (tq 28) (tq 29)⟩,q0),
   (⟨(some 31),false,(some (24,false)),.fieldAddr 1 (tq 30)⟩,q0),
   (⟨(some 32),false,(some (24,false)),.load true 3 (tq 31) false⟩,q0),
   (⟨(some 33),false,(some (24,false)),.call 283 [((tq 27),0),((tq 32),0)] []⟩,q0),
   (oo 34 (.pick (tq 24) (.const (.sc (.bool true))) (tq 33)),q0)])
 (.cond (tq 34)
 (.seq (.reg [oo 2 (.move (.const (.sc (.bool false))) false)])
 (.seq (.mask (bl 4 38) (bl 266287972279 38))
 .ret))
 .skip)))
 (.reg [oo 8 (.move (tq 3) false),
   oo 9 (.bin .add (tq 8) (.const (.sc (.int .i64 1)))),
   oo 3 (.move (tq 9) false)])))
def zAO:CC:=(.seq (.reg [oo 35 (.move (tq 0) false),
   oo 36 (.lenS (tq 35)),
   oo 37 (.bin .leq (tq 36) (.const (.sc (.int .i64 8)))),
   oo 2 (.move (tq 37) false)])
 .ret)
def ztI:CF:=⟨38,[.tmp 2],
 (.seq (.reg [oo 2 (.move (.const (.sc (.bool false))) false)])
 (.seq (.seq (.reg [oo 3 (.move (.const (.sc (.int .i64 0))) false)])
 (.block 0 (.loop (bl 9 38) (bl 266287972283 38)
 zwe)))
 zAO))⟩
def zro:Hint:=⟨[],[],[none,some ((bl 9 38),(bl 266287972283 38)),none,some ((bl 1 38),(bl 266287972275 38)),none,none,some ((bl 4 38),(bl 266287972279 38)),none],[],[],false,false⟩
def zJe:Nat→Sh:=xO [(14,(.int .i64)),(21,(.int .i64))]
def zJn (xm:xN) (L:Nat):CBC:=(xu 283 (zpM xm L) noC)
def zHy:St→St:=zac 0 (bl 9 38) (bl 266287972283 38)
def zFq (p0:List (List V)) (p3:Int):St:=⟨((V.sl 4 p0)::(jn 2 ((V.sc (.int .i64 p3))::(jn 34 [])))),(gn 38 [])⟩
def zGD (p2:Bool):St:=⟨(jn 2 ((V.sc (.bool p2))::(jn 35 []))),(gn 38 [])⟩
def zHx (p0:List (List V)):St:=⟨((V.sl 4 p0)::(jn 37 [])),(gn 38 [])⟩
def zCz {β:Type} (xm:xN) (L:Nat) (p0:List (List V)) (k_hbaba:List (List V)→Int→Option β):Option β :=
 k_hbaba p0 (0:Int)
def zx3 {β:Type} (xm:xN) (L:Nat) (p0:List (List V)) (p3:Int) (k_ret:Bool→Option β) (k_hbaba:List (List V)→Int→Option β) (k_x0:List (List V)→Option β):Option β :=
 ifb (decide (p3 < ((List.length p0:Nat):Int))) (
 idx p0 p3 fun c0 =>
 cI .i64 c0 0 fun v1 =>
 ifb (decide (v1 < (1:Int))) (
 k_ret false) (
 idx p0 p3 fun c2 =>
 cI .i64 c2 0 fun v3 =>
 ifb (decide (v3 > (3:Int))) (
 k_ret false) (
 chk (0≤p3∧p3≤(((List.length p0):Nat):Int)) (
 idx p0 p3 fun c4 =>
 xm β L (List.take ((Int.toNat p3) - 0) (List.drop 0 p0)) (List.take 3 (List.drop 1 c4)) (fun v5 =>
 ifb v5 (
 k_ret false) (
 lt (IntKind.wrap .i64 ((p3:Int)+(1:Int))) fun x6 =>
 k_hbaba p0 x6)))))) (
 k_x0 p0)
def zvb {β:Type} (xm:xN) (L:Nat) (p2:Bool) (k_fin:Bool→Option β):Option β :=
 k_fin p2
def zvz {β:Type} (xm:xN) (L:Nat) (p0:List (List V)) (k_fin:Bool→Option β):Option β :=
 k_fin (decide (((List.length p0:Nat):Int)≤(8:Int)))
def zp7 {β:Type} (xm:xN) (L:Nat) (k_ret:Bool→Option β) (k_x0:List (List V)→Option β):Nat→List (List V)→Int→Option β
 | 0,_,_=>none
 | n+1,p0,p3=>zx3 xm L p0 p3 k_ret (fun p0 p3=>zp7 xm L k_ret k_x0 n p0 p3) k_x0
def zCy {β:Type} (xm:xN) (L:Nat) (p0:List (List V)) (k_fin:Bool→Option β):Option β :=
 zCz xm L p0 (fun p0 p3=>zp7 xm L (fun p2=>zvb xm L p2 k_fin) (fun p0=>zvz xm L p0 k_fin) L p0 p3)
abbrev zdv:=∀ (β:Type),Nat→List (List V)→(Bool→Option β)→Option β
def z8 (β:Type) (L:Nat) (p0:List (List V)) (k_fin:Bool→Option β):Option β:=zCy xm L p0 k_fin
def zCR (z8:zdv) (L:Nat) (β:Type) (args:List V) (bor:Bor) (k:KK β):Option β:=match args,bor with
 | [a0],[]=>aL 4 a0 fun p0=>z8 β L p0 (fun p0=>k (V.sc (.bool p0)) [])
 | _,_=>none
def zv2:CC:=(.seq (.seq (.reg [oo 7 (.move (tq 6) false),
   oo 8 (.move (tq 0) false),
   oo 9 (.lenS (tq 8)),
   oo 10 (.bin .lss (tq 7) (tq 9))])
 (.cond (tq 10)
 .skip
 (.seq (.mask (bl 32 23) (bl 8388031 23))
 (.exit 0))))
 (.seq (.block 1 (.seq (.reg [oo 13 (.move (tq 0) false),
   oo 14 (.move (tq 6) false),
   oo 15 (.indexAddrS 4 (tq 13) (tq 14)),
   oo 16 (.fieldAddr 0 (tq 15)),
   oo 17 (.load false 1 (tq 16) false),
   oo 18 (.move (tq 1) false),
   oo 19 (.bin .eql (tq 17) (tq 18))])
 (.cond (tq 19)
 (.reg [oo 20 (.move (tq 5) false),
   oo 21 (.bin .add (tq 20) (.const (.sc (.int .i64 1)))),
   oo 5 (.move (tq 21) false)])
 .skip)))
 (.reg [oo 11 (.move (tq 6) false),
   oo 12 (.bin .add (tq 11) (.const (.sc (.int .i64 1)))),
   oo 6 (.move (tq 12) false)])))
def zzl:CC:=(.seq (.reg [oo 22 (.move (tq 5) false),
   oo 4 (.move (tq 22) false)])
 .ret)
def ztz:CF:=⟨23,[.tmp 4],
 (.seq (.reg [oo 4 (.move (.const (.sc (.int .i64 0))) false)])
 (.seq (.reg [oo 5 (.move (.const (.sc (.int .i64 0))) false)])
 (.seq (.seq (.reg [oo 6 (.move (.const (.sc (.int .i64 0))) false)])
 (.block 0 (.loop (bl 99 23) (bl 8388095 23)
 zv2)))
 zzl)))⟩
def zrC:Hint:=⟨[],[],[none,some ((bl 99 23),(bl 8388095 23)),none,some ((bl 32 23),(bl 8388031 23)),none,none,none],[],[],false,false⟩
def zJl:Nat→Sh:=xO [(17,(.int .i64))]
def zIJ (L:Nat):CBC:=noC
def zHh:St→St:=zac 0 (bl 99 23) (bl 8388095 23)
def zE3 (p0:List (List V)) (p1 p5 p6:Int):St:=⟨((V.sl 4 p0)::((V.sc (.int .i64 p1))::(jn 3 ((V.sc (.int .i64 p5))::((V.sc (.int .i64 p6))::(jn 16 [])))))),(gn 23 [])⟩
def zHz (p5:Int):St:=⟨(jn 5 ((V.sc (.int .i64 p5))::(jn 17 []))),(gn 23 [])⟩
def zCY {β:Type} (L:Nat) (p0:List (List V)) (p1:Int) (k_hbbaba:List (List V)→Int→Int→Int→Option β):Option β :=
 k_hbbaba p0 p1 (0:Int) (0:Int)
def zwx {β:Type} (L:Nat) (p0:List (List V)) (p1 p5 p6:Int) (k_hbbaba:List (List V)→Int→Int→Int→Option β) (k_x0:Int→Option β):Option β :=
 ifb (decide (p6 < ((List.length p0:Nat):Int))) (
 idx p0 p6 fun c0 =>
 cI .i64 c0 0 fun v1 =>
 ifb ((v1:Int) == p1) (
 lt (IntKind.wrap .i64 ((p5:Int)+(1:Int))) fun x2 =>
 lt (IntKind.wrap .i64 ((p6:Int)+(1:Int))) fun x3 =>
 k_hbbaba p0 p1 x2 x3) (
 lt (IntKind.wrap .i64 ((p6:Int)+(1:Int))) fun x4 =>
 k_hbbaba p0 p1 p5 x4)) (
 k_x0 p5)
def zuk {β:Type} (L:Nat) (p5:Int) (k_fin:Int→Option β):Option β :=
 k_fin p5
def zpv {β:Type} (L:Nat) (k_x0:Int→Option β):Nat→List (List V)→Int→Int→Int→Option β
 | 0,_,_,_,_=>none
 | n+1,p0,p1,p5,p6=>zwx L p0 p1 p5 p6 (fun p0 p1 p5 p6=>zpv L k_x0 n p0 p1 p5 p6) k_x0
def zCt {β:Type} (L:Nat) (p0:List (List V)) (p1:Int) (k_fin:Int→Option β):Option β :=
 zCY L p0 p1 (fun p0 p1 p5 p6=>zpv L (fun p5=>zuk L p5 k_fin) L p0 p1 p5 p6)
abbrev zdw:=∀ (β:Type),Nat→List (List V)→Int→(Int→Option β)→Option β
def xU (β:Type) (L:Nat) (p0:List (List V)) (p1:Int) (k_fin:Int→Option β):Option β:=zCt L p0 p1 k_fin
def zCr (xU:zdw) (L:Nat) (β:Type) (args:List V) (bor:Bor) (k:KK β):Option β:=match args,bor with
 | [a0,a1],[]=>aL 4 a0 fun p0=>aI .i64 a1 fun p1=>xU β L p0 p1 (fun p0=>k (V.sc (.int .i64 p0)) [])
 | _,_=>none
end
end Go.Proofs.Ytpafdnidhnldhaa
