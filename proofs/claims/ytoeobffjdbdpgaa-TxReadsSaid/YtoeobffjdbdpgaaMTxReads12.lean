/- Part 12 of the proof of TxReads: an abstract machine over plain values, its soundness, and the functions of the program on plain values. -/
import Derived.Test.YtoeobffjdbdpgaaMTxReads11
namespace Go.Proofs.Ytoeobffjdbdpgaa
section
set_option maxRecDepth 100000
set_option linter.unusedVariables false
set_option linter.unusedSimpArgs false
def ziP:CC:=(.seq (.reg [oo 80 (.bin .lss (tq 79) (tq 78))])
 (.seq (.cond (tq 80)
 .skip
 (.seq (.mask (bl 32281802128991715362 89) (bl 580284393415022003858953595 89))
 (.exit 6)))
 (.seq (.block 7 (.seq (.reg [oo 81 (.indexAddrS 1 (tq 77) (tq 79)),
   oo 82 (.load false 1 (tq 81) false),
   oo 13 (.move (tq 82) false)])
 (.reg [oo 83 (.move (tq 5) false),
   oo 84 (.move (tq 13) false),
   oo 85 (.call 187 [((tq 83),0),((tq 84),0)] []),
   oo 5 (.move (tq 85) true)])))
 (.reg [oo 86 (.bin .add (tq 79) (.const (.sc (.int .i64 1)))),
   oo 79 (.move (tq 86) false)]))))
def zmF:CC:=(.reg [oo 87 (.bin .add (tq 64) (.const (.sc (.int .i64 1)))),
   oo 64 (.move (tq 87) false)])
def zoE:CC:=(.seq (.reg [oo 65 (.bin .lss (tq 64) (tq 63))])
 (.seq (.cond (tq 65)
 .skip
 (.seq (.mask (bl 32 89) (bl 579934938295289650113140091 89))
 (.exit 4)))
 (.seq (.block 5 (.seq (.reg [oo 66 (.indexAddrS 35 (tq 62) (tq 64)),
   oo 67 (.load true 35 (tq 66) false),
   oo 11 (.alloc true (rp 32 (.sc (.int .u8 0)) (rp 2 (.sc (.int .u32 0)) (rp 1 (.gs 1 []) [])))),
   oz (.store 35 (tq 11) (tq 67))])
 (.seq (.seq (.reg [oo 68 (.move (tq 1) false),
   oo 69 (.un .not (tq 68))])
 (.cond (tq 69)
 (.seq (.mask (bl 32 89) (bl 579934938295289650113140091 89))
 (.exit 4))
 .skip))
 (.seq (.reg [oo 70 (.move (tq 5) false),
   oo 71 (.fieldAddr 34 (tq 11)),
   oo 72 (.load false 1 (tq 71) false),
   oo 73 (.lenS (tq 72)),
   oo 74 (.conv .u64 (tq 73)),
   oo 75 (.call 185 [((tq 70),0),((tq 74),0)] []),
   oo 5 (.move (tq 75) true)])
 (.seq (.reg [oo 76 (.fieldAddr 34 (tq 11)),
   oo 77 (.load false 1 (tq 76) false),
   oo 78 (.lenS (tq 77)),
   oo 79 (.move (.const (.sc (.int .i64 0))) false)])
 (.block 6 (.loop (bl 1057842373964929519583266 89) (bl 580284393415022003858953595 89)
 ziP)))))))
 zmF)))
def zqi:CC:=(.seq (.reg [oo 49 (.bin .lss (tq 48) (tq 47))])
 (.seq (.cond (tq 49)
 .skip
 (.seq (.mask (bl 38 89) (bl 618970019588646941921113471 89))
 (.exit 2)))
 (.seq (.block 3 (.seq (.reg [oo 50 (.indexAddrS 2 (tq 46) (tq 48)),
   oo 51 (.load true 2 (tq 50) false),
   oo 9 (.alloc true [(.sc (.int .i64 0)),(.gs 1 [])]),
   oz (.store 2 (tq 9) (tq 51))])
 (.reg [oo 52 (.move (tq 5) true),
   oo 53 (.load true 2 (tq 9) false),
   oo 54 (.call 186 [((tq 53),1)] []),
   oo 55 (.append 1 1 (tq 52) (tq 54)),
   oo 5 (.move (tq 55) true)])))
 (.reg [oo 56 (.bin .add (tq 48) (.const (.sc (.int .i64 1)))),
   oo 48 (.move (tq 56) false)]))))
def zq1:CC:=(.seq (.reg [oo 88 (.move (tq 5) true),
   oo 4 (.move (tq 88) true)])
 .ret)
def zsM:CC:=(.seq (.reg [oo 27 (.bin .lss (tq 26) (tq 25))])
 (.seq (.cond (tq 27)
 .skip
 (.seq (.mask (bl 38 89) (bl 618970019642689974240802175 89))
 (.exit 0)))
 (.seq (.block 1 (.seq (.reg [oo 28 (.indexAddrS 35 (tq 24) (tq 26)),
   oo 29 (.load true 35 (tq 28) false),
   oo 7 (.alloc true (rp 32 (.sc (.int .u8 0)) (rp 2 (.sc (.int .u32 0)) (rp 1 (.gs 1 []) [])))),
   oz (.store 35 (tq 7) (tq 29))])
 (.dreg [] [(oo 30 (.move (tq 5) true),qc [7] []),
   (oo 31 (.fieldAddr 0 (tq 7)),q0),
   (oo 32 (.load true 33 (tq 31) false),ql 7 [] []),
   (oo 33 (.call 138 [((tq 32),0)] []),qc [7] []),
   (oo 34 (.append 1 1 (tq 30) (tq 33)),qn [7] []),
   (oo 35 (.fieldAddr 33 (tq 7)),q0),
   (oo 36 (.load false 1 (tq 35) false),ql 7 [] [34]),
   (oo 37 (.call 159 [((tq 34),0),((tq 36),0)] []),q0),
   (oo 5 (.move (tq 37) true),q0)])))
 (.reg [oo 38 (.bin .add (tq 26) (.const (.sc (.int .i64 1)))),
   oo 26 (.move (tq 38) false)]))))
def zth:CC:=(.seq (.reg [oo 57 (.move (tq 5) false),
   oo 58 (.fieldAddr 3 (tq 2)),
   oo 59 (.load false 1 (tq 58) false),
   oo 60 (.call 159 [((tq 57),0),((tq 59),0)] []),
   oo 5 (.move (tq 60) true)])
 (.seq (.seq (.reg [oo 61 (.fieldAddr 1 (tq 2)),
   oo 62 (.load false 1 (tq 61) false),
   oo 63 (.lenS (tq 62)),
   oo 64 (.move (.const (.sc (.int .i64 0))) false)])
 (.block 4 (.loop (bl 32281802128991715362 89) (bl 579934938295289650113140091 89)
 zoE)))
 zq1))
def zvq:CC:=(.seq (.reg [oo 39 (.move (tq 5) false),
   oo 40 (.fieldAddr 2 (tq 2)),
   oo 41 (.load false 1 (tq 40) false),
   oo 42 (.lenS (tq 41)),
   oo 43 (.conv .u64 (tq 42)),
   oo 44 (.call 185 [((tq 39),0),((tq 43),0)] []),
   oo 5 (.move (tq 44) true)])
 (.seq (.seq (.reg [oo 45 (.fieldAddr 2 (tq 2)),
   oo 46 (.load false 1 (tq 45) false),
   oo 47 (.lenS (tq 46)),
   oo 48 (.move (.const (.sc (.int .i64 0))) false)])
 (.block 2 (.loop (bl 492581209243686 89) (bl 618970019588646941921113471 89)
 zqi)))
 zth))
def zqU:CF:=⟨89,[.tmp 4],
 (.seq (.reg [oo 2 (.box true (tq 0)),
   oo 4 (.move (.const (.gs 1 [])) true)])
 (.seq (.reg [oo 14 (.fieldAddr 0 (tq 2)),
   oo 15 (.load false 1 (tq 14) false),
   oo 16 (.call 159 [((.const (.gs 1 [])),0),((tq 15),0)] []),
   oo 5 (.move (tq 16) true)])
 (.seq (.reg [oo 17 (.move (tq 5) false),
   oo 18 (.fieldAddr 1 (tq 2)),
   oo 19 (.load false 1 (tq 18) false),
   oo 20 (.lenS (tq 19)),
   oo 21 (.conv .u64 (tq 20)),
   oo 22 (.call 185 [((tq 17),0),((tq 21),0)] []),
   oo 5 (.move (tq 22) true)])
 (.seq (.seq (.reg [oo 23 (.fieldAddr 1 (tq 2)),
   oo 24 (.load false 1 (tq 23) false),
   oo 25 (.lenS (tq 24)),
   oo 26 (.move (.const (.sc (.int .i64 0))) false)])
 (.block 0 (.loop (bl 117440550 89) (bl 618970019642689974240802175 89)
 zsM)))
 zvq))))⟩
def zou:Hint:=⟨[(0,0),(0,1),(1,3),(2,6),(5,2),(6,0),(6,8),(8,6),(11,2),(12,0),(12,4),(14,4),(17,2),(19,6),(23,3),(26,0),(26,1)],[],[none,some ((bl 117440550 89),(bl 618970019642689974240802175 89)),none,some ((bl 38 89),(bl 618970019642689974240802175 89)),none,none,some ((bl 492581209243686 89),(bl 618970019588646941921113471 89)),none,some ((bl 38 89),(bl 618970019588646941921113471 89)),none,none,some ((bl 32281802128991715362 89),(bl 579934938295289650113140091 89)),none,some ((bl 32 89),(bl 579934938295289650113140091 89)),none,none,some ((bl 32 89),(bl 579934938295289650113140091 89)),none,some ((bl 1057842373964929519583266 89),(bl 580284393415022003858953595 89)),none,some ((bl 32281802128991715362 89),(bl 580284393415022003858953595 89)),none,none],[],[],false,false,[]⟩
def zHs:Nat→Sh:=yP [(15,(.int .u32)),(19,(.sl 35)),(24,(.sl 35)),(36,(.int .u32)),(41,(.sl 2)),(46,(.sl 2)),(59,(.int .u32)),(62,(.sl 35)),(72,(.sl 1)),(77,(.sl 1)),(82,(.sl 1))]
def zHH (yi:xG) (xh:xC) (zt:xW) (xw:zag) (yh:zA) (L:Nat):CBC:=(xv 187 (zl4 yh L) (xv 186 (zDn xw L) (xv 138 (zA0 zt L) (xv 185 (znn xh L) (xv 159 (zox yi L) noC)))))
def zD9:St→St:=y4 0 (bl 117440550 89) (bl 618970019642689974240802175 89)
def zDk:St→St:=y4 0 (bl 492581209243686 89) (bl 618970019588646941921113471 89)
def zCk:St→St:=y4 0 (bl 32281802128991715362 89) (bl 579934938295289650113140091 89)
def zvW:St→St:=y4 0 (bl 1057842373964929519583266 89) (bl 580284393415022003858953595 89)
def zC4 (p1:Bool) (p5 p24:List (List V)) (p25 p26:Int) (b2:List V):St:=⟨(jn 1 ((V.sc (.bool p1))::((V.ptr 2 0)::(jn 2 ((V.gs 1 p5)::(jn 18 ((V.sl 35 p24)::((V.sc (.int .i64 p25))::((V.sc (.int .i64 p26))::(jn 62 [])))))))))),(gn 2 ((.live true b2)::(gn 86 [])))⟩
def zGj (p1:Bool) (p5:List (List V)) (b2:List V):St:=⟨(jn 1 ((V.sc (.bool p1))::((V.ptr 2 0)::(jn 2 ((V.gs 1 p5)::(jn 83 [])))))),(gn 2 ((.live true b2)::(gn 86 [])))⟩
def zBn (p1:Bool) (p5 p46:List (List V)) (p47 p48:Int) (b2:List V):St:=⟨(jn 1 ((V.sc (.bool p1))::((V.ptr 2 0)::(jn 2 ((V.gs 1 p5)::(jn 40 ((V.sl 2 p46)::((V.sc (.int .i64 p47))::((V.sc (.int .i64 p48))::(jn 40 [])))))))))),(gn 2 ((.live true b2)::(gn 86 [])))⟩
def zFw (p1:Bool) (p5:List (List V)) (b2:List V):St:=⟨(jn 1 ((V.sc (.bool p1))::((V.ptr 2 0)::(jn 2 ((V.gs 1 p5)::(jn 83 [])))))),(gn 2 ((.live true b2)::(gn 86 [])))⟩
def zAE (p1:Bool) (p5 p62:List (List V)) (p63 p64:Int):St:=⟨(jn 1 ((V.sc (.bool p1))::(jn 3 ((V.gs 1 p5)::(jn 56 ((V.sl 35 p62)::((V.sc (.int .i64 p63))::((V.sc (.int .i64 p64))::(jn 24 []))))))))),(gn 89 [])⟩
def zFz (p5:List (List V)):St:=⟨(jn 5 ((V.gs 1 p5)::(jn 83 []))),(gn 89 [])⟩
def zuu (p1:Bool) (p5 p62:List (List V)) (p63 p64:Int) (p77:List (List V)) (p78 p79:Int):St:=⟨(jn 1 ((V.sc (.bool p1))::(jn 3 ((V.gs 1 p5)::(jn 56 ((V.sl 35 p62)::((V.sc (.int .i64 p63))::((V.sc (.int .i64 p64))::(jn 12 ((V.sl 1 p77)::((V.sc (.int .i64 p78))::((V.sc (.int .i64 p79))::(jn 9 []))))))))))))),(gn 89 [])⟩
def zE2 (p1:Bool) (p5 p62:List (List V)) (p63 p64:Int):St:=⟨(jn 1 ((V.sc (.bool p1))::(jn 3 ((V.gs 1 p5)::(jn 56 ((V.sl 35 p62)::((V.sc (.int .i64 p63))::((V.sc (.int .i64 p64))::(jn 24 []))))))))),(gn 89 [])⟩
abbrev zkM (β:Type):Type:=Bool→List (List V)→List (List V)→Int→Int→List V→Option β
abbrev zi2 (β:Type):Type:=Bool→List (List V)→List (List V)→Int→Int→List V→Option β
abbrev zdW (β:Type):Type:=Bool→List (List V)→List (List V)→Int→Int→List (List V)→Int→Int→Option β
def zy1 {β:Type} (yi:xG) (xh:xC) (zt:xW) (xw:zag) (yh:zA) (L:Nat) (p0:List V) (p1:Bool) (k_hbbbaba:zkM β):Option β :=
 cI .u32 p0 0 fun v0 =>
 yi β L ([]:List (List V)) v0 (fun v1 =>
 cLd 35 p0 1 fun v2 =>
 lt (IntKind.wrap .u64 ((List.length v2:Nat):Int)) fun x3 =>
 xh β L v1 x3 (fun v4 =>
 cLd 35 p0 1 fun v5 =>
 k_hbbbaba p1 v4 v5 ((List.length v5:Nat):Int) (0:Int) p0))
def zs1 {β:Type} (yi:xG) (xh:xC) (zt:xW) (xw:zag) (yh:zA) (L:Nat) (p1:Bool) (p5 p24:List (List V)) (p25 p26:Int) (b2:List V) (k_hbbbaba:zkM β) (k_x0:Bool→List (List V)→List V→Option β):Option β :=
 ifb (decide (p26 < p25)) (
 idx p24 p26 fun c6 =>
 chk ((List.length (List.take 35 c6))=35∧0+35≤35) (
 lt (yl (List.replicate 32 (V.sc (.int .u8 (0:Int)))++[(V.sc (.int .u32 (0:Int))),(V.sc (.int .u32 (0:Int))),(V.gs 1 ([]:List (List V)))]) 0 (List.take 35 c6)) fun r7 =>
 chk (0+33≤(List.length r7)) (
 zt β L (List.take 33 r7) (fun v8 =>
 chk ((List.length p5+List.length v8) * 1≤yn∧List.length p5+List.length v8≤yn) (
 lt (p5++v8) fun l9 =>
 cI .u32 r7 33 fun v10 =>
 yi β L l9 v10 (fun v11 =>
 lt (IntKind.wrap .i64 ((p26:Int)+(1:Int))) fun x12 =>
 k_hbbbaba p1 v11 p24 p25 x12 b2)))))) (
 k_x0 p1 p5 b2)
def zrq {β:Type} (yi:xG) (xh:xC) (zt:xW) (xw:zag) (yh:zA) (L:Nat) (p1:Bool) (p5:List (List V)) (b2:List V) (k_hbbbbbaba:zi2 β):Option β :=
 cLd 2 b2 2 fun v13 =>
 lt (IntKind.wrap .u64 ((List.length v13:Nat):Int)) fun x14 =>
 xh β L p5 x14 (fun v15 =>
 cLd 2 b2 2 fun v16 =>
 k_hbbbbbaba p1 v15 v16 ((List.length v16:Nat):Int) (0:Int) b2)
def zrK {β:Type} (yi:xG) (xh:xC) (zt:xW) (xw:zag) (yh:zA) (L:Nat) (p1:Bool) (p5 p46:List (List V)) (p47 p48:Int) (b2:List V) (k_hbbbbbaba:zi2 β) (k_x2:Bool→List (List V)→List V→Option β):Option β :=
 ifb (decide (p48 < p47)) (
 idx p46 p48 fun c17 =>
 chk ((List.length (List.take 2 c17))=2∧0+2≤2) (
 lt (yl [(V.sc (.int .i64 (0:Int))),(V.gs 1 ([]:List (List V)))] 0 (List.take 2 c17)) fun r18 =>
 chk (0+2≤(List.length r18)) (
 xw β L (List.map V.dem (List.take 2 r18)) (fun v19 =>
 chk ((List.length p5+List.length v19) * 1≤yn∧List.length p5+List.length v19≤yn) (
 lt (p5++v19) fun l20 =>
 lt (IntKind.wrap .i64 ((p48:Int)+(1:Int))) fun x21 =>
 k_hbbbbbaba p1 l20 p46 p47 x21 b2))))) (
 k_x2 p1 p5 b2)
def zpz {β:Type} (yi:xG) (xh:xC) (zt:xW) (xw:zag) (yh:zA) (L:Nat) (p1:Bool) (p5:List (List V)) (b2:List V) (k_hbbbbbbbaba:Bool→List (List V)→List (List V)→Int→Int→Option β):Option β :=
 cI .u32 b2 3 fun v22 =>
 yi β L p5 v22 (fun v23 =>
 cLd 35 b2 1 fun v24 =>
 k_hbbbbbbbaba p1 v23 v24 ((List.length v24:Nat):Int) (0:Int))
def zph {β:Type} (yi:xG) (xh:xC) (zt:xW) (xw:zag) (yh:zA) (L:Nat) (p1:Bool) (p5 p62:List (List V)) (p63 p64:Int) (k_x4:List (List V)→Option β) (k_hbbbbbbbabaabbaabbbba:zdW β):Option β :=
 ifb (decide (p64 < p63)) (
 idx p62 p64 fun c25 =>
 chk ((List.length (List.take 35 c25))=35∧0+35≤35) (
 lt (yl (List.replicate 32 (V.sc (.int .u8 (0:Int)))++[(V.sc (.int .u32 (0:Int))),(V.sc (.int .u32 (0:Int))),(V.gs 1 ([]:List (List V)))]) 0 (List.take 35 c25)) fun r26 =>
 ifb (!p1) (
 k_x4 p5) (
 cLd 1 r26 34 fun v27 =>
 lt (IntKind.wrap .u64 ((List.length v27:Nat):Int)) fun x28 =>
 xh β L p5 x28 (fun v29 =>
 cLd 1 r26 34 fun v30 =>
 k_hbbbbbbbabaabbaabbbba p1 v29 p62 p63 p64 v30 ((List.length v30:Nat):Int) (0:Int))))) (
 k_x4 p5)
def znY {β:Type} (yi:xG) (xh:xC) (zt:xW) (xw:zag) (yh:zA) (L:Nat) (p5:List (List V)) (k_fin:List (List V)→Option β):Option β :=
 k_fin p5
def zja {β:Type} (yi:xG) (xh:xC) (zt:xW) (xw:zag) (yh:zA) (L:Nat) (p1:Bool) (p5 p62:List (List V)) (p63 p64:Int) (p77:List (List V)) (p78 p79:Int) (k_hbbbbbbbabaabbaabbbba:zdW β) (k_x6:Bool→List (List V)→List (List V)→Int→Int→Option β):Option β :=
 ifb (decide (p79 < p78)) (
 idx p77 p79 fun c31 =>
 cL 1 c31 0 fun v32 =>
 yh β L p5 v32 (fun v33 =>
 lt (IntKind.wrap .i64 ((p79:Int)+(1:Int))) fun x34 =>
 k_hbbbbbbbabaabbaabbbba p1 v33 p62 p63 p64 p77 p78 x34)) (
 k_x6 p1 p5 p62 p63 p64)
def zib {β:Type} (yi:xG) (xh:xC) (zt:xW) (xw:zag) (yh:zA) (L:Nat) (p1:Bool) (p5 p62:List (List V)) (p63 p64:Int) (k_hbbbbbbbaba:Bool→List (List V)→List (List V)→Int→Int→Option β):Option β :=
 lt (IntKind.wrap .i64 ((p64:Int)+(1:Int))) fun x35 =>
 k_hbbbbbbbaba p1 p5 p62 p63 x35
def zkX {β:Type} (yi:xG) (xh:xC) (zt:xW) (xw:zag) (yh:zA) (L:Nat) (k_x0:Bool→List (List V)→List V→Option β):Nat→Bool→List (List V)→List (List V)→Int→Int→List V→Option β
 | 0,_,_,_,_,_,_=>none
 | n+1,p1,p5,p24,p25,p26,b2=>zs1 yi xh zt xw yh L p1 p5 p24 p25 p26 b2 (fun p1 p5 p24 p25 p26 b2=>zkX yi xh zt xw yh L k_x0 n p1 p5 p24 p25 p26 b2) k_x0
def zjJ {β:Type} (yi:xG) (xh:xC) (zt:xW) (xw:zag) (yh:zA) (L:Nat) (k_x2:Bool→List (List V)→List V→Option β):Nat→Bool→List (List V)→List (List V)→Int→Int→List V→Option β
 | 0,_,_,_,_,_,_=>none
 | n+1,p1,p5,p46,p47,p48,b2=>zrK yi xh zt xw yh L p1 p5 p46 p47 p48 b2 (fun p1 p5 p46 p47 p48 b2=>zjJ yi xh zt xw yh L k_x2 n p1 p5 p46 p47 p48 b2) k_x2
def zec {β:Type} (yi:xG) (xh:xC) (zt:xW) (xw:zag) (yh:zA) (L:Nat) (k_x6:Bool→List (List V)→List (List V)→Int→Int→Option β):Nat→Bool→List (List V)→List (List V)→Int→Int→List (List V)→Int→Int→Option β
 | 0,_,_,_,_,_,_,_,_=>none
 | n+1,p1,p5,p62,p63,p64,p77,p78,p79=>zja yi xh zt xw yh L p1 p5 p62 p63 p64 p77 p78 p79 (fun p1 p5 p62 p63 p64 p77 p78 p79=>zec yi xh zt xw yh L k_x6 n p1 p5 p62 p63 p64 p77 p78 p79) k_x6
def zoV {β:Type} (yi:xG) (xh:xC) (zt:xW) (xw:zag) (yh:zA) (L:Nat) (p1:Bool) (p5 p62:List (List V)) (p63 p64:Int) (k_x4:List (List V)→Option β) (k_hbbbbbbbaba:Bool→List (List V)→List (List V)→Int→Int→Option β):Option β :=
 zph yi xh zt xw yh L p1 p5 p62 p63 p64 k_x4 (fun p1 p5 p62 p63 p64 p77 p78 p79=>zec yi xh zt xw yh L (fun p1 p5 p62 p63 p64=>zib yi xh zt xw yh L p1 p5 p62 p63 p64 k_hbbbbbbbaba) L p1 p5 p62 p63 p64 p77 p78 p79)
def zit {β:Type} (yi:xG) (xh:xC) (zt:xW) (xw:zag) (yh:zA) (L:Nat) (k_x4:List (List V)→Option β):Nat→Bool→List (List V)→List (List V)→Int→Int→Option β
 | 0,_,_,_,_,_=>none
 | n+1,p1,p5,p62,p63,p64=>zoV yi xh zt xw yh L p1 p5 p62 p63 p64 k_x4 (fun p1 p5 p62 p63 p64=>zit yi xh zt xw yh L k_x4 n p1 p5 p62 p63 p64)
def zoA {β:Type} (yi:xG) (xh:xC) (zt:xW) (xw:zag) (yh:zA) (L:Nat) (p1:Bool) (p5:List (List V)) (b2:List V) (k_fin:List (List V)→Option β):Option β :=
 zpz yi xh zt xw yh L p1 p5 b2 (fun p1 p5 p62 p63 p64=>zit yi xh zt xw yh L (fun p5=>znY yi xh zt xw yh L p5 k_fin) L p1 p5 p62 p63 p64)
def zqm {β:Type} (yi:xG) (xh:xC) (zt:xW) (xw:zag) (yh:zA) (L:Nat) (p1:Bool) (p5:List (List V)) (b2:List V) (k_fin:List (List V)→Option β):Option β :=
 zrq yi xh zt xw yh L p1 p5 b2 (fun p1 p5 p46 p47 p48 b2=>zjJ yi xh zt xw yh L (fun p1 p5 b2=>zoA yi xh zt xw yh L p1 p5 b2 k_fin) L p1 p5 p46 p47 p48 b2)
def zy2 {β:Type} (yi:xG) (xh:xC) (zt:xW) (xw:zag) (yh:zA) (L:Nat) (p0:List V) (p1:Bool) (k_fin:List (List V)→Option β):Option β :=
 zy1 yi xh zt xw yh L p0 p1 (fun p1 p5 p24 p25 p26 b2=>zkX yi xh zt xw yh L (fun p1 p5 b2=>zqm yi xh zt xw yh L p1 p5 b2 k_fin) L p1 p5 p24 p25 p26 b2)
abbrev yQ:=∀ (β:Type),Nat→List V→Bool→(List (List V)→Option β)→Option β
def zp (β:Type) (L:Nat) (p0:List V) (p1:Bool) (k_fin:List (List V)→Option β):Option β:=zy2 yi xh zt xw yh L p0 p1 k_fin
def zsQ (zp:yQ) (L:Nat) (β:Type) (args:List V) (bor:Bor) (k:KK β):Option β:=match args,bor with
 | [a0,a1],[]=>aG a0 fun p0=>aB a1 fun p1=>zp β L p0 p1 (fun p0=>k (V.gs 1 p0) [])
 | _,_=>none
def zmd:CC:=(.seq (.reg [oo 51 (.bin .lss (tq 50) (tq 49))])
 (.seq (.cond (tq 51)
 .skip
 (.seq (.mask (bl 962072674306 63) (bl 9187343239835811499 63))
 (.exit 4)))
 (.seq (.block 5 (.seq (.reg [oo 52 (.indexAddrS 1 (tq 48) (tq 50)),
   oo 53 (.load false 1 (tq 52) false),
   oo 8 (.move (tq 53) false)])
 (.seq (.reg [oo 54 (.move (tq 8) false),
   oo 55 (.lenS (tq 54)),
   oo 56 (.bin .gtr (tq 55) (.const (.sc (.int .i64 520))))])
 (.cond (tq 56)
 (.seq (.reg [oo 2 (.move (.const (.sc (.bool false))) false)])
 (.seq (.mask (bl 4 63) (bl 9186745105510301357 63))
 .ret))
 .skip))))
 (.reg [oo 57 (.bin .add (tq 50) (.const (.sc (.int .i64 1)))),
   oo 50 (.move (tq 57) false)]))))
def zq8:CC:=(.reg [oo 58 (.bin .add (tq 39) (.const (.sc (.int .i64 1)))),
   oo 39 (.move (tq 58) false)])
def zui:CC:=(.seq (.reg [oo 40 (.bin .lss (tq 39) (tq 38))])
 (.seq (.cond (tq 40)
 .skip
 (.seq (.mask (bl 2 63) (bl 9186745105510301355 63))
 (.exit 2)))
 (.seq (.block 3 (.seq (.reg [oo 41 (.indexAddrS 35 (tq 37) (tq 39)),
   oo 42 (.load true 35 (tq 41) false),
   oo 6 (.alloc true (rp 32 (.sc (.int .u8 0)) (rp 2 (.sc (.int .u32 0)) (rp 1 (.gs 1 []) [])))),
   oz (.store 35 (tq 6) (tq 42))])
 (.seq (.seq (.reg [oo 43 (.fieldAddr 34 (tq 6)),
   oo 44 (.load false 1 (tq 43) false),
   oo 45 (.lenS (tq 44)),
   oo 46 (.bin .gtr (tq 45) (.const (.sc (.int .i64 32))))])
 (.cond (tq 46)
 (.seq (.reg [oo 2 (.move (.const (.sc (.bool false))) false)])
 (.seq (.mask (bl 4 63) (bl 9186745105510301357 63))
 .ret))
 .skip))
 (.seq (.reg [oo 47 (.fieldAddr 34 (tq 6)),
   oo 48 (.load false 1 (tq 47) false),
   oo 49 (.lenS (tq 48)),
   oo 50 (.move (.const (.sc (.int .i64 0))) false)])
 (.block 4 (.loop (bl 1971286909648898 63) (bl 9187343239835811499 63)
 zmd))))))
 zq8)))
def zuO:CC:=(.seq (.reg [oo 23 (.bin .lss (tq 22) (tq 21))])
 (.seq (.cond (tq 23)
 .skip
 (.seq (.mask (bl 2 63) (bl 9223372032559808427 63))
 (.exit 0)))
 (.seq (.block 1 (.seq (.reg [oo 24 (.indexAddrS 2 (tq 20) (tq 22)),
   oo 25 (.load true 2 (tq 24) false),
   oo 4 (.alloc true [(.sc (.int .i64 0)),(.gs 1 [])]),
   oz (.store 2 (tq 4) (tq 25))])
 (.seq (.reg [oo 26 (.fieldAddr 0 (tq 4)),
   oo 27 (.load false 1 (tq 26) false),
   oo 28 (.bin .lss (tq 27) (.const (.sc (.int .i64 0)))),
   oo 29 (.move (tq 28) false),
   ⟨(some 30),false,(some (29,false)),.fieldAddr 1 (tq 4)⟩,
   ⟨(some 31),false,(some (29,false)),.load false 1 (tq 30) false⟩,
   ⟨(some 32),false,(some (29,false)),.lenS (tq 31)⟩,
   ⟨(some 33),false,(some (29,false)),.bin .gtr (tq 32) (.const (.sc (.int .i64 520)))⟩,
   oo 34 (.pick (tq 29) (.const (.sc (.bool true))) (tq 33))])
 (.cond (tq 34)
 (.seq (.reg [oo 2 (.move (.const (.sc (.bool false))) false)])
 (.seq (.mask (bl 4 63) (bl 9223372032559808429 63))
 .ret))
 .skip))))
 (.reg [oo 35 (.bin .add (tq 22) (.const (.sc (.int .i64 1)))),
   oo 22 (.move (tq 35) false)]))))
def zxi:CC:=(.seq (.reg [oo 59 (.load true 4 (tq 1) false),
   oo 60 (.call 149 [((tq 59),1),((.const (.sc (.bool true))),0)] []),
   oo 61 (.lenS (tq 60)),
   oo 62 (.bin .leq (tq 61) (.const (.sc (.int .i64 20000)))),
   oo 2 (.move (tq 62) false)])
 .ret)
def zxy:CC:=(.seq (.seq (.reg [oo 36 (.fieldAddr 1 (tq 1)),
   oo 37 (.load false 1 (tq 36) false),
   oo 38 (.lenS (tq 37)),
   oo 39 (.move (.const (.sc (.int .i64 0))) false)])
 (.block 2 (.loop (bl 962072674306 63) (bl 9186745105510301355 63)
 zui)))
 zxi)
def zt1:CF:=⟨63,[.tmp 2],
 (.seq (.reg [oo 1 (.box true (tq 0)),
   oo 2 (.move (.const (.sc (.bool false))) false)])
 (.seq (.seq (.reg [oo 9 (.fieldAddr 1 (tq 1)),
   oo 10 (.load false 1 (tq 9) false),
   oo 11 (.lenS (tq 10)),
   oo 12 (.bin .gtr (tq 11) (.const (.sc (.int .i64 64)))),
   oo 13 (.move (tq 12) false),
   ⟨(some 14),false,(some (13,false)),.fieldAddr 2 (tq 1)⟩,
   ⟨(some 15),false,(some (13,false)),.load false 1 (tq 14) false⟩,
   ⟨(some 16),false,(some (13,false)),.lenS (tq 15)⟩,
   ⟨(some 17),false,(some (13,false)),.bin .gtr (tq 16) (.const (.sc (.int .i64 64)))⟩,
   oo 18 (.pick (tq 13) (.const (.sc (.bool true))) (tq 17))])
 (.cond (tq 18)
 (.seq (.reg [oo 2 (.move (.const (.sc (.bool false))) false)])
 .ret)
 .skip))
 (.seq (.seq (.reg [oo 19 (.fieldAddr 2 (tq 1)),
   oo 20 (.load false 1 (tq 19) false),
   oo 21 (.lenS (tq 20)),
   oo 22 (.move (.const (.sc (.int .i64 0))) false)])
 (.block 0 (.loop (bl 7340034 63) (bl 9223372032559808427 63)
 zuO)))
 zxy)))⟩
def zqM:Hint:=⟨[(0,0),(5,2),(11,2)],[],[none,none,none,some ((bl 7340034 63),(bl 9223372032559808427 63)),none,some ((bl 2 63),(bl 9223372032559808427 63)),none,none,some ((bl 4 63),(bl 9223372032559808429 63)),none,some ((bl 962072674306 63),(bl 9186745105510301355 63)),none,some ((bl 2 63),(bl 9186745105510301355 63)),none,none,some ((bl 4 63),(bl 9186745105510301357 63)),none,some ((bl 1971286909648898 63),(bl 9187343239835811499 63)),none,some ((bl 962072674306 63),(bl 9187343239835811499 63)),none,none,some ((bl 4 63),(bl 9186745105510301357 63)),none],[],[],false,false,[]⟩
def zIw:Nat→Sh:=yP [(10,(.sl 35)),(15,(.sl 2)),(20,(.sl 2)),(27,(.int .i64)),(31,(.sl 1)),(37,(.sl 35)),(44,(.sl 1)),(48,(.sl 1)),(53,(.sl 1))]
def zIu (zp:yQ) (L:Nat):CBC:=(xv 149 (zsQ zp L) noC)
def zGs:St→St:=y4 0 (bl 7340034 63) (bl 9223372032559808427 63)
def zGg:St→St:=y4 0 (bl 962072674306 63) (bl 9186745105510301355 63)
def zAo:St→St:=y4 0 (bl 1971286909648898 63) (bl 9187343239835811499 63)
def zEo (p20:List (List V)) (p21 p22:Int) (b1:List V):St:=⟨(jn 1 ((V.ptr 1 0)::(jn 18 ((V.sl 2 p20)::((V.sc (.int .i64 p21))::((V.sc (.int .i64 p22))::(jn 40 []))))))),(gn 1 ((.live true b1)::(gn 61 [])))⟩
def zGr (p2:Bool):St:=⟨(jn 2 ((V.sc (.bool p2))::(jn 60 []))),(gn 63 [])⟩
def zGV (b1:List V):St:=⟨(jn 1 ((V.ptr 1 0)::(jn 61 []))),(gn 1 ((.live true b1)::(gn 61 [])))⟩
def zDy (p37:List (List V)) (p38 p39:Int) (b1:List V):St:=⟨(jn 1 ((V.ptr 1 0)::(jn 35 ((V.sl 35 p37)::((V.sc (.int .i64 p38))::((V.sc (.int .i64 p39))::(jn 23 []))))))),(gn 1 ((.live true b1)::(gn 61 [])))⟩
def zyV (p37:List (List V)) (p38 p39:Int) (p48:List (List V)) (p49 p50:Int) (b1:List V):St:=⟨(jn 1 ((V.ptr 1 0)::(jn 35 ((V.sl 35 p37)::((V.sc (.int .i64 p38))::((V.sc (.int .i64 p39))::(jn 8 ((V.sl 1 p48)::((V.sc (.int .i64 p49))::((V.sc (.int .i64 p50))::(jn 12 []))))))))))),(gn 1 ((.live true b1)::(gn 61 [])))⟩
def zG3 (b1:List V):St:=⟨(jn 1 ((V.ptr 1 0)::(jn 61 []))),(gn 1 ((.live true b1)::(gn 61 [])))⟩
def zGB (p37:List (List V)) (p38 p39:Int) (b1:List V):St:=⟨(jn 1 ((V.ptr 1 0)::(jn 35 ((V.sl 35 p37)::((V.sc (.int .i64 p38))::((V.sc (.int .i64 p39))::(jn 23 []))))))),(gn 1 ((.live true b1)::(gn 61 [])))⟩
abbrev zgj (β:Type):Type:=List (List V)→Int→Int→List (List V)→Int→Int→List V→Option β
def zCE {β:Type} (zp:yQ) (L:Nat) (p0:List V) (k_fin:Bool→Option β) (k_hbbaba:List (List V)→Int→Int→List V→Option β):Option β :=
 cLd 35 p0 1 fun v0 =>
 ifb (decide (((List.length v0:Nat):Int) > (64:Int))) (
 k_fin false) (
 cLd 2 p0 2 fun v1 =>
 ifb (decide (((List.length v1:Nat):Int) > (64:Int))) (
 k_fin false) (
 cLd 2 p0 2 fun v2 =>
 k_hbbaba v2 ((List.length v2:Nat):Int) (0:Int) p0))
def zvV {β:Type} (zp:yQ) (L:Nat) (p20:List (List V)) (p21 p22:Int) (b1:List V) (k_ret:Bool→Option β) (k_hbbaba:List (List V)→Int→Int→List V→Option β) (k_x0:List V→Option β):Option β :=
 ifb (decide (p22 < p21)) (
 idx p20 p22 fun c3 =>
 chk ((List.length (List.take 2 c3))=2∧0+2≤2) (
 lt (yl [(V.sc (.int .i64 (0:Int))),(V.gs 1 ([]:List (List V)))] 0 (List.take 2 c3)) fun r4 =>
 cI .i64 r4 0 fun v5 =>
 ifb (decide (v5 < (0:Int))) (
 k_ret false) (
 cLd 1 r4 1 fun v6 =>
 ifb (decide (((List.length v6:Nat):Int) > (520:Int))) (
 k_ret false) (
 lt (IntKind.wrap .i64 ((p22:Int)+(1:Int))) fun x7 =>
 k_hbbaba p20 p21 x7 b1)))) (
 k_x0 b1)
def ztM {β:Type} (zp:yQ) (L:Nat) (p2:Bool) (k_fin:Bool→Option β):Option β :=
 k_fin p2
def zuo {β:Type} (zp:yQ) (L:Nat) (b1:List V) (k_hbbbaba:List (List V)→Int→Int→List V→Option β):Option β :=
 cLd 35 b1 1 fun v8 =>
 k_hbbbaba v8 ((List.length v8:Nat):Int) (0:Int) b1
def zuy {β:Type} (zp:yQ) (L:Nat) (p37:List (List V)) (p38 p39:Int) (b1:List V) (k_ret:Bool→Option β) (k_hbbbabaabbaabbba:zgj β) (k_x2:List V→Option β):Option β :=
 ifb (decide (p39 < p38)) (
 idx p37 p39 fun c9 =>
 chk ((List.length (List.take 35 c9))=35∧0+35≤35) (
 lt (yl (List.replicate 32 (V.sc (.int .u8 (0:Int)))++[(V.sc (.int .u32 (0:Int))),(V.sc (.int .u32 (0:Int))),(V.gs 1 ([]:List (List V)))]) 0 (List.take 35 c9)) fun r10 =>
 cLd 1 r10 34 fun v11 =>
 ifb (decide (((List.length v11:Nat):Int) > (32:Int))) (
 k_ret false) (
 cLd 1 r10 34 fun v12 =>
 k_hbbbabaabbaabbba p37 p38 p39 v12 ((List.length v12:Nat):Int) (0:Int) b1))) (
 k_x2 b1)
def zsK {β:Type} (zp:yQ) (L:Nat) (p2:Bool) (k_fin:Bool→Option β):Option β :=
 k_fin p2
def ztl {β:Type} (zp:yQ) (L:Nat) (b1:List V) (k_fin:Bool→Option β):Option β :=
 chk (0+4≤(List.length b1)) (
 zp β L (List.map V.dem (List.take 4 b1)) true (fun v13 =>
 k_fin (decide (((List.length v13:Nat):Int)≤(20000:Int)))))
def znf {β:Type} (zp:yQ) (L:Nat) (p37:List (List V)) (p38 p39:Int) (p48:List (List V)) (p49 p50:Int) (b1:List V) (k_ret:Bool→Option β) (k_hbbbabaabbaabbba:zgj β) (k_x4:List (List V)→Int→Int→List V→Option β):Option β :=
 ifb (decide (p50 < p49)) (
 idx p48 p50 fun c14 =>
 cL 1 c14 0 fun v15 =>
 ifb (decide (((List.length v15:Nat):Int) > (520:Int))) (
 k_ret false) (
 lt (IntKind.wrap .i64 ((p50:Int)+(1:Int))) fun x16 =>
 k_hbbbabaabbaabbba p37 p38 p39 p48 p49 x16 b1)) (
 k_x4 p37 p38 p39 b1)
def zlF {β:Type} (zp:yQ) (L:Nat) (p2:Bool) (k_ret:Bool→Option β):Option β :=
 k_ret p2
def zlZ {β:Type} (zp:yQ) (L:Nat) (p37:List (List V)) (p38 p39:Int) (b1:List V) (k_hbbbaba:List (List V)→Int→Int→List V→Option β):Option β :=
 lt (IntKind.wrap .i64 ((p39:Int)+(1:Int))) fun x17 =>
 k_hbbbaba p37 p38 x17 b1
def zor {β:Type} (zp:yQ) (L:Nat) (k_ret:Bool→Option β) (k_x0:List V→Option β):Nat→List (List V)→Int→Int→List V→Option β
 | 0,_,_,_,_=>none
 | n+1,p20,p21,p22,b1=>zvV zp L p20 p21 p22 b1 k_ret (fun p20 p21 p22 b1=>zor zp L k_ret k_x0 n p20 p21 p22 b1) k_x0
def zgB {β:Type} (zp:yQ) (L:Nat) (k_ret:Bool→Option β) (k_x4:List (List V)→Int→Int→List V→Option β):Nat→List (List V)→Int→Int→List (List V)→Int→Int→List V→Option β
 | 0,_,_,_,_,_,_,_=>none
 | n+1,p37,p38,p39,p48,p49,p50,b1=>znf zp L p37 p38 p39 p48 p49 p50 b1 k_ret (fun p37 p38 p39 p48 p49 p50 b1=>zgB zp L k_ret k_x4 n p37 p38 p39 p48 p49 p50 b1) k_x4
def zuc {β:Type} (zp:yQ) (L:Nat) (p37:List (List V)) (p38 p39:Int) (b1:List V) (k_ret:Bool→Option β) (k_x2:List V→Option β) (k_hbbbaba:List (List V)→Int→Int→List V→Option β):Option β :=
 zuy zp L p37 p38 p39 b1 k_ret (fun p37 p38 p39 p48 p49 p50 b1=>zgB zp L (fun p2=>zlF zp L p2 k_ret) (fun p37 p38 p39 b1=>zlZ zp L p37 p38 p39 b1 k_hbbbaba) L p37 p38 p39 p48 p49 p50 b1) k_x2
def zni {β:Type} (zp:yQ) (L:Nat) (k_ret:Bool→Option β) (k_x2:List V→Option β):Nat→List (List V)→Int→Int→List V→Option β
 | 0,_,_,_,_=>none
 | n+1,p37,p38,p39,b1=>zuc zp L p37 p38 p39 b1 k_ret k_x2 (fun p37 p38 p39 b1=>zni zp L k_ret k_x2 n p37 p38 p39 b1)
def zs3 {β:Type} (zp:yQ) (L:Nat) (b1:List V) (k_fin:Bool→Option β):Option β :=
 zuo zp L b1 (fun p37 p38 p39 b1=>zni zp L (fun p2=>zsK zp L p2 k_fin) (fun b1=>ztl zp L b1 k_fin) L p37 p38 p39 b1)
def zBZ {β:Type} (zp:yQ) (L:Nat) (p0:List V) (k_fin:Bool→Option β):Option β :=
 zCE zp L p0 k_fin (fun p20 p21 p22 b1=>zor zp L (fun p2=>ztM zp L p2 k_fin) (fun b1=>zs3 zp L b1 k_fin) L p20 p21 p22 b1)
abbrev zpV:=∀ (β:Type),Nat→List V→(Bool→Option β)→Option β
def zeO (β:Type) (L:Nat) (p0:List V) (k_fin:Bool→Option β):Option β:=zBZ zp L p0 k_fin
def zCK (zeO:zpV) (L:Nat) (β:Type) (args:List V) (bor:Bor) (k:KK β):Option β:=match args,bor with
 | [a0],[]=>aG a0 fun p0=>zeO β L p0 (fun p0=>k (V.sc (.bool p0)) [])
 | _,_=>none
def zqT:CF:=⟨12,[.tmp 4,.tmp 5],
 (.seq (.reg [oo 2 (.box true (tq 0)),
   oo 4 (.move (.const (.gs 1 [])) true),
   oo 5 (.move (.const (.sc (.int .i64 0))) false)])
 (.seq (.seq (.reg [oo 6 (.load true 4 (tq 2) false),
   oo 7 (.call 148 [((tq 6),1)] []),
   oo 8 (.un .not (tq 7))])
 (.cond (tq 8)
 (.seq (.reg [oo 4 (.move (.const (.gs 1 [])) true),
   oo 5 (.move (.const (.sc (.int .i64 4))) false)])
 .ret)
 .skip))
 (.seq (.reg [oo 9 (.load true 4 (tq 2) false),
   oo 10 (.move (tq 1) false),
   oo 11 (.call 149 [((tq 9),1),((tq 10),0)] []),
   oo 4 (.move (tq 11) true),
   oo 5 (.move (.const (.sc (.int .i64 0))) false)])
 .ret)))⟩
def zot:Hint:=⟨[(0,0),(0,1),(2,0),(3,3)],[],[none,none,none],[],[],false,false,[]⟩
def zHD:Nat→Sh:=yP []
def zHG (zeO:zpV) (zp:yQ) (L:Nat):CBC:=(xv 149 (zsQ zp L) (xv 148 (zCK zeO L) noC))
def zzl {β:Type} (zeO:zpV) (zp:yQ) (L:Nat) (p0:List V) (p1:Bool) (k_fin:List (List V)→Int→Option β):Option β :=
 chk (0+4≤(List.length p0)) (
 zeO β L (List.map V.dem (List.take 4 p0)) (fun v0 =>
 ifb (!v0) (
 k_fin ([]:List (List V)) (4:Int)) (
 chk (0+4≤(List.length p0)) (
 zp β L (List.map V.dem (List.take 4 p0)) p1 (fun v1 =>
 k_fin v1 (0:Int))))))
abbrev zmB:=∀ (β:Type),Nat→List V→Bool→(List (List V)→Int→Option β)→Option β
def zdm (β:Type) (L:Nat) (p0:List V) (p1:Bool) (k_fin:List (List V)→Int→Option β):Option β:=zzl zeO zp L p0 p1 k_fin
def zzi (zdm:zmB) (L:Nat) (β:Type) (args:List V) (bor:Bor) (k:KK β):Option β:=match args,bor with
 | [a0,a1],[]=>aG a0 fun p0=>aB a1 fun p1=>zdm β L p0 p1 (fun zKg zKh=>k (V.tup [(V.gs 1 zKg),(V.sc (.int .i64 zKh))]) [])
 | _,_=>none
def zom:CF:=⟨78,[.tmp 8],
 (.seq (.reg [oo 4 (.box true (tq 0)),
   oo 8 (.move (.const (.sc (.bool false))) false)])
 (.seq (.seq (.reg [oo 15 (.call 126 [] []),
   oo 16 (.un .not (tq 15))])
 (.cond (tq 16)
 (.seq (.reg [oo 8 (.move (.const (.sc (.bool false))) false)])
 .ret)
 .skip))
 (.seq (.seq (.reg [oo 17 (.load true 4 (tq 4) false),
   oo 18 (.call 127 [((tq 17),1)] []),
   oo 19 (.un .not (tq 18)),
   oo 20 (.move (tq 19) false),
   ⟨(some 21),false,(some (20,false)),.fieldAddr 1 (tq 4)⟩,
   ⟨(some 22),false,(some (20,false)),.load false 1 (tq 21) false⟩,
   ⟨(some 23),false,(some (20,false)),.lenS (tq 22)⟩,
   ⟨(some 24),false,(some (20,false)),.fieldAddr 2 (tq 4)⟩,
   ⟨(some 25),false,(some (20,false)),.load false 1 (tq 24) false⟩,
   ⟨(some 26),false,(some (20,false)),.lenS (tq 25)⟩,
   ⟨(some 27),false,(some (20,false)),.bin .add (tq 23) (tq 26)⟩,
   ⟨(some 28),false,(some (20,false)),.bin .gtr (tq 27) (.const (.sc (.int .i64 8)))⟩,
   oo 29 (.pick (tq 20) (.const (.sc (.bool true))) (tq 28))])
 (.cond (tq 29)
 (.seq (.reg [oo 8 (.move (.const (.sc (.bool true))) false)])
 .ret)
 .skip))
 (.seq (.reg [oo 31 (.load true 4 (tq 4) false),
   oo 32 (.call 129 [((tq 31),1),((.const (.sc (.bool true))),0)] []),
   oo 30 (.move (tq 32) true),
   ⟨(some 33),true,none,.extract (tq 30) 0⟩,
   oo 34 (.pull (tq 30) 1),
   oo 9 (.move (tq 33) true),
   oo 10 (.move (tq 34) false)])
 (.seq (.seq (.reg [oo 35 (.move (tq 10) false),
   oo 36 (.bin .neq (tq 35) (.const (.sc (.int .i64 0))))])
 (.cond (tq 36)
 (.seq (.reg [oo 8 (.move (.const (.sc (.bool true))) false)])
 .ret)
 .skip))
 (.seq (.reg [oo 37 (.move (tq 9) false),
   oo 38 (.move (tq 1) false),
   oo 39 (.conv .i64 (tq 38)),
   oo 40 (.move (tq 9) false),
   oo 41 (.lenS (tq 40)),
   oo 42 (.bin .rem (tq 39) (tq 41)),
   oo 43 (.indexAddrS 1 (tq 37) (tq 42)),
   oo 44 (.load false 1 (tq 43) false),
   oo 45 (.move (tq 2) false),
   oo 46 (.bin .add (tq 44) (tq 45)),
   oo 47 (.indexAddrS 1 (tq 37) (tq 42)),
   oz (.store 1 (tq 47) (tq 46))])
 (.seq (.reg [oo 48 (.move (tq 9) false),
   oo 49 (.move (tq 9) false),
   oo 50 (.lenS (tq 49)),
   oo 51 (.move (tq 3) false),
   oo 52 (.conv .i64 (tq 51)),
   oo 53 (.move (tq 9) false),
   oo 54 (.lenS (tq 53)),
   oo 55 (.bin .add (tq 54) (.const (.sc (.int .i64 1)))),
   oo 56 (.bin .rem (tq 52) (tq 55)),
   oo 57 (.bin .rem (tq 56) (.const (.sc (.int .i64 3)))),
   oo 58 (.bin .sub (tq 50) (tq 57)),
   oo 59 (.sliceS 1 (tq 48) none (some (tq 58)) none),
   oo 9 (.move (tq 59) true)])
 (.seq (.reg [oo 61 (.move (tq 9) false),
   oo 62 (.call 141 [((tq 61),0)] []),
   oo 60 (.move (tq 62) true),
   oo 63 (.pull (tq 60) 0),
   oo 64 (.pull (tq 60) 1),
   oo 11 (.alloc true [(.sc (.int .u32 0)),(.gs 35 []),(.gs 2 []),(.sc (.int .u32 0))]),
   oz (.store 4 (tq 11) (tq 63)),
   oo 12 (.move (tq 64) false)])
 (.seq (.reg [oo 66 (.move (tq 9) false),
   oo 67 (.call 142 [((tq 66),0)] []),
   oo 65 (.move (tq 67) true),
   oo 68 (.pull (tq 65) 0),
   oo 69 (.pull (tq 65) 1),
   oo 13 (.alloc true [(.sc (.int .u32 0)),(.gs 35 []),(.gs 2 []),(.sc (.int .u32 0))]),
   oz (.store 4 (tq 13) (tq 68)),
   oo 14 (.move (tq 69) false)])
 (.seq (.reg [oo 70 (.move (tq 12) false),
   oo 71 (.move (tq 14) false),
   oo 72 (.bin .eql (tq 70) (tq 71)),
   oo 73 (.move (tq 72) false),
   ⟨(some 74),false,(some (73,true)),.load true 4 (tq 11) false⟩,
   ⟨(some 75),false,(some (73,true)),.load true 4 (tq 13) false⟩,
   ⟨(some 76),false,(some (73,true)),.call 143 [((tq 74),1),((tq 75),1)] []⟩,
   oo 77 (.pick (tq 73) (tq 76) (.const (.sc (.bool false)))),
   oo 8 (.move (tq 77) false)])
 .ret))))))))))⟩
def zl9:Hint:=⟨[(0,0),(5,2),(5,3),(5,5),(9,12),(10,2),(10,5),(11,2),(11,5)],[(5,3)],[none,none,none,none,none,none,none],[],[],false,false,[]⟩
def zGt:Nat→Sh:=yP [(22,(.sl 35)),(25,(.sl 2))]
def zGu (yL:zdK) (zc7:znb) (zdm:zmB) (L:Nat):CBC:=(xv 129 (zzi zdm L) (xv 127 (zAx zc7 L) (xv 126 (zgl yL L) noC)))
def zwU {β:Type} (yL:zdK) (zc7:znb) (zdm:zmB) (L:Nat) (p0:List V) (p1 p2 p3:Int) (k_fin:Bool→Option β):Option β :=
 yL β L  (fun v0 =>
 ifb (!v0) (
 k_fin false) (
 chk (0+4≤(List.length p0)) (
 zc7 β L (List.map V.dem (List.take 4 p0)) (fun v1 =>
 ifb (!v1) (
 k_fin true) (
 cLd 35 p0 1 fun v2 =>
 cLd 2 p0 2 fun v3 =>
 lt (IntKind.wrap .i64 ((((List.length v2:Nat):Int):Int)+((List.length v3:Nat):Int))) fun x4 =>
 ifb (decide (x4 > (8:Int))) (
 k_fin true) (
 chk (0+4≤(List.length p0)) (
 zdm β L (List.map V.dem (List.take 4 p0)) true (fun v5 v6 =>
 none))))))))
abbrev zxl:=∀ (β:Type),Nat→List V→Int→Int→Int→(Bool→Option β)→Option β
def zpp (β:Type) (L:Nat) (p0:List V) (p1 p2 p3:Int) (k_fin:Bool→Option β):Option β:=zwU yL zc7 zdm L p0 p1 p2 p3 k_fin
def zHn (zpp:zxl) (L:Nat) (β:Type) (args:List V) (bor:Bor) (k:KK β):Option β:=match args,bor with
 | [a0,a1,a2,a3],[]=>aG a0 fun p0=>aI .u16 a1 fun p1=>aI .u8 a2 fun p2=>aI .u8 a3 fun p3=>zpp β L p0 p1 p2 p3 (fun p0=>k (V.sc (.bool p0)) [])
 | _,_=>none
def zqy:CF:=⟨70,[.tmp 4],
 (.seq (.reg [oo 2 (.box true (tq 0)),
   oo 4 (.move (.const (.sc (.bool false))) false)])
 (.seq (.seq (.reg [oo 13 (.call 126 [] []),
   oo 14 (.un .not (tq 13))])
 (.cond (tq 14)
 (.seq (.reg [oo 4 (.move (.const (.sc (.bool false))) false)])
 .ret)
 .skip))
 (.seq (.seq (.reg [oo 15 (.load true 4 (tq 2) false),
   oo 16 (.call 127 [((tq 15),1)] []),
   oo 17 (.un .not (tq 16)),
   oo 18 (.move (tq 17) false),
   ⟨(some 19),false,(some (18,false)),.move (tq 1) false⟩,
   ⟨(some 20),false,(some (18,false)),.lenS (tq 19)⟩,
   ⟨(some 21),false,(some (18,false)),.bin .gtr (tq 20) (.const (.sc (.int .i64 3000)))⟩,
   oo 22 (.pick (tq 18) (.const (.sc (.bool true))) (tq 21))])
 (.cond (tq 22)
 (.seq (.reg [oo 4 (.move (.const (.sc (.bool true))) false)])
 .ret)
 .skip))
 (.seq (.seq (.reg [oo 24 (.load true 4 (tq 2) false),
   oo 25 (.call 128 [((tq 24),1),((.const (.sc (.bool true))),0)] []),
   oo 23 (.move (tq 25) true),
   oo 26 (.extract (tq 23) 0),
   oo 27 (.pull (tq 23) 1),
   oo 5 (.move (tq 26) false),
   oo 6 (.move (tq 27) false)])
 (.seq (.reg [oo 28 (.move (tq 6) false),
   oo 29 (.bin .eql (tq 28) (.const (.sc (.int .i64 0))))])
 (.cond (tq 29)
 (.seq (.reg [oo 31 (.move (tq 5) false),
   oo 32 (.call 141 [((tq 31),0)] []),
   oo 30 (.move (tq 32) true),
   oo 33 (.pull (tq 30) 0),
   oo 34 (.pull (tq 30) 1),
   oo 7 (.alloc true [(.sc (.int .u32 0)),(.gs 35 []),(.gs 2 []),(.sc (.int .u32 0))]),
   oz (.store 4 (tq 7) (tq 33)),
   oo 8 (.move (tq 34) false)])
 (.seq (.reg [oo 35 (.move (tq 8) false),
   oo 36 (.bin .neq (tq 35) (.const (.sc (.int .i64 0)))),
   oo 37 (.move (tq 36) false),
   ⟨(some 38),false,(some (37,false)),.load true 4 (tq 2) false⟩,
   ⟨(some 39),false,(some (37,false)),.load true 4 (tq 7) false⟩,
   ⟨(some 40),false,(some (37,false)),.call 143 [((tq 38),1),((tq 39),1)] []⟩,
   ⟨(some 41),false,(some (37,false)),.un .not (tq 40)⟩,
   oo 42 (.pick (tq 37) (.const (.sc (.bool true))) (tq 41))])
 (.cond (tq 42)
 (.seq (.reg [oo 4 (.move (.const (.sc (.bool false))) false)])
 .ret)
 .skip)))
 .skip)))
 (.seq (.reg [oo 44 (.move (tq 1) false),
   oo 45 (.call 141 [((tq 44),0)] []),
   oo 43 (.move (tq 45) true),
   oo 46 (.pull (tq 43) 0),
   oo 47 (.pull (tq 43) 1),
   oo 9 (.alloc true [(.sc (.int .u32 0)),(.gs 35 []),(.gs 2 []),(.sc (.int .u32 0))]),
   oz (.store 4 (tq 9) (tq 46)),
   oo 10 (.move (tq 47) false)])
 (.seq (.seq (.reg [oo 48 (.move (tq 10) false),
   oo 49 (.bin .neq (tq 48) (.const (.sc (.int .i64 0))))])
 (.cond (tq 49)
 (.seq (.reg [oo 50 (.fieldAddr 1 (tq 9)),
   oo 51 (.load false 1 (tq 50) false),
   oo 52 (.lenS (tq 51)),
   oo 53 (.fieldAddr 2 (tq 9)),
   oo 54 (.load false 1 (tq 53) false),
   oo 55 (.lenS (tq 54)),
   oo 56 (.bin .add (tq 52) (tq 55)),
   oo 57 (.bin .eql (tq 56) (.const (.sc (.int .i64 0)))),
   oo 4 (.move (tq 57) false)])
 .ret)
 .skip))
 (.seq (.reg [oo 59 (.load true 4 (tq 9) false),
   oo 60 (.call 128 [((tq 59),1),((.const (.sc (.bool true))),0)] []),
   oo 58 (.move (tq 60) true),
   oo 61 (.extract (tq 58) 0),
   oo 62 (.pull (tq 58) 1),
   oo 11 (.move (tq 61) false),
   oo 12 (.move (tq 62) false)])
 (.seq (.reg [oo 63 (.move (tq 12) false),
   oo 64 (.bin .eql (tq 63) (.const (.sc (.int .i64 0)))),
   oo 65 (.move (tq 64) false),
   ⟨(some 66),false,(some (65,true)),.move (tq 11) false⟩,
   ⟨(some 67),false,(some (65,true)),.move (tq 1) false⟩,
   ⟨(some 68),false,(some (65,true)),.call 130 [((tq 66),0),((tq 67),0)] []⟩,
   oo 69 (.pick (tq 65) (tq 68) (.const (.sc (.bool false)))),
   oo 4 (.move (tq 69) false)])
 .ret))))))))⟩
def zoq:Hint:=⟨[(0,0),(5,2),(5,3),(7,2),(7,5),(10,2),(10,5),(13,2),(13,3)],[],[none,none,none,none,none,none,none,none,none,none],[],[],false,false,[]⟩
def zHx:Nat→Sh:=yP [(51,(.sl 35)),(54,(.sl 2))]
def zHt (yL:zdK) (zc7:znb) (xX:zhp) (yV:zho) (yM:zeD) (yf:yx) (L:Nat):CBC:=(xv 130 (zgy yf L) (xv 143 (zgm yM L) (xv 141 (zjv yV L) (xv 128 (zjz xX L) (xv 127 (zAx zc7 L) (xv 126 (zgl yL L) noC))))))
def zy7 {β:Type} (yL:zdK) (zc7:znb) (xX:zhp) (yV:zho) (yM:zeD) (yf:yx) (L:Nat) (p0:List V) (p1:List (List V)) (k_fin:Bool→Option β):Option β :=
 yL β L  (fun v0 =>
 ifb (!v0) (
 k_fin false) (
 chk (0+4≤(List.length p0)) (
 zc7 β L (List.map V.dem (List.take 4 p0)) (fun v1 =>
 ifb (!v1) (
 k_fin true) (
 ifb (decide (((List.length p1:Nat):Int) > (3000:Int))) (
 k_fin true) (
 chk (0+4≤(List.length p0)) (
 xX β L (List.map V.dem (List.take 4 p0)) true (fun v2 v3 =>
 ifb ((v3:Int) == (0:Int)) (
 yV β L v2 (fun v4 v5 =>
 chk ((List.length v4)=4∧0+4≤4) (
 lt (yl [(V.sc (.int .u32 (0:Int))),(V.gs 35 ([]:List (List V))),(V.gs 2 ([]:List (List V))),(V.sc (.int .u32 (0:Int)))] 0 v4) fun r6 =>
 ifb ((v5:Int) != (0:Int)) (
 k_fin false) (
 chk (0+4≤(List.length p0)) (
 chk (0+4≤(List.length r6)) (
 yM β L (List.map V.dem (List.take 4 p0)) (List.map V.dem (List.take 4 r6)) (fun v7 =>
 ifb (!v7) (
 k_fin false) (
 yV β L p1 (fun v8 v9 =>
 chk ((List.length v8)=4∧0+4≤4) (
 lt (yl [(V.sc (.int .u32 (0:Int))),(V.gs 35 ([]:List (List V))),(V.gs 2 ([]:List (List V))),(V.sc (.int .u32 (0:Int)))] 0 v8) fun r10 =>
 ifb ((v9:Int) != (0:Int)) (
 cLd 35 r10 1 fun v11 =>
 cLd 2 r10 2 fun v12 =>
 lt (IntKind.wrap .i64 ((((List.length v11:Nat):Int):Int)+((List.length v12:Nat):Int))) fun x13 =>
 k_fin ((x13:Int) == (0:Int))) (
 chk (0+4≤(List.length r10)) (
 xX β L (List.map V.dem (List.take 4 r10)) true (fun v14 v15 =>
 ifb ((v15:Int) == (0:Int)) (
 yf β L v14 p1 (fun v16 =>
 k_fin v16)) (
 k_fin false)))))))))))))) (
 yV β L p1 (fun v17 v18 =>
 chk ((List.length v17)=4∧0+4≤4) (
 lt (yl [(V.sc (.int .u32 (0:Int))),(V.gs 35 ([]:List (List V))),(V.gs 2 ([]:List (List V))),(V.sc (.int .u32 (0:Int)))] 0 v17) fun r19 =>
 ifb ((v18:Int) != (0:Int)) (
 cLd 35 r19 1 fun v20 =>
 cLd 2 r19 2 fun v21 =>
 lt (IntKind.wrap .i64 ((((List.length v20:Nat):Int):Int)+((List.length v21:Nat):Int))) fun x22 =>
 k_fin ((x22:Int) == (0:Int))) (
 chk (0+4≤(List.length r19)) (
 xX β L (List.map V.dem (List.take 4 r19)) true (fun v23 v24 =>
 ifb ((v24:Int) == (0:Int)) (
 yf β L v23 p1 (fun v25 =>
 k_fin v25)) (
 k_fin false)))))))))))))))
abbrev zzV:=∀ (β:Type),Nat→List V→List (List V)→(Bool→Option β)→Option β
def zsv (β:Type) (L:Nat) (p0:List V) (p1:List (List V)) (k_fin:Bool→Option β):Option β:=zy7 yL zc7 xX yV yM yf L p0 p1 k_fin
def zHK (zsv:zzV) (L:Nat) (β:Type) (args:List V) (bor:Bor) (k:KK β):Option β:=match args,bor with
 | [a0,a1],[]=>aG a0 fun p0=>aL 1 a1 fun p1=>zsv β L p0 p1 (fun p0=>k (V.sc (.bool p0)) [])
 | _,_=>none
def gls:List (Nat × List V):=[]
def fg:List (Nat × Nat):=[(3,119),(4,120),(5,121),(6,122),(7,123),(8,124),(9,125),(10,126),(11,127),(12,128),(13,129),(14,130),(15,131),(16,132),(17,133),(18,134),(19,135),(20,136),(21,137),(22,138),(23,139),(24,140),(25,141),(26,142),(27,143),(28,144),(29,145),(30,146),(31,147),(32,148),(33,149),(34,150),(35,151),(36,152),(37,153),(38,154),(39,155),(40,156),(41,157),(42,158),(43,159),(44,160),(45,161),(46,162),(47,163),(48,164),(49,165),(50,166),(51,167),(52,168),(53,169),(54,170),(55,171),(56,172),(57,173),(58,174),(59,175),(60,176),(61,177),(62,178),(63,179),(64,180),(65,181),(66,182),(67,183),(68,184),(69,185),(70,186),(71,187),(72,188),(73,189),(74,190),(75,191),(76,192),(77,193),(78,194),(79,195),(80,196),(81,197),(82,198),(83,199),(84,200),(85,201),(86,202),(87,203),(88,204),(89,205),(90,206),(91,207),(92,208),(93,209),(94,210)]
def rows:List Row:=[⟨76,192,zoh,zcM⟩,⟨75,191,zok,zhO⟩,⟨41,157,zk4,zfN⟩,⟨89,205,zk3,zfB⟩,⟨67,183,zlA,zfR⟩,⟨66,182,zkx,zfc⟩,⟨42,158,zkI,ze1⟩,⟨21,137,zua,zmU⟩,⟨68,184,zjB,zej⟩,⟨31,147,zrX,za9⟩,⟨30,146,zvd,zcw⟩,⟨12,128,zr5,zkS⟩,⟨28,144,zsB,zlN⟩,⟨34,150,zt8,zev⟩,⟨72,188,zvl,zoM⟩,⟨35,151,zpN,ziY⟩,⟨15,131,ztX,zex⟩,⟨10,126,zqP,zj1⟩,⟨82,198,zqL,zjY⟩,⟨81,197,zjs,zbu⟩,⟨54,170,zsc,zlm⟩,⟨53,169,zl6,zf8⟩,⟨91,207,zkJ,zbK⟩,⟨79,195,ztU,zm0⟩,⟨92,208,zjN,zbv⟩,⟨80,196,zsE,zkZ⟩,⟨83,199,zjK,zbt⟩,⟨57,173,zr1,zlJ⟩,⟨48,164,zqQ,zjT⟩,⟨47,163,zp9,ziI⟩,⟨46,162,zl8,zd8⟩,⟨45,161,zsV,zk8⟩,⟨56,172,zqN,zj6⟩,⟨55,171,zkL,ze8⟩,⟨52,168,zpq,ziS⟩,⟨51,167,zpK,ziL⟩,⟨50,166,znv,zg3⟩,⟨49,165,zr6,zkQ⟩,⟨23,139,zuR,zcb⟩,⟨93,209,zoy,zc0⟩,⟨84,200,zss,zkY⟩,⟨58,174,zjM,zem⟩,⟨85,201,zqG,zjR⟩,⟨59,175,zjL,zee⟩,⟨86,202,zqs,zjV⟩,⟨60,176,zju,zef⟩,⟨94,210,zrT,zlr⟩,⟨87,203,zjj,zek⟩,⟨77,193,zon,zhW⟩,⟨88,204,zpg,ziQ⟩,⟨62,178,zi5,zdL⟩,⟨61,177,zip,zdA⟩,⟨24,140,zqv,zaP⟩,⟨63,179,zr9,zlC⟩,⟨25,141,zr0,zk6⟩,⟨64,180,zsq,zld⟩,⟨26,142,zoi,zhZ⟩,⟨14,130,zqV,zke⟩,⟨65,181,znB,zgS⟩,⟨27,143,zod,zaJ⟩,⟨7,123,zna,zgJ⟩,⟨29,145,zqW,zt6⟩,⟨11,127,zu9,zxQ⟩,⟨78,194,zoj,zqH⟩,⟨43,159,zk5,znm⟩,⟨69,185,zkH,zma⟩,⟨44,160,zkv,zl3⟩,⟨22,138,zpC,zsD⟩,⟨90,206,zlV,znl⟩,⟨71,187,zjF,zla⟩,⟨70,186,zsW,zuI⟩,⟨33,149,zou,zqU⟩,⟨32,148,zqM,zt1⟩,⟨13,129,zot,zqT⟩,⟨8,124,zl9,zom⟩,⟨9,125,zoq,zqy⟩]
theorem zxT:zN Try.prog (xH fg gls) zoh 76=some zcM:=by kernel_rfl
theorem zyt:zN Try.prog (xH fg gls) zok 75=some zhO:=by kernel_rfl
theorem zvA:zN Try.prog (xH fg gls) zk4 41=some zfN:=by kernel_rfl
theorem zuW:zN Try.prog (xH fg gls) zk3 89=some zfB:=by kernel_rfl
theorem zvo:zN Try.prog (xH fg gls) zlA 67=some zfR:=by kernel_rfl
theorem zug:zN Try.prog (xH fg gls) zkx 66=some zfc:=by kernel_rfl
theorem zuk:zN Try.prog (xH fg gls) zkI 42=some ze1:=by kernel_rfl
theorem zDr:zN Try.prog (xH fg gls) zua 21=some zmU:=by kernel_rfl
theorem ztL:zN Try.prog (xH fg gls) zjB 68=some zej:=by kernel_rfl
theorem zBU:zN Try.prog (xH fg gls) zrX 31=some za9:=by kernel_rfl
theorem zEG:zN Try.prog (xH fg gls) zvd 30=some zcw:=by kernel_rfl
theorem zCt:zN Try.prog (xH fg gls) zr5 12=some zkS:=by kernel_rfl
theorem zB2:zN Try.prog (xH fg gls) zsB 28=some zlN:=by kernel_rfl
theorem zDg:zN Try.prog (xH fg gls) zt8 34=some zev:=by kernel_rfl
theorem zEp:zN Try.prog (xH fg gls) zvl 72=some zoM:=by kernel_rfl
theorem zzJ:zN Try.prog (xH fg gls) zpN 35=some ziY:=by kernel_rfl
theorem zC8:zN Try.prog (xH fg gls) ztX 15=some zex:=by kernel_rfl
theorem zAO:zN Try.prog (xH fg gls) zqP 10=some zj1:=by kernel_rfl
theorem zBd:zN Try.prog (xH fg gls) zqL 82=some zjY:=by kernel_rfl
theorem ztc:zN Try.prog (xH fg gls) zjs 81=some zbu:=by kernel_rfl
theorem zCh:zN Try.prog (xH fg gls) zsc 54=some zlm:=by kernel_rfl
theorem zv3:zN Try.prog (xH fg gls) zl6 53=some zf8:=by kernel_rfl
theorem zul:zN Try.prog (xH fg gls) zkJ 91=some zbK:=by kernel_rfl
theorem zC6:zN Try.prog (xH fg gls) ztU 79=some zm0:=by kernel_rfl
theorem ztx:zN Try.prog (xH fg gls) zjN 92=some zbv:=by kernel_rfl
theorem zBv:zN Try.prog (xH fg gls) zsE 80=some zkZ:=by kernel_rfl
theorem zs4:zN Try.prog (xH fg gls) zjK 83=some zbt:=by kernel_rfl
theorem zCx:zN Try.prog (xH fg gls) zr1 57=some zlJ:=by kernel_rfl
theorem zBa:zN Try.prog (xH fg gls) zqQ 48=some zjT:=by kernel_rfl
theorem zzX:zN Try.prog (xH fg gls) zp9 47=some ziI:=by kernel_rfl
theorem zwh:zN Try.prog (xH fg gls) zl8 46=some zd8:=by kernel_rfl
theorem zB0:zN Try.prog (xH fg gls) zsV 45=some zk8:=by kernel_rfl
theorem zBc:zN Try.prog (xH fg gls) zqN 56=some zj6:=by kernel_rfl
theorem zuh:zN Try.prog (xH fg gls) zkL 55=some ze8:=by kernel_rfl
theorem zzE:zN Try.prog (xH fg gls) zpq 52=some ziS:=by kernel_rfl
theorem zzs:zN Try.prog (xH fg gls) zpK 51=some ziL:=by kernel_rfl
theorem zwQ:zN Try.prog (xH fg gls) znv 50=some zg3:=by kernel_rfl
theorem zCw:zN Try.prog (xH fg gls) zr6 49=some zkQ:=by kernel_rfl
theorem zEB:zN Try.prog (xH fg gls) zuR 23=some zcb:=by kernel_rfl
theorem zxC:zN Try.prog (xH fg gls) zoy 93=some zc0:=by kernel_rfl
theorem zBJ:zN Try.prog (xH fg gls) zss 84=some zkY:=by kernel_rfl
theorem ztC:zN Try.prog (xH fg gls) zjM 58=some zem:=by kernel_rfl
theorem zAV:zN Try.prog (xH fg gls) zqG 85=some zjR:=by kernel_rfl
theorem ztb:zN Try.prog (xH fg gls) zjL 59=some zee:=by kernel_rfl
theorem zAZ:zN Try.prog (xH fg gls) zqs 86=some zjV:=by kernel_rfl
theorem zto:zN Try.prog (xH fg gls) zju 60=some zef:=by kernel_rfl
theorem zCI:zN Try.prog (xH fg gls) zrT 94=some zlr:=by kernel_rfl
theorem ztz:zN Try.prog (xH fg gls) zjj 87=some zek:=by kernel_rfl
theorem zyp:zN Try.prog (xH fg gls) zon 77=some zhW:=by kernel_rfl
theorem zy9:zN Try.prog (xH fg gls) zpg 88=some ziQ:=by kernel_rfl
theorem zrZ:zN Try.prog (xH fg gls) zi5 62=some zdL:=by kernel_rfl
theorem zq7:zN Try.prog (xH fg gls) zip 61=some zdA:=by kernel_rfl
theorem zBl:zN Try.prog (xH fg gls) zqv 24=some zaP:=by kernel_rfl
theorem zCT:zN Try.prog (xH fg gls) zr9 63=some zlC:=by kernel_rfl
theorem zCV:zN Try.prog (xH fg gls) zr0 25=some zk6:=by kernel_rfl
theorem zCB:zN Try.prog (xH fg gls) zsq 64=some zld:=by kernel_rfl
theorem zxY:zN Try.prog (xH fg gls) zoi 26=some zhZ:=by kernel_rfl
theorem zAF:zN Try.prog (xH fg gls) zqV 14=some zke:=by kernel_rfl
theorem zwW:zN Try.prog (xH fg gls) znB 65=some zgS:=by kernel_rfl
theorem zx6:zN Try.prog (xH fg gls) zod 27=some zaJ:=by kernel_rfl
theorem zxm:zN Try.prog (xH fg gls) zna 7=some zgJ:=by kernel_rfl
theorem zAQ:zN Try.prog (xH fg gls) zqW 29=some zt6:=by kernel_rfl
theorem zEH:zN Try.prog (xH fg gls) zu9 11=some zxQ:=by kernel_rfl
theorem zyN:zN Try.prog (xH fg gls) zoj 78=some zqH:=by kernel_rfl
theorem zuM:zN Try.prog (xH fg gls) zk5 43=some znm:=by kernel_rfl
theorem zun:zN Try.prog (xH fg gls) zkH 69=some zma:=by kernel_rfl
theorem zur:zN Try.prog (xH fg gls) zkv 44=some zl3:=by kernel_rfl
theorem zzQ:zN Try.prog (xH fg gls) zpC 22=some zsD:=by kernel_rfl
theorem zu3:zN Try.prog (xH fg gls) zlV 90=some znl:=by kernel_rfl
theorem zs6:zN Try.prog (xH fg gls) zjF 71=some zla:=by kernel_rfl
theorem zBG:zN Try.prog (xH fg gls) zsW 70=some zuI:=by kernel_rfl
theorem zxA:zN Try.prog (xH fg gls) zou 33=some zqU:=by kernel_rfl
theorem zAJ:zN Try.prog (xH fg gls) zqM 32=some zt1:=by kernel_rfl
theorem zxK:zN Try.prog (xH fg gls) zot 13=some zqT:=by kernel_rfl
theorem zv2:zN Try.prog (xH fg gls) zl9 8=some zom:=by kernel_rfl
theorem zx4:zN Try.prog (xH fg gls) zoq 9=some zqy:=by kernel_rfl
theorem zHU:∀ r ∈ rows,(r.f,r.g) ∈ fg∧zgL Try.prog r.f=true∧zN Try.prog (xH fg gls) r.h r.f=some r.c:=by
 intro r hr
 simp only [rows,List.mem_cons,List.not_mem_nil,or_false] at hr
 rcases hr with rfl | rfl | rfl | rfl | rfl | rfl | rfl | rfl | rfl | rfl | rfl | rfl | rfl | rfl | rfl | rfl | rfl | rfl | rfl | rfl | rfl | rfl | rfl | rfl | rfl | rfl | rfl | rfl | rfl | rfl | rfl | rfl | rfl | rfl | rfl | rfl | rfl | rfl | rfl | rfl | rfl | rfl | rfl | rfl | rfl | rfl | rfl | rfl | rfl | rfl | rfl | rfl | rfl | rfl | rfl | rfl | rfl | rfl | rfl | rfl | rfl | rfl | rfl | rfl | rfl | rfl | rfl | rfl | rfl | rfl | rfl | rfl | rfl | rfl | rfl | rfl
 ·exact ⟨of_decide_eq_true (by kernel_rfl),by kernel_rfl,zxT⟩
 ·exact ⟨of_decide_eq_true (by kernel_rfl),by kernel_rfl,zyt⟩
 ·exact ⟨of_decide_eq_true (by kernel_rfl),by kernel_rfl,zvA⟩
 ·exact ⟨of_decide_eq_true (by kernel_rfl),by kernel_rfl,zuW⟩
 ·exact ⟨of_decide_eq_true (by kernel_rfl),by kernel_rfl,zvo⟩
 ·exact ⟨of_decide_eq_true (by kernel_rfl),by kernel_rfl,zug⟩
 ·exact ⟨of_decide_eq_true (by kernel_rfl),by kernel_rfl,zuk⟩
 ·exact ⟨of_decide_eq_true (by kernel_rfl),by kernel_rfl,zDr⟩
 ·exact ⟨of_decide_eq_true (by kernel_rfl),by kernel_rfl,ztL⟩
 ·exact ⟨of_decide_eq_true (by kernel_rfl),by kernel_rfl,zBU⟩
 ·exact ⟨of_decide_eq_true (by kernel_rfl),by kernel_rfl,zEG⟩
 ·exact ⟨of_decide_eq_true (by kernel_rfl),by kernel_rfl,zCt⟩
 ·exact ⟨of_decide_eq_true (by kernel_rfl),by kernel_rfl,zB2⟩
 ·exact ⟨of_decide_eq_true (by kernel_rfl),by kernel_rfl,zDg⟩
 ·exact ⟨of_decide_eq_true (by kernel_rfl),by kernel_rfl,zEp⟩
 ·exact ⟨of_decide_eq_true (by kernel_rfl),by kernel_rfl,zzJ⟩
 ·exact ⟨of_decide_eq_true (by kernel_rfl),by kernel_rfl,zC8⟩
 ·exact ⟨of_decide_eq_true (by kernel_rfl),by kernel_rfl,zAO⟩
 ·exact ⟨of_decide_eq_true (by kernel_rfl),by kernel_rfl,zBd⟩
 ·exact ⟨of_decide_eq_true (by kernel_rfl),by kernel_rfl,ztc⟩
 ·exact ⟨of_decide_eq_true (by kernel_rfl),by kernel_rfl,zCh⟩
 ·exact ⟨of_decide_eq_true (by kernel_rfl),by kernel_rfl,zv3⟩
 ·exact ⟨of_decide_eq_true (by kernel_rfl),by kernel_rfl,zul⟩
 ·exact ⟨of_decide_eq_true (by kernel_rfl),by kernel_rfl,zC6⟩
 ·exact ⟨of_decide_eq_true (by kernel_rfl),by kernel_rfl,ztx⟩
 ·exact ⟨of_decide_eq_true (by kernel_rfl),by kernel_rfl,zBv⟩
 ·exact ⟨of_decide_eq_true (by kernel_rfl),by kernel_rfl,zs4⟩
 ·exact ⟨of_decide_eq_true (by kernel_rfl),by kernel_rfl,zCx⟩
 ·exact ⟨of_decide_eq_true (by kernel_rfl),by kernel_rfl,zBa⟩
 ·exact ⟨of_decide_eq_true (by kernel_rfl),by kernel_rfl,zzX⟩
 ·exact ⟨of_decide_eq_true (by kernel_rfl),by kernel_rfl,zwh⟩
 ·exact ⟨of_decide_eq_true (by kernel_rfl),by kernel_rfl,zB0⟩
 ·exact ⟨of_decide_eq_true (by kernel_rfl),by kernel_rfl,zBc⟩
 ·exact ⟨of_decide_eq_true (by kernel_rfl),by kernel_rfl,zuh⟩
 ·exact ⟨of_decide_eq_true (by kernel_rfl),by kernel_rfl,zzE⟩
 ·exact ⟨of_decide_eq_true (by kernel_rfl),by kernel_rfl,zzs⟩
 ·exact ⟨of_decide_eq_true (by kernel_rfl),by kernel_rfl,zwQ⟩
 ·exact ⟨of_decide_eq_true (by kernel_rfl),by kernel_rfl,zCw⟩
 ·exact ⟨of_decide_eq_true (by kernel_rfl),by kernel_rfl,zEB⟩
 ·exact ⟨of_decide_eq_true (by kernel_rfl),by kernel_rfl,zxC⟩
 ·exact ⟨of_decide_eq_true (by kernel_rfl),by kernel_rfl,zBJ⟩
 ·exact ⟨of_decide_eq_true (by kernel_rfl),by kernel_rfl,ztC⟩
 ·exact ⟨of_decide_eq_true (by kernel_rfl),by kernel_rfl,zAV⟩
 ·exact ⟨of_decide_eq_true (by kernel_rfl),by kernel_rfl,ztb⟩
 ·exact ⟨of_decide_eq_true (by kernel_rfl),by kernel_rfl,zAZ⟩
 ·exact ⟨of_decide_eq_true (by kernel_rfl),by kernel_rfl,zto⟩
 ·exact ⟨of_decide_eq_true (by kernel_rfl),by kernel_rfl,zCI⟩
 ·exact ⟨of_decide_eq_true (by kernel_rfl),by kernel_rfl,ztz⟩
 ·exact ⟨of_decide_eq_true (by kernel_rfl),by kernel_rfl,zyp⟩
 ·exact ⟨of_decide_eq_true (by kernel_rfl),by kernel_rfl,zy9⟩
 ·exact ⟨of_decide_eq_true (by kernel_rfl),by kernel_rfl,zrZ⟩
 ·exact ⟨of_decide_eq_true (by kernel_rfl),by kernel_rfl,zq7⟩
 ·exact ⟨of_decide_eq_true (by kernel_rfl),by kernel_rfl,zBl⟩
 ·exact ⟨of_decide_eq_true (by kernel_rfl),by kernel_rfl,zCT⟩
 ·exact ⟨of_decide_eq_true (by kernel_rfl),by kernel_rfl,zCV⟩
 ·exact ⟨of_decide_eq_true (by kernel_rfl),by kernel_rfl,zCB⟩
 ·exact ⟨of_decide_eq_true (by kernel_rfl),by kernel_rfl,zxY⟩
 ·exact ⟨of_decide_eq_true (by kernel_rfl),by kernel_rfl,zAF⟩
 ·exact ⟨of_decide_eq_true (by kernel_rfl),by kernel_rfl,zwW⟩
 ·exact ⟨of_decide_eq_true (by kernel_rfl),by kernel_rfl,zx6⟩
 ·exact ⟨of_decide_eq_true (by kernel_rfl),by kernel_rfl,zxm⟩
 ·exact ⟨of_decide_eq_true (by kernel_rfl),by kernel_rfl,zAQ⟩
 ·exact ⟨of_decide_eq_true (by kernel_rfl),by kernel_rfl,zEH⟩
 ·exact ⟨of_decide_eq_true (by kernel_rfl),by kernel_rfl,zyN⟩
 ·exact ⟨of_decide_eq_true (by kernel_rfl),by kernel_rfl,zuM⟩
 ·exact ⟨of_decide_eq_true (by kernel_rfl),by kernel_rfl,zun⟩
 ·exact ⟨of_decide_eq_true (by kernel_rfl),by kernel_rfl,zur⟩
 ·exact ⟨of_decide_eq_true (by kernel_rfl),by kernel_rfl,zzQ⟩
 ·exact ⟨of_decide_eq_true (by kernel_rfl),by kernel_rfl,zu3⟩
 ·exact ⟨of_decide_eq_true (by kernel_rfl),by kernel_rfl,zs6⟩
 ·exact ⟨of_decide_eq_true (by kernel_rfl),by kernel_rfl,zBG⟩
 ·exact ⟨of_decide_eq_true (by kernel_rfl),by kernel_rfl,zxA⟩
 ·exact ⟨of_decide_eq_true (by kernel_rfl),by kernel_rfl,zAJ⟩
 ·exact ⟨of_decide_eq_true (by kernel_rfl),by kernel_rfl,zxK⟩
 ·exact ⟨of_decide_eq_true (by kernel_rfl),by kernel_rfl,zv2⟩
 ·exact ⟨of_decide_eq_true (by kernel_rfl),by kernel_rfl,zx4⟩
theorem zJb:Try.prog.follows .mixedOrders=true:=by kernel_rfl
theorem zJe:zGD fg=true:=by kernel_rfl
theorem zJa:zgW Try.prog (xH fg gls) ztJ:=zH3 (by kernel_rfl)
theorem zI7 (L d:Nat):zgW Try.prog (xH fg gls) (evF (xM rows) ztJ L d):=zIn zJb zJe zJa zHU L d
theorem zkj (L:Nat):FOk (xM rows) L 192 (zeC yu L) 1:=xF (D:=0) (by kernel_rfl) fun m hm=>⟨zbi,zbk L,zG,zv0 L⟩
theorem zcx (L:Nat):FOk (xM rows) L 191 (zbI zg L) 1:=xF (D:=0) (by kernel_rfl) fun m hm=>⟨zlo,zlD L,zG,zvU L⟩
theorem zhI (L:Nat):FOk (xM rows) L 157 (zc5 xc L) 2:=xF (D:=1) (by kernel_rfl) fun m hm=>⟨ziA,zih yu zg L,(yp (yp zG (zkj L m (by omega))) (zcx L m (by omega))),ztN L⟩
theorem zup (L:Nat):FOk (xM rows) L 205 (zgc xV L) 2:=xF (D:=1) (by kernel_rfl) fun m hm=>⟨zh9,zie yu zg L,(yp (yp zG (zkj L m (by omega))) (zcx L m (by omega))),ztu L⟩
theorem zl5 (L:Nat):FOk (xM rows) L 183 (zd7 xd L) 2:=xF (D:=1) (by kernel_rfl) fun m hm=>⟨ziD,zir yu zg L,(yp (yp zG (zkj L m (by omega))) (zcx L m (by omega))),ztG L⟩
theorem zkT (L:Nat):FOk (xM rows) L 182 (zdH zd L) 3:=xF (D:=2) (by kernel_rfl) fun m hm=>⟨zhE,zhB zg xV xc xd L,(yp (yp (yp (yp zG (zcx L m (by omega))) (zup L m (by omega))) (zhI L m (by omega))) (zl5 L m (by omega))),zsg L⟩
theorem zti (L:Nat):FOk (xM rows) L 158 (zfL zS L) 2:=xF (D:=1) (by kernel_rfl) fun m hm=>⟨zhu,zhv zg L,(yp zG (zcx L m (by omega))),zrY L⟩
theorem zB4 (L:Nat):FOk (xM rows) L 137 (zoL yg L) 3:=xF (D:=2) (by kernel_rfl) fun m hm=>⟨zqX,zrv zS xc L,(yp (yp zG (zti L m (by omega))) (zhI L m (by omega))),zA8 L⟩
theorem zsR (L:Nat):FOk (xM rows) L 184 (zfl yd L) 4:=xF (D:=3) (by kernel_rfl) fun m hm=>⟨zg4,zhc zd zg L,(yp (yp zG (zkT L m (by omega))) (zcx L m (by omega))),zrg L⟩
theorem zob (L:Nat):FOk (xM rows) L 147 (zhl xf L) 5:=xF (D:=4) (by kernel_rfl) fun m hm=>⟨zF,yF xc zd yg xd yd L,(yp (yp (yp (yp (yp zG (zhI L m (by omega))) (zkT L m (by omega))) (zB4 L m (by omega))) (zl5 L m (by omega))) (zsR L m (by omega))),zzG L⟩
theorem zqY (L:Nat):FOk (xM rows) L 146 (zky zq L) 6:=xF (D:=5) (by kernel_rfl) fun m hm=>⟨xT,zU xf L,(yp zG (zob L m (by omega))),zBI L⟩
theorem zA4 (L:Nat):FOk (xM rows) L 128 (zjz xX L) 7:=xF (D:=6) (by kernel_rfl) fun m hm=>⟨zqe,zp6 zq xf L,(yp (yp zG (zqY L m (by omega))) (zob L m (by omega))),zzK L⟩
theorem zBf (L:Nat):FOk (xM rows) L 144 (zmN zaV L) 7:=xF (D:=6) (by kernel_rfl) fun m hm=>⟨zpA,zpZ zq xf L,(yp (yp zG (zqY L m (by omega))) (zob L m (by omega))),zyW L⟩
theorem zCA (L:Nat):FOk (xM rows) L 150 (zoJ xx L) 1:=xF (D:=0) (by kernel_rfl) fun m hm=>⟨zcv,zcs L,zG,zBb L⟩
theorem zDo (L:Nat):FOk (xM rows) L 188 (zqr zb4 L) 1:=xF (D:=0) (by kernel_rfl) fun m hm=>⟨ztS,ztP L,zG,zBz L⟩
theorem zxW (L:Nat):FOk (xM rows) L 151 (zj3 xq L) 2:=xF (D:=1) (by kernel_rfl) fun m hm=>⟨zmu,zmH zb4 L,(yp zG (zDo L m (by omega))),zw1 L⟩
theorem zC3 (L:Nat):FOk (xM rows) L 131 (zoN zbx L) 7:=xF (D:=6) (by kernel_rfl) fun m hm=>⟨zcr,zct zq xx xq L,(yp (yp (yp zG (zqY L m (by omega))) (zCA L m (by omega))) (zxW L m (by omega))),zBh L⟩
theorem zzF (L:Nat):FOk (xM rows) L 126 (zgl yL L) 8:=xF (D:=7) (by kernel_rfl) fun m hm=>⟨znR,znL xX zaV zbx L,(yp (yp (yp zG (zA4 L m (by omega))) (zBf L m (by omega))) (zC3 L m (by omega))),zxw L⟩
theorem zgw (L:Nat):FOk (xM rows) L 198 (zdJ ze L) 1:=xF (D:=0) (by kernel_rfl) fun m hm=>⟨znM,zoc L,zG,zyL L⟩
theorem zsa (L:Nat):FOk (xM rows) L 197 (zfb xK L) 2:=xF (D:=1) (by kernel_rfl) fun m hm=>⟨zah,zaf ze L,(yp zG (zgw L m (by omega))),zrE L⟩
theorem zt3 (L:Nat):FOk (xM rows) L 170 (zjH zL L) 3:=xF (D:=2) (by kernel_rfl) fun m hm=>⟨zpd,zo7 xK L,(yp zG (zsa L m (by omega))),zy0 L⟩
theorem zuv (L:Nat):FOk (xM rows) L 169 (zg6 yc L) 4:=xF (D:=3) (by kernel_rfl) fun m hm=>⟨zi8,zjf zL L,(yp zG (zt3 L m (by omega))),zub L⟩
theorem zs0 (L:Nat):FOk (xM rows) L 207 (zfx xP L) 2:=xF (D:=1) (by kernel_rfl) fun m hm=>⟨zau,zav ze L,(yp zG (zgw L m (by omega))),zsF L⟩
theorem zCZ (L:Nat):FOk (xM rows) L 195 (zoO zaQ L) 3:=xF (D:=2) (by kernel_rfl) fun m hm=>⟨zq6,zrO xP L,(yp zG (zs0 L m (by omega))),zAX L⟩
theorem zsH (L:Nat):FOk (xM rows) L 208 (zfg yN L) 2:=xF (D:=1) (by kernel_rfl) fun m hm=>⟨zak,zaj ze L,(yp zG (zgw L m (by omega))),zrh L⟩
theorem zA3 (L:Nat):FOk (xM rows) L 196 (zm9 zaH L) 3:=xF (D:=2) (by kernel_rfl) fun m hm=>⟨zpe,zpH yN L,(yp zG (zsH L m (by omega))),zy8 L⟩
theorem zsd (L:Nat):FOk (xM rows) L 199 (zeZ xN L) 2:=xF (D:=1) (by kernel_rfl) fun m hm=>⟨zae,zai ze L,(yp zG (zgw L m (by omega))),zq0 L⟩
theorem zt2 (L:Nat):FOk (xM rows) L 173 (zjD zP L) 3:=xF (D:=2) (by kernel_rfl) fun m hm=>⟨zp8,zpO xN L,(yp zG (zsd L m (by omega))),zzP L⟩
theorem zsw (L:Nat):FOk (xM rows) L 164 (zh5 zK L) 4:=xF (D:=3) (by kernel_rfl) fun m hm=>⟨zn2,znJ zaQ zaH zL zP L,(yp (yp (yp (yp zG (zCZ L m (by omega))) (zA3 L m (by omega))) (zt3 L m (by omega))) (zt2 L m (by omega))),zyv L⟩
theorem zyF (L:Nat):FOk (xM rows) L 163 (zjQ zac L) 5:=xF (D:=4) (by kernel_rfl) fun m hm=>⟨zmp,zml zK L,(yp zG (zsw L m (by omega))),zwZ L⟩
theorem zu0 (L:Nat):FOk (xM rows) L 162 (zhd xR L) 6:=xF (D:=5) (by kernel_rfl) fun m hm=>⟨zjb,zjg zac L,(yp zG (zyF L m (by omega))),zus L⟩
theorem zA5 (L:Nat):FOk (xM rows) L 161 (zm5 xe L) 7:=xF (D:=6) (by kernel_rfl) fun m hm=>⟨zpl,zp0 xR L,(yp zG (zu0 L m (by omega))),zyX L⟩
theorem zzt (L:Nat):FOk (xM rows) L 172 (zlG zal L) 2:=xF (D:=1) (by kernel_rfl) fun m hm=>⟨znU,zn3 ze L,(yp zG (zgw L m (by omega))),zyr L⟩
theorem zsY (L:Nat):FOk (xM rows) L 171 (zfE xb L) 3:=xF (D:=2) (by kernel_rfl) fun m hm=>⟨zhD,zhJ zal L,(yp zG (zzt L m (by omega))),zsU L⟩
theorem zsf (L:Nat):FOk (xM rows) L 162 (ze4 xa L) 4:=xF (D:=3) (by kernel_rfl) fun m hm=>⟨zgN,zgT zP L,(yp zG (zt2 L m (by omega))),zro L⟩
theorem zyg (L:Nat):FOk (xM rows) L 168 (zjP y5 L) 5:=xF (D:=4) (by kernel_rfl) fun m hm=>⟨zms,zmI zK zg L,(yp (yp zG (zsw L m (by omega))) (zcx L m (by omega))),zwO L⟩
theorem zyb (L:Nat):FOk (xM rows) L 167 (zkb zab L) 6:=xF (D:=5) (by kernel_rfl) fun m hm=>⟨zmr,zmw y5 L,(yp zG (zyg L m (by omega))),zwS L⟩
theorem zwn (L:Nat):FOk (xM rows) L 166 (zhL zW L) 7:=xF (D:=6) (by kernel_rfl) fun m hm=>⟨zkk,zki zab L,(yp zG (zyb L m (by omega))),zvt L⟩
theorem zAG (L:Nat):FOk (xM rows) L 165 (zmY ye L) 8:=xF (D:=7) (by kernel_rfl) fun m hm=>⟨zqd,zpa zW L,(yp zG (zwn L m (by omega))),zzo L⟩
theorem zwu (L:Nat):FOk (xM rows) L 139 (znh yS L) 9:=xF (D:=8) (by kernel_rfl) fun m hm=>⟨xO,yO yc xe xb xa ye L,(yp (yp (yp (yp (yp zG (zuv L m (by omega))) (zA5 L m (by omega))) (zsY L m (by omega))) (zsf L m (by omega))) (zAG L m (by omega))),zB7 L⟩
theorem zkg (L:Nat):FOk (xM rows) L 209 (zez xr L) 1:=xF (D:=0) (by kernel_rfl) fun m hm=>⟨zbm,zbl L,zG,zvY L⟩
theorem zAY (L:Nat):FOk (xM rows) L 200 (zmQ zaF L) 2:=xF (D:=1) (by kernel_rfl) fun m hm=>⟨zpt,zpf xr L,(yp zG (zkg L m (by omega))),zzw L⟩
theorem zrU (L:Nat):FOk (xM rows) L 174 (zeU zb L) 3:=xF (D:=2) (by kernel_rfl) fun m hm=>⟨zgV,zhb zaF L,(yp zG (zAY L m (by omega))),zre L⟩
theorem zrP (L:Nat):FOk (xM rows) L 201 (ziC xJ L) 2:=xF (D:=1) (by kernel_rfl) fun m hm=>⟨zn4,znP xr L,(yp zG (zkg L m (by omega))),zxr L⟩
theorem zsJ (L:Nat):FOk (xM rows) L 175 (ze7 yb L) 3:=xF (D:=2) (by kernel_rfl) fun m hm=>⟨zgM,zg2 xJ L,(yp zG (zrP L m (by omega))),zrn L⟩
theorem zzR (L:Nat):FOk (xM rows) L 202 (zlh zao L) 1:=xF (D:=0) (by kernel_rfl) fun m hm=>⟨zn0,znG L,zG,zyJ L⟩
theorem zrQ (L:Nat):FOk (xM rows) L 176 (zfa zc L) 2:=xF (D:=1) (by kernel_rfl) fun m hm=>⟨zgU,zgY zao L,(yp zG (zzR L m (by omega))),zrN L⟩
theorem zAH (L:Nat):FOk (xM rows) L 210 (zmW zaE L) 2:=xF (D:=1) (by kernel_rfl) fun m hm=>⟨zpQ,zpi xr L,(yp zG (zkg L m (by omega))),zzx L⟩
theorem zsy (L:Nat):FOk (xM rows) L 203 (zeY yK L) 3:=xF (D:=2) (by kernel_rfl) fun m hm=>⟨zg8,zg0 zaE L,(yp zG (zAH L m (by omega))),zrJ L⟩
theorem zxa (L:Nat):FOk (xM rows) L 193 (zcd xn L) 1:=xF (D:=0) (by kernel_rfl) fun m hm=>⟨zlj,zkO L,zG,zv5 L⟩
theorem zyf (L:Nat):FOk (xM rows) L 204 (zjS z5 L) 3:=xF (D:=2) (by kernel_rfl) fun m hm=>⟨zmc,zmi xJ xn L,(yp (yp zG (zrP L m (by omega))) (zxa L m (by omega))),zw2 L⟩
theorem zjq (L:Nat):FOk (xM rows) L 178 (zcW za L) 4:=xF (D:=3) (by kernel_rfl) fun m hm=>⟨zgh,zgr z5 L,(yp zG (zyf L m (by omega))),zqg L⟩
theorem zqh (L:Nat):FOk (xM rows) L 177 (zdV ya L) 5:=xF (D:=4) (by kernel_rfl) fun m hm=>⟨zfT,zfS yK za L,(yp (yp zG (zsy L m (by omega))) (zjq L m (by omega))),zpv L⟩
theorem zsS (L:Nat):FOk (xM rows) L 140 (zia xE L) 6:=xF (D:=5) (by kernel_rfl) fun m hm=>⟨zB,xA zb yb zc ya za L,(yp (yp (yp (yp (yp zG (zrU L m (by omega))) (zsJ L m (by omega))) (zrQ L m (by omega))) (zqh L m (by omega))) (zjq L m (by omega))),zyT L⟩
theorem zAK (L:Nat):FOk (xM rows) L 179 (zmO zaC L) 1:=xF (D:=0) (by kernel_rfl) fun m hm=>⟨zpk,zpu L,zG,zzH L⟩
theorem zAM (L:Nat):FOk (xM rows) L 141 (zjv yV L) 10:=xF (D:=9) (by kernel_rfl) fun m hm=>⟨zpU,zo9 yS zaC L,(yp (yp zG (zwu L m (by omega))) (zAK L m (by omega))),zy3 L⟩
theorem zAP (L:Nat):FOk (xM rows) L 180 (zmM zaD L) 1:=xF (D:=0) (by kernel_rfl) fun m hm=>⟨zpm,zp3 L,zG,zzf L⟩
theorem zw0 (L:Nat):FOk (xM rows) L 142 (ziO yY L) 7:=xF (D:=6) (by kernel_rfl) fun m hm=>⟨zlg,zlU xE zaD L,(yp (yp zG (zsS L m (by omega))) (zAP L m (by omega))),zwf L⟩
theorem zst (L:Nat):FOk (xM rows) L 130 (zgy yf L) 1:=xF (D:=0) (by kernel_rfl) fun m hm=>⟨znT,znW L,zG,zxX L⟩
theorem zvX (L:Nat):FOk (xM rows) L 181 (zhM zf L) 2:=xF (D:=1) (by kernel_rfl) fun m hm=>⟨zkh,zkl yf L,(yp zG (zst L m (by omega))),zuF L⟩
theorem zw8 (L:Nat):FOk (xM rows) L 143 (zgm yM L) 3:=xF (D:=2) (by kernel_rfl) fun m hm=>⟨xz,zz yf zf L,(yp (yp zG (zst L m (by omega))) (zvX L m (by omega))),zwp L⟩
theorem zvZ (L:Nat):FOk (xM rows) L 123 (zh0 zcl L) 11:=xF (D:=10) (by kernel_rfl) fun m hm=>⟨zkm,zko yL yS xE yV yY yM L,(yp (yp (yp (yp (yp (yp zG (zzF L m (by omega))) (zwu L m (by omega))) (zsS L m (by omega))) (zAM L m (by omega))) (zw0 L m (by omega))) (zw8 L m (by omega))),zu6 L⟩
end
section
set_option linter.unusedVariables false
set_option linter.unusedSimpArgs false
set_option maxRecDepth 100000
variable {β:Type}
def Byt (l:List Int):Prop:=∀ x ∈ l,0≤x∧x≤255
theorem zIU {l:List Int} (h:∀ x ∈ l,(Lit.int .u8 x).wf=true):Byt l:=fun x hx=>zI6 (h x hx)
def zoR (j:List Int) (i:Nat):Nat:=(j.getD i 0).toNat
theorem zmh {j:List Int} (hb:Byt j) (i:Nat):zoR j i≤255∧j.getD i 0=((zoR j i:Nat):Int):=by
 have:0≤j.getD i 0∧j.getD i 0≤255:=by
  rw [List.getD_eq_getElem?_getD]
  by_cases hi:i < j.length
  ·rw [List.getElem?_eq_getElem hi]; exact hb _ (List.getElem_mem hi)
  ·rw [List.getElem?_eq_none (by omega)]; simp
 unfold zoR
 omega
def le (j:List Int) (a:Nat):Nat→Nat
 | 0=>0
 | n+1=>le j a n+zoR j (a+n) * 256 ^ n
theorem zqB {j:List Int} (hb:Byt j) (a:Nat):∀ n,le j a n < 256 ^ n
 | 0=>by simp [le]
 | n+1=>by
  have h1:=zqB hb a n
  have h2:=Nat.mul_le_mul_right (256 ^ n) (zmh hb (a+n)).1
  rw [le,Nat.pow_succ]
  omega
theorem zDL (j:List Int) (a:Nat):∀ n,le j a (n+1)=zoR j a+256 * le j (a+1) n
 | 0=>by simp [le]
 | n+1=>by
  rw [le,zDL j a n,le,Nat.pow_succ,show a+1+n=a+(n+1) by omega,Nat.mul_add]
  have:zoR j (a+(n+1)) * (256 ^ n * 256)=256 * (zoR j (a+(n+1)) * 256 ^ n):=by
   rw [Nat.mul_comm (256 ^ n) 256,← Nat.mul_assoc,← Nat.mul_assoc,Nat.mul_comm 256]
  omega
theorem zFX (i:Nat):256 ^ i=2 ^ (8 * i):=by rw [Nat.pow_mul]
theorem zAg (n x:Nat) (h:x < 2 ^ n):(BitVec.ofInt n (x:Int)).toNat=x:=by
 rw [BitVec.toNat_ofInt,← Int.natCast_emod,Int.toNat_natCast,Nat.mod_eq_of_lt h]
theorem zFE {x n:Nat} (h:x < 2 ^ n):((x:Nat):Int) < 2 ^ n:=by
 have:((x:Nat):Int) < ((2 ^ n:Nat):Int):=by omega
 rwa [Int.natCast_pow] at this
theorem zD0 (kd:IntKind) (hk:kd.signed=false) {a m y:Nat} (hy:y < 2 ^ m) (hs:a * 2 ^ m+y < 2 ^ kd.bits):ior kd ((a * 2 ^ m:Nat):Int) ((y:Nat):Int)=((a * 2 ^ m+y:Nat):Int):=by
 unfold ior
 rw [BitVec.toNat_or,zAg _ _ (by omega),zAg _ _ (by omega),← Nat.shiftLeft_eq,← Nat.shiftLeft_add_eq_or_of_lt hy,Nat.shiftLeft_eq]
 exact zuB hk (by omega) (zFE hs)
theorem zGm (k:IntKind) (a b:Int):ior k a b=ior k b a:=by unfold ior; rw [BitVec.or_comm]
theorem zCe (kd:IntKind) (hk:kd.signed=false) {a m:Nat} (hm:m≤kd.bits) (hs:a * 2 ^ m < 2 ^ kd.bits):zn6 kd ((a:Nat):Int) ((m:Nat):Int)=((a * 2 ^ m:Nat):Int):=by
 unfold zn6
 rw [Int.toNat_natCast,Nat.min_eq_left hm]
 have e:((a:Nat):Int) * 2 ^ m=((a * 2 ^ m:Nat):Int):=by rw [Int.natCast_mul,Int.natCast_pow]; rfl
 rw [e]
 exact zuB hk (by omega) (zFE hs)
theorem zqx (kd:IntKind) (hk:kd.signed=false) {j:List Int} (hb:Byt j) (a i:Nat) (hi:8 * i+8≤kd.bits):ior kd ((le j a i:Nat):Int) (zn6 kd (j.getD (a+i) 0) ((8 * i:Nat):Int))=((le j a (i+1):Nat):Int):=by
 obtain ⟨b1,b2⟩:=zmh hb (a+i)
 have h1:=zqB hb a i
 have hp:2 ^ (8 * i+8)≤2 ^ kd.bits:=Nat.pow_le_pow_right (by decide) hi
 have hq:2 ^ (8 * i+8)=2 ^ (8 * i) * 256:=by rw [Nat.pow_add]
 have h2:=Nat.mul_le_mul_right (2 ^ (8 * i)) b1
 have h3:0 < 2 ^ (8 * i):=Nat.pow_pos (by decide)
 rw [zFX] at h1
 rw [b2,zCe kd hk (by omega) (by omega),zGm,zD0 kd hk h1 (by omega),le,zFX,Nat.add_comm]
theorem zrS {l:List Int} {i:Nat} (h:i < l.length):(zj .u8 l)[i]?=some [.sc (.int .u8 (l.getD i 0))]:=by rw [zGv _ h]; simp [h]
theorem cI8 (n:Int) (k:Int→Option β):cI .u8 [V.sc (.int .u8 n)] 0 k=k n:=zsA rfl k
theorem zr8 (L:Nat) (j:List Int) {a w:Nat} (ha:a≤j.length) (hj:j.length≤100000000) (hw:w≤100) (k:Int→Option β):ze β L (zj .u8 j) (a:Int) (w:Int) k=if a+w≤j.length then k 0 else k 1:=by
 unfold ze zkV
 rw [xL (by omega),zbL,xL (by omega),zJ (by omega) (by omega),zi,zaZ]
 by_cases h:a+w≤j.length
 ·rw [if_neg (by omega),if_pos h]
 ·rw [if_pos (by omega),if_neg h]
theorem zGC (L:Nat) (j:List Int) {a:Int} (w:Int) (ha:a < 0∨a > (j.length:Int)) (k:Int→Option β):ze β L (zj .u8 j) a w k=k 5:=by
 unfold ze zkV
 by_cases h:a < 0
 ·rw [yX h]
 ·rw [xL h,zbL,yX (by omega)]
theorem zCg (L:Nat) {j:List Int} (hb:Byt j) (hj:j.length≤100000000) {a:Nat} (h:a+1≤j.length) (kx:Int→Int→Int→Option β):∀ (n i:Nat),i≤1→1 - i < n →
  zb2 ze L kx n (zj .u8 j) (a:Int) 1 ((le j a i:Nat):Int) 1 (i:Int)=kx a 1 ((le j a 1:Nat):Int)
 | 0,i,h1,h2=>by omega
 | n+1,i,h1,h2=>by
  rw [zb2]
  unfold zeG
  by_cases hi:i < 1
  ·have w1:IntKind.wrap .i64 ((a:Int)+i)=((a+i:Nat):Int):=by rw [zJ (by omega) (by omega)]; omega
   have w2:IntKind.wrap .i64 ((8:Int) * i)=((8 * i:Nat):Int):=by rw [zJ (by omega) (by omega)]; omega
   have hg:=zmh hb (a+i)
   rw [yX (by omega),w1,zi,zgn (zrS (by omega)),cI8,w2,zi,zh (by omega),zi,zqx .u8 rfl hb a i (by show 8 * i+8≤8; omega),zi,zax (by omega),zi]
   exact zCg L hb hj h kx n (i+1) (by omega) (by omega)
  ·have hi:i=1:=by omega
   subst hi
   rw [xL (by omega)]
theorem zJg {L:Nat} (hL:20≤L) {j:List Int} (hb:Byt j) (hj:j.length≤100000000) {a:Nat} (ha:a≤j.length) (k:Int→Int→Int→Option β):zaQ β L (zj .u8 j) (a:Int) k=if a+1≤j.length then k ((le j a 1:Nat):Int) ((a+1:Nat):Int) 0 else k 0 0 1:=by
 unfold zaQ ztq xP zfQ ziF
 rw [show (1:Int)=((1:Nat):Int) from rfl,zr8 L j ha hj (by decide)]
 by_cases h:a+1≤j.length
 ·rw [if_pos h,if_pos h,zu,if_pos rfl]
  refine (zCg L hb hj h _ L 0 (by omega) (by omega)).trans ?_
  unfold zd0
  rw [zJ (by omega) (by omega),zi]
  congr 1
 ·rw [if_neg h,if_neg h,zu,if_neg (by decide)]; rfl
theorem zAA (L:Nat) {j:List Int} (hb:Byt j) (hj:j.length≤100000000) {a:Nat} (h:a+2≤j.length) (kx:Int→Int→Int→Option β):∀ (n i:Nat),i≤2→2 - i < n →
  zbN ze L kx n (zj .u8 j) (a:Int) 2 ((le j a i:Nat):Int) 2 (i:Int)=kx a 2 ((le j a 2:Nat):Int)
 | 0,i,h1,h2=>by omega
 | n+1,i,h1,h2=>by
  rw [zbN]
  unfold zeh
  by_cases hi:i < 2
  ·have w1:IntKind.wrap .i64 ((a:Int)+i)=((a+i:Nat):Int):=by rw [zJ (by omega) (by omega)]; omega
   have w2:IntKind.wrap .i64 ((8:Int) * i)=((8 * i:Nat):Int):=by rw [zJ (by omega) (by omega)]; omega
   have hg:=zmh hb (a+i)
   rw [yX (by omega),w1,zi,zgn (zrS (by omega)),cI8,zGR (by omega) (by omega),zi,w2,zi,zh (by omega),zi,zqx .u16 rfl hb a i (by show 8 * i+8≤16; omega),zi,zax (by omega),zi]
   exact zAA L hb hj h kx n (i+1) (by omega) (by omega)
  ·have hi:i=2:=by omega
   subst hi
   rw [xL (by omega)]
theorem zIC {L:Nat} (hL:20≤L) {j:List Int} (hb:Byt j) (hj:j.length≤100000000) {a:Nat} (ha:a≤j.length) (k:Int→Int→Int→Option β):zaH β L (zj .u8 j) (a:Int) k=if a+2≤j.length then k ((le j a 2:Nat):Int) ((a+2:Nat):Int) 0 else k 0 0 1:=by
 unfold zaH zrp yN ze9 zhw
 rw [show (2:Int)=((2:Nat):Int) from rfl,zr8 L j ha hj (by decide)]
 by_cases h:a+2≤j.length
 ·rw [if_pos h,if_pos h,zu,if_pos rfl]
  refine (zAA L hb hj h _ L 0 (by omega) (by omega)).trans ?_
  unfold zdI
  rw [zJ (by omega) (by omega),zi]
  congr 1
 ·rw [if_neg h,if_neg h,zu,if_neg (by decide)]
theorem zAb (L:Nat) {j:List Int} (hb:Byt j) (hj:j.length≤100000000) {a:Nat} (h:a+4≤j.length) (kx:Int→Int→Int→Option β):∀ (n i:Nat),i≤4→4 - i < n →
  zbR ze L kx n (zj .u8 j) (a:Int) 4 ((le j a i:Nat):Int) 4 (i:Int)=kx a 4 ((le j a 4:Nat):Int)
 | 0,i,h1,h2=>by omega
 | n+1,i,h1,h2=>by
  rw [zbR]
  unfold zed
  by_cases hi:i < 4
  ·have w1:IntKind.wrap .i64 ((a:Int)+i)=((a+i:Nat):Int):=by rw [zJ (by omega) (by omega)]; omega
   have w2:IntKind.wrap .i64 ((8:Int) * i)=((8 * i:Nat):Int):=by rw [zJ (by omega) (by omega)]; omega
   have hg:=zmh hb (a+i)
   rw [yX (by omega),w1,zi,zgn (zrS (by omega)),cI8,zxn (by omega) (by omega),zi,w2,zi,zh (by omega),zi,zqx .u32 rfl hb a i (by show 8 * i+8≤32; omega),zi,zax (by omega),zi]
   exact zAb L hb hj h kx n (i+1) (by omega) (by omega)
  ·have hi:i=4:=by omega
   subst hi
   rw [xL (by omega)]
theorem zF5 {L:Nat} (hL:20≤L) {j:List Int} (hb:Byt j) (hj:j.length≤100000000) {a:Nat} (ha:a≤j.length) (k:Int→Int→Int→Option β):zL β L (zj .u8 j) (a:Int) k=if a+4≤j.length then k ((le j a 4:Nat):Int) ((a+4:Nat):Int) 0 else k 0 0 1:=by
 unfold zL zm6 xK zdk ze5
 rw [show (4:Int)=((4:Nat):Int) from rfl,zr8 L j ha hj (by decide)]
 by_cases h:a+4≤j.length
 ·rw [if_pos h,if_pos h,zu,if_pos rfl]
  refine (zAb L hb hj h _ L 0 (by omega) (by omega)).trans ?_
  unfold zdF
  rw [zJ (by omega) (by omega),zi]
  congr 1
 ·rw [if_neg h,if_neg h,zu,if_neg (by decide)]
theorem zz6 (L:Nat) {j:List Int} (hb:Byt j) (hj:j.length≤100000000) {a:Nat} (h:a+8≤j.length) (kx:Int→Int→Int→Option β):∀ (n i:Nat),i≤8→8 - i < n →
  zbP ze L kx n (zj .u8 j) (a:Int) 8 ((le j a i:Nat):Int) 8 (i:Int)=kx a 8 ((le j a 8:Nat):Int)
 | 0,i,h1,h2=>by omega
 | n+1,i,h1,h2=>by
  rw [zbP]
  unfold zen
  by_cases hi:i < 8
  ·have w1:IntKind.wrap .i64 ((a:Int)+i)=((a+i:Nat):Int):=by rw [zJ (by omega) (by omega)]; omega
   have w2:IntKind.wrap .i64 ((8:Int) * i)=((8 * i:Nat):Int):=by rw [zJ (by omega) (by omega)]; omega
   have hg:=zmh hb (a+i)
   rw [yX (by omega),w1,zi,zgn (zrS (by omega)),cI8,zd1 (by omega) (by omega),zi,w2,zi,zh (by omega),zi,zqx .u64 rfl hb a i (by show 8 * i+8≤64; omega),zi,zax (by omega),zi]
   exact zz6 L hb hj h kx n (i+1) (by omega) (by omega)
  ·have hi:i=8:=by omega
   subst hi
   rw [xL (by omega)]
theorem zFb {L:Nat} (hL:20≤L) {j:List Int} (hb:Byt j) (hj:j.length≤100000000) {a:Nat} (ha:a≤j.length) (k:Int→Int→Int→Option β):zP β L (zj .u8 j) (a:Int) k=if a+8≤j.length then k ((le j a 8:Nat):Int) ((a+8:Nat):Int) 0 else k 0 0 1:=by
 unfold zP zrr xN zeT zhC
 rw [show (8:Int)=((8:Nat):Int) from rfl,zr8 L j ha hj (by decide)]
 by_cases h:a+8≤j.length
 ·rw [if_pos h,if_pos h,zu,if_pos rfl]
  refine (zz6 L hb hj h _ L 0 (by omega) (by omega)).trans ?_
  unfold zdD
  rw [zJ (by omega) (by omega),zi]
  congr 1
 ·rw [if_neg h,if_neg h,zu,if_neg (by decide)]
theorem zH5 (L:Nat) (j:List Int) {a:Int} (ha:a < 0∨a > (j.length:Int)) (k:Int→Int→Int→Option β):zL β L (zj .u8 j) a k=k 0 0 5:=by
 unfold zL zm6 xK zdk ze5
 rw [zGC L j _ ha,zu,if_neg (by decide)]
theorem zCG (L:Nat) {j:List Int} (hb:Byt j) (hj:j.length≤100000000) {a w:Nat} (hw:w≤8) (h:a+w≤j.length) (kx:Int→Int→Int→Option β):∀ (n i:Nat),i≤w→i < n →
  zbX L kx n (zj .u8 j) (a:Int) (w:Int) ((le j (a+i) (w - i):Nat):Int) ((i:Int) - 1)=kx a w ((le j a w:Nat):Int)
 | 0,i,h1,h2=>by omega
 | n+1,0,h1,h2=>by
  rw [zbX]
  unfold zdN
  rw [xL (by omega)]; rfl
 | n+1,i+1,h1,h2=>by
  have e0:((i+1:Nat):Int) - 1=(i:Int):=by omega
  have w1:IntKind.wrap .i64 ((a:Int)+i)=((a+i:Nat):Int):=by rw [zJ (by omega) (by omega)]; omega
  have w3:IntKind.wrap .i64 ((i:Int) - 1)=(i:Int) - 1:=zJ (by omega) (by omega)
  have hl:=zqB hb (a+(i+1)) (w - (i+1))
  have hp:256 ^ (w - (i+1))≤256 ^ 7:=Nat.pow_le_pow_right (by decide) (by omega)
  have hg:=zmh hb (a+i)
  have e1:le j (a+i) (w - i)=le j (a+(i+1)) (w - (i+1)) * 2 ^ 8+zoR j (a+i):=by
   rw [show w - i=(w - (i+1))+1 by omega,zDL,show a+i+1=a+(i+1) by omega]; omega
  have hx:le j (a+(i+1)) (w - (i+1)) * 2 ^ 8+zoR j (a+i) < 2 ^ (IntKind.bits .u64):=by
   show _ < 2 ^ 64
   have:(256:Nat) ^ 7=72057594037927936:=by decide
   have:(2:Nat) ^ 64=18446744073709551616:=by decide
   omega
  rw [zbX]
  unfold zdN
  rw [e0,yX (by omega),show (8:Int)=((8:Nat):Int) from rfl,zCe .u64 rfl (by decide) (by omega),zi,w1,zi,zgn (zrS (by omega)),cI8,zd1 (by omega) (by omega),zi,hg.2,zD0 .u64 rfl (by omega) hx,zi,w3,zi,← e1]
  exact zCG L hb hj hw h kx n i (by omega) (by omega)
theorem zso {L:Nat} (hL:20≤L) {j:List Int} (hb:Byt j) (hj:j.length≤100000000) {a w:Nat} (ha:a≤j.length) (hw:w≤8) (k:Int→Int→Int→Option β):xr β L (zj .u8 j) (a:Int) (w:Int) k=if a+w≤j.length then k ((le j a w:Nat):Int) ((a+w:Nat):Int) 0 else k 0 0 1:=by
 unfold xr ziV zmq
 rw [xL (by omega),zbL,xL (by omega),zJ (by omega) (by omega),zi]
 by_cases h:a+w≤j.length
 ·rw [if_pos h,xL (by omega),zJ (by omega) (by omega),zi]
  have key:=zCG L hb hj hw h (fun p1 p2 p9=>zde L p1 p2 p9 k) L w (Nat.le_refl _) (by omega)
  rw [Nat.sub_self] at key
  refine key.trans ?_
  unfold zde
  rw [zJ (by omega) (by omega),zi]
  congr 1
 ·rw [if_neg h,yX (by omega)]
theorem zHO {L:Nat} (hL:20≤L) {j:List Int} (hb:Byt j) (hj:j.length≤100000000) {a:Nat} (ha:a≤j.length) (k:Int→Int→Int→Option β):zaF β L (zj .u8 j) (a:Int) k=if a+4≤j.length then k ((le j a 4:Nat):Int) ((a+4:Nat):Int) 0 else k 0 0 1:=by
 unfold zaF zrL
 rw [show (4:Int)=((4:Nat):Int) from rfl,zso hL hb hj ha (by decide)]
 have h4:=zqB hb a 4
 have:(256:Nat) ^ 4=4294967296:=by decide
 by_cases h:a+4≤j.length
 ·rw [if_pos h,if_pos h,zxn (by omega) (by omega),zi]
 ·rw [if_neg h,if_neg h,zxn (by decide) (by decide),zi]
theorem zHN {L:Nat} (hL:20≤L) {j:List Int} (hb:Byt j) (hj:j.length≤100000000) {a:Nat} (ha:a≤j.length) (k:Int→Int→Int→Option β):zaE β L (zj .u8 j) (a:Int) k=if a+8≤j.length then k ((le j a 8:Nat):Int) ((a+8:Nat):Int) 0 else k 0 0 1:=by
 unfold zaE zq3
 rw [show (8:Int)=((8:Nat):Int) from rfl,zso hL hb hj ha (by decide)]
end
section
set_option linter.unusedVariables false
set_option linter.unusedSimpArgs false
set_option maxRecDepth 100000
variable {β:Type}
def zda {α:Type} (r:Except Int (α × Nat)) (k:α→Nat→Option β) (b:Int→Option β):Option β:=match r with
 | .ok (v,a)=>k v a
 | .error e=>b e
theorem z0 {α:Type} (v:α) (a:Nat) (k:α→Nat→Option β) (b:Int→Option β):zda (.ok (v,a)) k b=k v a:=rfl
theorem z4 {α:Type} (e:Int) (k:α→Nat→Option β) (b:Int→Option β):zda (.error e) k b=b e:=rfl
def gN (j:List Int) (w a:Nat):Except Int (Nat × Nat):=if a+w≤j.length then .ok (le j a w,a+w) else .error 1
theorem zyw (j:List Int) (w a:Nat) (k:Nat→Nat→Option β) (b:Int→Option β):zda (gN j w a) k b=if a+w≤j.length then k (le j a w) (a+w) else b 1:=by
 unfold gN; split <;> rfl
def ztK (j:List Int) (w lo most a:Nat):Except Int (Nat × Nat):=if a+w≤j.length then (if le j a w < lo then .error 3 else if le j a w > most then .error 4 else .ok (le j a w,a+w)) else .error 1
def zbY (j:List Int) (most a:Nat):Except Int (Nat × Nat):=if a+1≤j.length then
  (if le j a 1 < 253 then (if le j a 1 > most then .error 4 else .ok (le j a 1,a+1))
  else if le j a 1=253 then ztK j 2 253 most (a+1) else if le j a 1=254 then ztK j 4 65536 most (a+1) else ztK j 8 4294967296 most (a+1))
 else .error 1
theorem zmD (j:List Int) (w lo most a:Nat) (k:Nat→Nat→Option β) (b:Int→Option β):zda (ztK j w lo most a) k b=if a+w≤j.length then (if le j a w < lo then b 3 else if le j a w > most then b 4 else k (le j a w) (a+w)) else b 1:=by
 unfold ztK; (repeat' split) <;> rfl
theorem lt1 {j:List Int} (hb:Byt j) (a:Nat):le j a 1 < 256:=zqB hb a 1
theorem lt2 {j:List Int} (hb:Byt j) (a:Nat):le j a 2 < 65536:=zqB hb a 2
theorem lt4 {j:List Int} (hb:Byt j) (a:Nat):le j a 4 < 4294967296:=zqB hb a 4
theorem lt8 {j:List Int} (hb:Byt j) (a:Nat):le j a 8 < 18446744073709551616:=zqB hb a 8
theorem zDA {L:Nat} (hL:20≤L) {j:List Int} (hb:Byt j) (hj:j.length≤100000000) {a:Nat} (most:Nat) (ha:a≤j.length) (k:Int→Int→Int→Option β):zK β L (zj .u8 j) (a:Int) (most:Int) k=zda (zbY j most a) (fun v a'=>k (v:Int) (a':Int) 0) (fun e=>k 0 0 e):=by
 have h1:=lt1 hb a
 unfold zK zpD
 rw [zJg hL hb hj ha]
 unfold zbY
 by_cases h:a+1≤j.length
 ·rw [if_pos h,if_pos h]
  try dsimp only
  rw [zu,if_pos rfl,zd1 (by omega) (by omega),zi]
  rcases (by omega:le j a 1 < 253∨le j a 1=253∨le j a 1=254∨le j a 1=255) with hc | hc | hc | hc
  ·rw [z7 (by omega),z7 (by omega),z7 (by omega),zu,if_pos rfl,xL (by omega),zaZ,if_pos hc]
   by_cases hm:le j a 1 > most
   ·rw [if_pos (by omega),if_pos hm]; rfl
   ·rw [if_neg (by omega),if_neg hm]; rfl
  ·have h2:=lt2 hb (a+1)
   rw [if_neg (by omega),if_pos hc,zmD,y7 (by omega),zIC hL hb hj h]
   by_cases h3:a+1+2≤j.length
   ·rw [if_pos h3,if_pos h3]
    try dsimp only
    rw [zd1 (by omega) (by omega),zi,zu,if_pos rfl,zaZ,zaZ]
    by_cases h4:le j (a+1) 2 < 253
    ·rw [if_pos (by omega),if_pos h4]
    ·rw [if_neg (by omega),if_neg h4]
     by_cases h5:le j (a+1) 2 > most
     ·rw [if_pos (by omega),if_pos h5]
     ·rw [if_neg (by omega),if_neg h5]
   ·rw [if_neg h3,if_neg h3]
    try dsimp only
    rw [zd1 (by decide) (by decide),zi,zu,if_neg (by decide)]
  ·have h2:=lt4 hb (a+1)
   rw [if_neg (by omega),if_neg (by omega),if_pos hc,zmD,z7 (by omega),y7 (by omega),zF5 hL hb hj h]
   by_cases h3:a+1+4≤j.length
   ·rw [if_pos h3,if_pos h3]
    try dsimp only
    rw [zd1 (by omega) (by omega),zi,zu,if_pos rfl,zaZ,zaZ]
    by_cases h4:le j (a+1) 4 < 65536
    ·rw [if_pos (by omega),if_pos h4]
    ·rw [if_neg (by omega),if_neg h4]
     by_cases h5:le j (a+1) 4 > most
     ·rw [if_pos (by omega),if_pos h5]
     ·rw [if_neg (by omega),if_neg h5]
   ·rw [if_neg h3,if_neg h3]
    try dsimp only
    rw [zd1 (by decide) (by decide),zi,zu,if_neg (by decide)]
  ·have h2:=lt8 hb (a+1)
   rw [if_neg (by omega),if_neg (by omega),if_neg (by omega),zmD,z7 (by omega),z7 (by omega),y7 (by omega),zFb hL hb hj h]
   by_cases h3:a+1+8≤j.length
   ·rw [if_pos h3,if_pos h3]
    try dsimp only
    rw [zu,if_pos rfl,zaZ,zaZ]
    by_cases h4:le j (a+1) 8 < 4294967296
    ·rw [if_pos (by omega),if_pos h4]
    ·rw [if_neg (by omega),if_neg h4]
     by_cases h5:le j (a+1) 8 > most
     ·rw [if_pos (by omega),if_pos h5]
     ·rw [if_neg (by omega),if_neg h5]
   ·rw [if_neg h3,if_neg h3]
    try dsimp only
    rw [zu,if_neg (by decide)]
 ·rw [if_neg h,if_neg h]
  try dsimp only
  rw [zu,if_neg (by decide)]
  rfl
theorem zBK {L:Nat} (hL:20≤L) {j:List Int} (hb:Byt j) (hj:j.length≤100000000) {a:Nat} (most:Nat) (ha:a≤j.length) (k:Int→Int→Int→Option β):xJ β L (zj .u8 j) (a:Int) (most:Int) k=zda (zbY j most a) (fun v a'=>k (v:Int) (a':Int) 0) (fun e=>k 0 0 e):=by
 have h1:=lt1 hb a
 unfold xJ zpc
 refine (zso hL hb hj ha (w:=1) (by decide) _).trans ?_
 unfold zbY
 by_cases h:a+1≤j.length
 ·rw [if_pos h,if_pos h]
  try dsimp only
  rw [zu,if_pos rfl]
  rcases (by omega:le j a 1 < 253∨le j a 1=253∨le j a 1=254∨le j a 1=255) with hc | hc | hc | hc
  ·rw [xL (by omega),zaZ,if_pos hc]
   by_cases hm:le j a 1 > most
   ·rw [if_pos (by omega),if_pos hm]; rfl
   ·rw [if_neg (by omega),if_neg hm]; rfl
  ·have h2:=lt2 hb (a+1)
   rw [if_neg (by omega),if_pos hc,zmD,yX (by omega),show IntKind.wrap .u64 (((le j a 1:Nat):Int) - 253)=0 by rw [hc]; decide,zi,zh (by decide),show zn6 .i64 (2:Int) 0=((2:Nat):Int) by decide,zi,zso hL hb hj h (by decide)]
   by_cases h3:a+1+2≤j.length
   ·rw [if_pos h3,if_pos h3]
    try dsimp only
    rw [zu,if_pos rfl,y7 (by omega),zaZ]
    by_cases h4:le j (a+1) 2 < 253
    ·rw [if_pos (by omega),if_pos h4]
    ·rw [if_neg (by omega),if_neg h4,z7 (by omega),z7 (by omega),zaZ]
     by_cases h5:le j (a+1) 2 > most
     ·rw [if_pos (by omega),if_pos h5]
     ·rw [if_neg (by omega),if_neg h5]
   ·rw [if_neg h3,if_neg h3]
    try dsimp only
    rw [zu,if_neg (by decide)]
  ·have h2:=lt4 hb (a+1)
   rw [if_neg (by omega),if_neg (by omega),if_pos hc,zmD,yX (by omega),show IntKind.wrap .u64 (((le j a 1:Nat):Int) - 253)=1 by rw [hc]; decide,zi,zh (by decide),show zn6 .i64 (2:Int) 1=((4:Nat):Int) by decide,zi,zso hL hb hj h (by decide)]
   by_cases h3:a+1+4≤j.length
   ·rw [if_pos h3,if_pos h3]
    try dsimp only
    rw [zu,if_pos rfl,z7 (by omega),y7 (by omega),zaZ]
    by_cases h4:le j (a+1) 4 < 65536
    ·rw [if_pos (by omega),if_pos h4]
    ·rw [if_neg (by omega),if_neg h4,z7 (by omega),zaZ]
     by_cases h5:le j (a+1) 4 > most
     ·rw [if_pos (by omega),if_pos h5]
     ·rw [if_neg (by omega),if_neg h5]
   ·rw [if_neg h3,if_neg h3]
    try dsimp only
    rw [zu,if_neg (by decide)]
  ·have h2:=lt8 hb (a+1)
   rw [if_neg (by omega),if_neg (by omega),if_neg (by omega),zmD,yX (by omega),show IntKind.wrap .u64 (((le j a 1:Nat):Int) - 253)=2 by rw [hc]; decide,zi,zh (by decide),show zn6 .i64 (2:Int) 2=((8:Nat):Int) by decide,zi,zso hL hb hj h (by decide)]
   by_cases h3:a+1+8≤j.length
   ·rw [if_pos h3,if_pos h3]
    try dsimp only
    rw [zu,if_pos rfl,z7 (by omega),z7 (by omega),y7 (by omega),zaZ]
    by_cases h4:le j (a+1) 8 < 4294967296
    ·rw [if_pos (by omega),if_pos h4]
    ·rw [if_neg (by omega),if_neg h4,zaZ]
     by_cases h5:le j (a+1) 8 > most
     ·rw [if_pos (by omega),if_pos h5]
     ·rw [if_neg (by omega),if_neg h5]
   ·rw [if_neg h3,if_neg h3]
    try dsimp only
    rw [zu,if_neg (by decide)]
 ·rw [if_neg h,if_neg h]
  try dsimp only
  rw [zu,if_neg (by decide)]
  rfl
end
section
set_option linter.unusedVariables false
set_option linter.unusedSimpArgs false
def zbj (w:List (List Int)):List (List V):=w.map fun b=>[V.sl 1 (zj .u8 b)]
structure Inp where
 pv:List Int
 seq:Int
 wit:List (List Int)
structure Outp where
 val:Int
 scr:List Int
structure TxT where
 ver:Int
 ins:List Inp
 outs:List Outp
 lock:Int
def zdn (x:Inp):List V:=[V.sc (.int .u8 (x.pv.getD 0 0)),V.sc (.int .u8 (x.pv.getD 1 0)),V.sc (.int .u8 (x.pv.getD 2 0)),V.sc (.int .u8 (x.pv.getD 3 0)),V.sc (.int .u8 (x.pv.getD 4 0)),V.sc (.int .u8 (x.pv.getD 5 0)),V.sc (.int .u8 (x.pv.getD 6 0)),V.sc (.int .u8 (x.pv.getD 7 0)),V.sc (.int .u8 (x.pv.getD 8 0)),V.sc (.int .u8 (x.pv.getD 9 0)),V.sc (.int .u8 (x.pv.getD 10 0)),V.sc (.int .u8 (x.pv.getD 11 0)),V.sc (.int .u8 (x.pv.getD 12 0)),V.sc (.int .u8 (x.pv.getD 13 0)),V.sc (.int .u8 (x.pv.getD 14 0)),V.sc (.int .u8 (x.pv.getD 15 0)),V.sc (.int .u8 (x.pv.getD 16 0)),V.sc (.int .u8 (x.pv.getD 17 0)),V.sc (.int .u8 (x.pv.getD 18 0)),V.sc (.int .u8 (x.pv.getD 19 0)),V.sc (.int .u8 (x.pv.getD 20 0)),V.sc (.int .u8 (x.pv.getD 21 0)),V.sc (.int .u8 (x.pv.getD 22 0)),V.sc (.int .u8 (x.pv.getD 23 0)),V.sc (.int .u8 (x.pv.getD 24 0)),V.sc (.int .u8 (x.pv.getD 25 0)),V.sc (.int .u8 (x.pv.getD 26 0)),V.sc (.int .u8 (x.pv.getD 27 0)),V.sc (.int .u8 (x.pv.getD 28 0)),V.sc (.int .u8 (x.pv.getD 29 0)),V.sc (.int .u8 (x.pv.getD 30 0)),V.sc (.int .u8 (x.pv.getD 31 0)),V.sc (.int .u32 (x.pv.getD 32 0)),V.sc (.int .u32 x.seq),V.sl 1 (zbj x.wit)]
def zcg (o:Outp):List V:=[V.sc (.int .i64 o.val),V.sl 1 (zj .u8 o.scr)]
def zcJ (t:TxT):List V:=[V.sc (.int .u32 t.ver),V.sl 35 (t.ins.map zdn),V.sl 2 (t.outs.map zcg),V.sc (.int .u32 t.lock)]
section
variable {β:Type}
theorem zCq (x:Inp) (k:Int→Option β):cI .u32 (zdn x) 33 k=k x.seq:=zsA rfl k
theorem zDv (x:Outp) (k:Int→Option β):cI .i64 (zcg x) 0 k=k x.val:=zsA rfl k
theorem zDG (x:TxT) (k:Int→Option β):cI .u32 (zcJ x) 0 k=k x.ver:=zsA rfl k
theorem zDS (x:TxT) (k:Int→Option β):cI .u32 (zcJ x) 3 k=k x.lock:=zsA rfl k
end
theorem ztT (x:Inp):(zdn x).length=35:=by simp [zdn]
theorem zFq (x:Inp):List.take 35 (zdn x)=zdn x:=by simp [zdn]
theorem zCC (x:Outp):(zcg x).length=2:=by simp [zcg]
theorem zpR (x:TxT):(zcJ x).length=4:=by simp [zcJ]
theorem zCS (x:TxT):[V.sc (.int .u32 x.ver),V.sl 35 (x.ins.map zdn),V.sl 2 (x.outs.map zcg),V.sc (.int .u32 x.lock)]=zcJ x:=(by simp [zcJ])
def zDX (l:List Int):Prop:=∀ n ∈ l,0≤n∧n≤255
structure InpOk (x:Inp):Prop where
 pv:x.pv.length=33
 by_:∀ j,j < 32→0≤x.pv.getD j 0∧x.pv.getD j 0≤255
 ix:0≤x.pv.getD 32 0∧x.pv.getD 32 0≤4294967295
 seq:0≤x.seq∧x.seq≤4294967295
 wit:∀ b ∈ x.wit,zDX b∧b.length≤maxLen
 wl:x.wit.length≤maxLen
structure OutpOk (x:Outp):Prop where
 val:-9223372036854775808≤x.val∧x.val≤9223372036854775807
 scr:zDX x.scr
 sl:x.scr.length≤maxLen
structure TxOk (t:TxT):Prop where
 ver:0≤t.ver∧t.ver≤4294967295
 lock:0≤t.lock∧t.lock≤4294967295
 ins:∀ x ∈ t.ins,InpOk x
 outs:∀ x ∈ t.outs,OutpOk x
 il:t.ins.length≤maxLen
 ol:t.outs.length≤maxLen
theorem HasRow.tail {ct:CT} {cts:List CT} {vs:List V} (h:HasRow (ct::cts) vs):∃ v r,vs=v::r∧HasC ct v∧HasRow cts r:=by
 cases vs with
 | nil=>have:=h.1; simp at this
 | cons v r=>exact ⟨v,r,rfl,h.2 0 v ct rfl rfl,⟨by simpa using h.1,fun i c ct hc hct=>h.2 (i+1) c ct (by simpa using hc) (by simpa using hct)⟩⟩
theorem HasRow.nil {vs:List V} (h:HasRow [] vs):vs=[]:=List.length_eq_zero_iff.1 (by simpa using h.1)
end
section
set_option linter.unusedVariables false
set_option linter.unusedSimpArgs false
set_option maxRecDepth 100000
variable {β:Type}
theorem zzN {j:List Int} {w lo most a n a1:Nat} (h:ztK j w lo most a=.ok (n,a1)):a1≤j.length∧n≤most:=by
 unfold ztK at h
 split at h
 ·split at h
  ·cases h
  ·split at h
   ·cases h
   ·cases h; omega
 ·cases h
theorem zza {j:List Int} {w lo most a:Nat} {e:Int} (h:ztK j w lo most a=.error e):e≠0:=by
 unfold ztK at h
 split at h
 ·split at h
  ·cases h; decide
  ·split at h
   ·cases h; decide
   ·cases h
 ·cases h; decide
theorem zch {j:List Int} {most a n a1:Nat} (h:zbY j most a=.ok (n,a1)):a1≤j.length∧n≤most:=by
 unfold zbY at h
 split at h
 ·split at h
  ·split at h
   ·cases h
   ·cases h; omega
  ·split at h
   ·exact zzN h
   ·split at h
    ·exact zzN h
    ·exact zzN h
 ·cases h
theorem zf4 {j:List Int} {most a:Nat} {e:Int} (h:zbY j most a=.error e):e≠0:=by
 unfold zbY at h
 split at h
 ·split at h
  ·split at h
   ·cases h; decide
   ·cases h
  ·split at h
   ·exact zza h
   ·split at h
    ·exact zza h
    ·exact zza h
 ·cases h; decide
theorem zlx {j:List Int} {w a n a1:Nat} (h:gN j w a=.ok (n,a1)):a1≤j.length:=by
 unfold gN at h
 split at h
 ·cases h; assumption
 ·cases h
theorem zm2 {j:List Int} {w a:Nat} {e:Int} (h:gN j w a=.error e):e≠0:=by
 unfold gN at h
 split at h
 ·cases h
 ·cases h; decide
def zgR (j:List Int) (a:Nat):Except Int (List Int × Nat):=if a+32≤j.length then .ok ((j.drop a).take 32,a+32) else .error 1
def zcO (j:List Int) (most a:Nat):Except Int (List Int × Nat):=match zbY j most a with
 | .error e=>.error e
 | .ok (n,a1)=>if a1+n≤j.length then .ok ((j.drop a1).take n,a1+n) else .error 1
theorem zpb {j h:List Int} {a a1:Nat} (hh:zgR j a=.ok (h,a1)):a1≤j.length∧h.length=32:=by
 unfold zgR at hh
 split at hh
 ·cases hh; rw [List.length_take,List.length_drop]; omega
 ·cases hh
theorem zxd {j:List Int} {a:Nat} {e:Int} (h:zgR j a=.error e):e≠0:=by
 unfold zgR at h
 split at h
 ·cases h
 ·cases h; decide
theorem zny {j h:List Int} {most a a1:Nat} (hh:zcO j most a=.ok (h,a1)):a1≤j.length∧h.length≤most:=by
 unfold zcO at hh
 split at hh
 ·cases hh
 ·rename_i n a2 hz
  have:=zch hz
  split at hh
  ·cases hh; rw [List.length_take,List.length_drop]; omega
  ·cases hh
theorem znD {j:List Int} {most a:Nat} {e:Int} (h:zcO j most a=.error e):e≠0:=by
 unfold zcO at h
 split at h
 ·rename_i e' hz; cases h; exact zf4 hz
 ·split at h
  ·cases h
  ·cases h; decide
theorem zF9 (L:Nat) {x:List Int} (hx:x.length≤100000000) (k:List (List V)→Option β):zg β L (zj .u8 x) ([]:List (List V)) k=k (zj .u8 x):=by
 unfold zg zmg
 have hs:(100000000:Nat)≤yn:=by decide
 rw [zbL,zJ (by simp <;> omega) (by simp <;> omega),zi,zh (by simp; omega),zh (by simp [zbL]; omega),zi,zh (by simp [zbL]; omega),zi]
 simp
theorem zF6 (L:Nat) {x:List Int} (hx:x.length≤100000000) (k:List (List V)→Option β):xn β L ([]:List (List V)) (zj .u8 x) k=k (zj .u8 x):=by
 unfold xn zme
 have hs:(100000000:Nat)≤yn:=by decide
 rw [zbL,zJ (by simp <;> omega) (by simp <;> omega),zi,zh (by simp; omega),zh (by simp),zi,zh (by simp [zbL]; omega),zi]
 simp
theorem zGN {L:Nat} (hL:20≤L) {j:List Int} (hb:Byt j) (hj:j.length≤100000000) {a:Nat} (most:Nat) (hm:most≤1000000) (ha:a≤j.length) (k:List (List V)→Int→Int→Option β):y5 β L (zj .u8 j) (a:Int) (most:Int) k=zda (zcO j most a) (fun v a'=>k (zj .u8 v) (a':Int) 0) (fun e=>k [] 0 e):=by
 unfold y5 zn9
 rw [xL (by omega),zd1 (by omega) (by omega),zi,zDA hL hb hj most ha]
 unfold zcO
 cases hz:zbY j most a with
 | error e=>rw [z4,zu,if_neg (zf4 hz)]; rfl
 | ok p =>
  obtain ⟨n,a1⟩:=p
  obtain ⟨h1,h2⟩:=zch hz
  rw [z0,zu,if_pos rfl,zbL,zJ (by omega) (by omega),zi,zd1 (by omega) (by omega),zi,zaZ]
  by_cases h:a1+n≤j.length
  ·have e1:Int.toNat ((a1:Int)+(n:Int))=a1+n:=by omega
   have e2:((a1:Int)+(n:Int))=((a1+n:Nat):Int):=by omega
   rw [if_neg (by omega),zJ (by omega) (by omega),zi,zJ (by omega) (by omega),zi,zh (by omega),zh (by omega),e1,Int.toNat_natCast,show a1+n - a1=n by omega,zvC,zqA,zF9 L (by rw [List.length_take,List.length_drop]; omega),e2]
   simp only [if_pos h,z0]
  ·rw [if_pos (by omega)]
   simp only [if_neg h,z4]
theorem zFp {L:Nat} (hL:20≤L) {j:List Int} (hb:Byt j) (hj:j.length≤100000000) {a:Nat} (most:Nat) (hm:most≤1000000) (ha:a≤j.length) (k:List (List V)→Int→Int→Option β):z5 β L (zj .u8 j) (a:Int) (most:Int) k=zda (zcO j most a) (fun v a'=>k (zj .u8 v) (a':Int) 0) (fun e=>k [] 0 e):=by
 unfold z5 znZ
 rw [xL (by omega),zd1 (by omega) (by omega),zi,zBK hL hb hj most ha]
 unfold zcO
 cases hz:zbY j most a with
 | error e=>rw [z4,zu,if_neg (zf4 hz)]; rfl
 | ok p =>
  obtain ⟨n,a1⟩:=p
  obtain ⟨h1,h2⟩:=zch hz
  rw [z0,zu,if_pos rfl,zbL,zJ (by omega) (by omega),zi,zd1 (by omega) (by omega),zi,zaZ]
  by_cases h:a1+n≤j.length
  ·have e1:Int.toNat ((a1:Int)+(n:Int))=a1+n:=by omega
   have e2:((a1:Int)+(n:Int))=((a1+n:Nat):Int):=by omega
   rw [if_neg (by omega),zJ (by omega) (by omega),zi,zJ (by omega) (by omega),zi,zh (by omega),zh (by omega),e1,Int.toNat_natCast,show a1+n - a1=n by omega,zvC,zqA,zF6 L (by rw [List.length_take,List.length_drop]; omega),zi,zi,e2,zJ (by omega) (by omega)]
   simp only [if_pos h,z0]
  ·rw [if_pos (by omega)]
   simp only [if_neg h,z4]
def zbf:List V:=List.replicate 32 (V.sc (.int .u8 (0:Int)))
theorem zE3 (k:IntKind) (l:List Int):(zj k l).flatten=row k l:=by
 induction l with
 | nil=>rfl
 | cons x l ih=>simp only [zj,row,List.map_cons,List.flatten_cons] at ih ⊢; rw [ih]; rfl
theorem zmx {w:List Int} (hw:w.length=32):yl (List.replicate 32 (V.sc (.int .u8 (0:Int)))) 0 (row .u8 w)=row .u8 w:=zgE (by rw [zbW,hw,List.length_replicate])
theorem ztd {w:List Int} (hw:w.length=32):List.take 32 (row .u8 w)=row .u8 w:=List.take_of_length_le (by rw [zbW]; omega)
theorem zBB {j:List Int} {a:Nat} (h:a+32≤j.length):yl (List.replicate 32 (V.sc (.int .u8 (0:Int)))) 0 (List.flatten (List.take (min (List.length (List.take ((List.length (zj .u8 j)) - (Int.toNat (a:Int))) (List.drop (Int.toNat (a:Int)) (zj .u8 j)))) 32) (List.take ((List.length (zj .u8 j)) - (Int.toNat (a:Int))) (List.drop (Int.toNat (a:Int)) (zj .u8 j)))))=row .u8 ((j.drop a).take 32):=by
 rw [Int.toNat_natCast,zvC,zbL,zqA,zbL,List.take_of_length_le (l:=j.drop a) (by rw [List.length_drop]; omega),List.length_drop,Nat.min_eq_right (by omega),zqA,zE3]
 exact zmx (by rw [List.length_take,List.length_drop]; omega)
theorem zqc (k:Option β):chk (0=0∧(List.length zbf)=32∧32≠0) k=k:=zh (by simp [zbf]) k
theorem zIa {L:Nat} (hL:20≤L) {j:List Int} (hj:j.length≤100000000) {a:Nat} (ha:a≤j.length) (k:List V→Int→Int→Option β):zal β L (zj .u8 j) (a:Int) k=zda (zgR j a) (fun v a'=>k (row .u8 v) (a':Int) 0) (fun e=>k zbf 0 e):=by
 unfold zal zpI
 refine (zr8 L j ha hj (w:=32) (by decide) _).trans ?_
 unfold zgR
 by_cases h:a+32≤j.length
 ·have hl:((j.drop a).take 32).length=32:=by rw [List.length_take,List.length_drop]; omega
  rw [if_pos h,if_pos h,zu,if_pos rfl,zh (by rw [zbL]; omega),zBB h,zi,zh (by rw [zbW]; omega),zJ (by omega) (by omega),zi,ztd hl,zh (by rw [zbW]; omega),zmx hl,zi,zh (by rw [zbW]; omega)]
  rfl
 ·rw [if_neg h,if_neg h,zu,if_neg (by decide),zi]
  exact zqc _
theorem zGY {L:Nat} (hL:20≤L) {j:List Int} (hj:j.length≤100000000) {a:Nat} (ha:a≤j.length) (k:List V→Int→Int→Option β):zao β L (zj .u8 j) (a:Int) k=zda (zgR j a) (fun v a'=>k (row .u8 v) (a':Int) 0) (fun e=>k zbf 0 e):=by
 unfold zao zpX
 rw [xL (by omega),zbL,xL (by omega),zJ (by omega) (by omega),zi]
 unfold zgR
 by_cases h:a+32≤j.length
 ·have hl:((j.drop a).take 32).length=32:=by rw [List.length_take,List.length_drop]; omega
  have hr:=zBB h
  rw [zbL] at hr
  rw [if_pos h,xL (by omega),zh (by omega),hr,zi,zh (by rw [zbW]; omega),zJ (by omega) (by omega),zi,ztd hl,zh (by rw [zbW]; omega),zmx hl,zi,zh (by rw [zbW]; omega)]
  rfl
 ·rw [if_neg h,yX (by omega),zi]
  exact zqc _
end
section
set_option linter.unusedVariables false
set_option linter.unusedSimpArgs false
set_option linter.unusedSectionVars false
set_option maxRecDepth 100000
variable {β:Type}
section
variable (L:Nat) (J:List (List V)) {e:Int} (he:e≠0) (at_:Int)
include he
theorem zpn (k:Int→List (List V)→Int→Int→Option β):yc β L J at_ e k=k 0 J at_ e:=by
 unfold yc zeJ; rw [zu,if_neg he]
theorem zIG (k:Int→List (List V)→Int→Int→Option β):xa β L J at_ e k=k 0 J at_ e:=by
 unfold xa zfd; rw [zu,if_neg he]
theorem zuN (m:Int) (k:Int→List (List V)→Int→Int→Option β):xe β L m J at_ e k=k 0 J at_ e:=by
 unfold xe zmS xR zhg; rw [zu,if_neg he]; rfl
theorem zxG (m:Int) (k1 k2:List (List V)→List (List V)→Int→Int→Option β):ye β L m J at_ e k1 k2=k1 [] J at_ e:=by
 unfold ye zmZ zW zhR; rw [zu,if_neg he]
theorem zIA (k:List V→List (List V)→Int→Int→Option β):xb β L J at_ e k=k zbf J at_ e:=by
 unfold xb zfO; rw [zu,if_neg he,zi]; exact zqc _
theorem zx2 (k:Int→List (List V)→Int→Int→Option β):zb β L J at_ e k=k 0 J at_ e:=by
 unfold zb zeS; rw [zu,if_neg he]
theorem zBA (m:Int) (k:Int→List (List V)→Int→Int→Option β):yb β L m J at_ e k=k 0 J at_ e:=by
 unfold yb ze6; rw [zu,if_neg he]
theorem zFB (m:Int) (k1 k2:List (List V)→List (List V)→Int→Int→Option β):za β L m J at_ e k1 k2=k1 [] J at_ e:=by
 unfold za zer; rw [zu,if_neg he]
end
section
variable {L:Nat} (hL:20≤L) {j:List Int} (hb:Byt j) (hj:j.length≤100000000) {a:Nat} (ha:a≤j.length)
include hL hb hj ha
theorem zBr (k:Int→List (List V)→Int→Int→Option β):yc β L (zj .u8 j) a 0 k=zda (gN j 4 a) (fun v a'=>k v (zj .u8 j) a' 0) (fun e=>k 0 (zj .u8 j) a e):=by
 unfold yc zeJ
 rw [zu,if_pos rfl,zF5 hL hb hj ha,zyw]
 by_cases h:a+4≤j.length
 ·rw [if_pos h,if_pos h,zu,if_pos rfl]
 ·rw [if_neg h,if_neg h,zu,if_neg (by decide)]
theorem zJl (k:Int→List (List V)→Int→Int→Option β):xa β L (zj .u8 j) a 0 k=zda (gN j 8 a) (fun v a'=>k v (zj .u8 j) a' 0) (fun e=>k 0 (zj .u8 j) a e):=by
 unfold xa zfd
 rw [zu,if_pos rfl,zFb hL hb hj ha,zyw]
 by_cases h:a+8≤j.length
 ·rw [if_pos h,if_pos h,zu,if_pos rfl]
 ·rw [if_neg h,if_neg h,zu,if_neg (by decide)]
theorem zHz (m:Nat) (hm:m≤1000000) (k:Int→List (List V)→Int→Int→Option β):xe β L (m:Int) (zj .u8 j) a 0 k=zda (zbY j m a) (fun v a'=>k v (zj .u8 j) a' 0) (fun e=>k 0 (zj .u8 j) a e):=by
 unfold xe zmS xR zhg zac znH
 rw [zu,if_pos rfl,zDA hL hb hj m ha]
 cases hz:zbY j m a with
 | error e=>rw [z4]; dsimp only; rw [zu,if_neg (zf4 hz)]; rfl
 | ok p =>
  obtain ⟨n,a1⟩:=p
  have:=zch hz
  rw [z0]; dsimp only; rw [zu,if_pos rfl,zJ (by omega) (by omega),zi]
  rfl
theorem zJm (m:Nat) (hm:m≤1000000) (k1 k2:List (List V)→List (List V)→Int→Int→Option β):ye β L (m:Int) (zj .u8 j) a 0 k1 k2=zda (zcO j m a) (fun v a'=>k2 (zj .u8 v) (zj .u8 j) a' 0) (fun e=>k1 [] (zj .u8 j) a e):=by
 unfold ye zmZ zW zhR zab znS
 rw [zu,if_pos rfl,zGN hL hb hj m hm ha]
 cases hz:zcO j m a with
 | error e=>rw [z4]; dsimp only; rw [zu,if_neg (znD hz)]; rfl
 | ok p=>rw [z0]; dsimp only; rw [zu,if_pos rfl]; rfl
theorem zJh (k:List V→List (List V)→Int→Int→Option β):xb β L (zj .u8 j) a 0 k=zda (zgR j a) (fun v a'=>k (row .u8 v) (zj .u8 j) a' 0) (fun e=>k zbf (zj .u8 j) a e):=by
 unfold xb zfO
 rw [zu,if_pos rfl,zIa hL hj ha]
 have z1:yl (List.replicate 32 (V.sc (.int .u8 (0:Int)))) 0 zbf=zbf:=zgE (by simp [zbf])
 cases hz:zgR j a with
 | error e =>
  rw [z4,zh (by simp [zbf]),z1,zi,zu,if_neg (zxd hz),zi]
  exact zqc _
 | ok p =>
  obtain ⟨h,a1⟩:=p
  have hl:=(zpb hz).2
  rw [z0,zh (by rw [zbW]; omega),zmx hl,zi,zu,if_pos rfl,zh (by rw [zbW]; omega),ztd hl,zh (by rw [zbW]; omega),zmx hl,zi,zh (by rw [zbW]; omega)]
  rfl
theorem zBq (k:Int→List (List V)→Int→Int→Option β):zb β L (zj .u8 j) a 0 k=zda (gN j 4 a) (fun v a'=>k v (zj .u8 j) a' 0) (fun e=>k 0 (zj .u8 j) 0 e):=by
 unfold zb zeS
 rw [zu,if_pos rfl,zHO hL hb hj ha,zyw]
theorem zJf (k:Int→List (List V)→Int→Int→Option β):yK β L (zj .u8 j) a 0 k=zda (gN j 8 a) (fun v a'=>k v (zj .u8 j) a' 0) (fun e=>k 0 (zj .u8 j) 0 e):=by
 unfold yK zhz
 rw [zu,if_pos rfl,zHN hL hb hj ha,zyw]
theorem zHI (m:Nat) (hm:m≤1000000) (k:Int→List (List V)→Int→Int→Option β):yb β L (m:Int) (zj .u8 j) a 0 k=zda (zbY j m a) (fun v a'=>k v (zj .u8 j) a' 0) (fun e=>k 0 (zj .u8 j) 0 e):=by
 unfold yb ze6
 rw [zu,if_pos rfl,zd1 (by omega) (by omega),zi,zBK hL hb hj m ha]
 cases hz:zbY j m a with
 | error e=>rw [z4,z4,zJ (by decide) (by decide),zi]
 | ok p =>
  obtain ⟨n,a1⟩:=p
  have:=zch hz
  rw [z0,z0,zJ (by omega) (by omega),zi]
theorem zJj (m:Nat) (hm:m≤1000000) (k1 k2:List (List V)→List (List V)→Int→Int→Option β):za β L (m:Int) (zj .u8 j) a 0 k1 k2=zda (zcO j m a) (fun v a'=>k2 (zj .u8 v) (zj .u8 j) a' 0) (fun e=>k2 [] (zj .u8 j) 0 e):=by
 unfold za zer
 rw [zu,if_pos rfl,zFp hL hb hj m hm ha]
theorem zJk (k:List V→List (List V)→Int→Int→Option β):zc β L (zj .u8 j) a 0 k=zda (zgR j a) (fun v a'=>k (row .u8 v) (zj .u8 j) a' 0) (fun e=>k zbf (zj .u8 j) 0 e):=by
 unfold zc zht
 rw [zu,if_pos rfl,zGY hL hj ha]
 have z1:yl (List.replicate 32 (V.sc (.int .u8 (0:Int)))) 0 zbf=zbf:=zgE (by simp [zbf])
 have z2:List.take 32 zbf=zbf:=List.take_of_length_le (by simp [zbf])
 cases hz:zgR j a with
 | error e =>
  rw [z4,z4,zh (by simp [zbf]),z1,zi,zh (by simp [zbf]),z2,zh (by simp [zbf]),z1,zi]
  exact zqc _
 | ok p =>
  obtain ⟨h,a1⟩:=p
  have hl:=(zpb hz).2
  rw [z0,z0,zh (by rw [zbW]; omega),zmx hl,zi,zh (by rw [zbW]; omega),ztd hl,zh (by rw [zbW]; omega),zmx hl,zi,zh (by rw [zbW]; omega)]
end
def gIn (j:List Int) (a:Nat):Except Int (Inp × Nat):=match zgR j a with
 | .error e=>.error e
 | .ok (h,a1)=>match gN j 4 a1 with
  | .error e=>.error e
  | .ok (ix,a2)=>match gN j 4 a2 with
   | .error e=>.error e
   | .ok (sq,a3)=>.ok (⟨h++[(ix:Int)],sq,[]⟩,a3)
def zgX (j:List Int):Nat→Nat→Except Int (List Inp × Nat)
 | 0,a=>.ok ([],a)
 | n+1,a=>match gIn j a with
  | .error e=>.error e
  | .ok (x,a1)=>match zgX j n a1 with
   | .error e=>.error e
   | .ok (xs,a2)=>.ok (x::xs,a2)
def zlI (j:List Int) (a:Nat):Except Int (Outp × Nat):=match gN j 8 a with
 | .error e=>.error e
 | .ok (v,a1)=>if v ≥ 9223372036854775808 then .error 90 else match zcO j 520 a1 with
  | .error e=>.error e
  | .ok (s,a2)=>.ok (⟨v,s⟩,a2)
def zdP (j:List Int):Nat→Nat→Except Int (List Outp × Nat)
 | 0,a=>.ok ([],a)
 | n+1,a=>match zlI j a with
  | .error e=>.error e
  | .ok (x,a1)=>match zdP j n a1 with
   | .error e=>.error e
   | .ok (xs,a2)=>.ok (x::xs,a2)
def zhF (j:List Int):Nat→Nat→Except Int (List (List Int) × Nat)
 | 0,a=>.ok ([],a)
 | n+1,a=>match zcO j 520 a with
  | .error e=>.error e
  | .ok (x,a1)=>match zhF j n a1 with
   | .error e=>.error e
   | .ok (xs,a2)=>.ok (x::xs,a2)
def zdM (j:List Int):List Inp→Nat→Except Int (List Inp × Nat)
 | [],a=>.ok ([],a)
 | x::xs,a=>match zbY j 32 a with
  | .error e=>.error e
  | .ok (n,a1)=>match zhF j n a1 with
   | .error e=>.error e
   | .ok (w,a2)=>match zdM j xs a2 with
    | .error e=>.error e
    | .ok (ys,a3)=>.ok ({ x with wit:=w }::ys,a3)
def gTx (j:List Int) (a:Nat):Except Int (TxT × Nat):=match gN j 4 a with
 | .error e=>.error e
 | .ok (ver,a1)=>match zbY j 64 a1 with
  | .error e=>.error e
  | .ok (n,a2)=>match zgX j n a2 with
   | .error e=>.error e
   | .ok (xs,a3)=>match zbY j 64 a3 with
    | .error e=>.error e
    | .ok (m,a4)=>match zdP j m a4 with
     | .error e=>.error e
     | .ok (os,a5)=>match gN j 4 a5 with
      | .error e=>.error e
      | .ok (lk,a6)=>match zdM j xs a6 with
       | .error e=>.error e
       | .ok (ys,a7)=>if a7 - a > 20000 then .error 4 else .ok (⟨ver,ys,os,lk⟩,a7)
end
section
set_option linter.unusedVariables false
set_option linter.unusedSimpArgs false
set_option linter.unusedSectionVars false
set_option maxRecDepth 100000
variable {β:Type}
def zbJ (h:List V) (ix sq:Int) (c:V):List V:=h++[V.sc (.int .u32 ix),V.sc (.int .u32 sq),c]
def zgs:V:=V.gs 1 ([]:List (List V))
theorem zc2 {h:List V} (hl:h.length=32) (ix sq:Int) (c:V):(zbJ h ix sq c).length=35:=by simp [zbJ,hl]
theorem zvz {h:List V} (hl:h.length=32) (ix sq:Int) (c:V):List.take 35 (zbJ h ix sq c)=zbJ h ix sq c:=List.take_of_length_le (by rw [zc2 hl]; exact Nat.le_refl _)
theorem zIN {h:List V} (hl:h.length=32):yl (List.replicate 32 (V.sc (.int .u8 (0:Int)))++[(V.sc (.int .u32 (0:Int))),(V.sc (.int .u32 (0:Int))),(V.gs 1 ([]:List (List V)))]) 0 h=zbJ h 0 0 zgs:=by
 unfold yl zbJ
 rw [hl,List.drop_append,List.length_replicate]
 simp [zgs]
theorem zIJ {h:List V} (hl:h.length=32) (ix sq x:Int) (c:V):yl (zbJ h ix sq c) 32 [(V.sc (.int .u32 x))]=zbJ h x sq c:=by
 rw [znx (by rw [zc2 hl]; omega)]
 unfold zbJ
 rw [List.set_append_right _ _ (by omega),hl]
 rfl
theorem zFh {h:List V} (hl:h.length=32) (ix sq x:Int) (c:V):yl (zbJ h ix sq c) 33 [(V.sc (.int .u32 x))]=zbJ h ix x c:=by
 rw [znx (by rw [zc2 hl]; omega)]
 unfold zbJ
 rw [List.set_append_right _ _ (by omega),hl]
 rfl
theorem zBM {h:List V} (hl:h.length=32) (ix sq:Int) (c:V):yl (List.replicate 32 (V.sc (.int .u8 (0:Int)))++[(V.sc (.int .u32 (0:Int))),(V.sc (.int .u32 (0:Int))),(V.sl 1 ([]:List (List V)))]) 0 (zbJ h ix sq c)=zbJ h ix sq c:=zgE (by rw [zc2 hl]; rfl)
theorem zFQ {h:List V} (hl:h.length=32) (ix sq:Int) (c:V):yl (List.replicate 32 (V.sc (.int .u8 (0:Int)))++[(V.sc (.int .u32 (0:Int))),(V.sc (.int .u32 (0:Int))),(V.gs 1 ([]:List (List V)))]) 0 (zbJ h ix sq c)=zbJ h ix sq c:=zgE (by rw [zc2 hl]; rfl)
theorem zym {h:List V} (hl:h.length=32) (ix sq:Int) (c:V):xj 35 1 (zbJ h ix sq c)=[zbJ h ix sq c]:=by
 unfold xj; rw [zvz hl]; rfl
def zaA (x:Inp):List V:=zbJ (row .u8 (x.pv.take 32)) (x.pv.getD 32 0) x.seq (V.gs 1 (zbj x.wit))
theorem zDI {h:List Int} (hl:h.length=32) (ix sq:Int):zaA ⟨h++[ix],sq,[]⟩=zbJ (row .u8 h) ix sq zgs:=by
 unfold zaA
 rw [List.take_left' hl]
 simp [List.getD_eq_getElem?_getD,List.getElem?_append_right,hl,zbj,zgs]
section
variable {L:Nat} (p1 zJV:Int) (zJW zJX:List (List V)) (zJY zJZ:Int) (zJ1:List (List V)) (zJ0:Int)
theorem zCJ {n i:Nat} (hi:i < n) (hn:n≤64) (R J:List (List V)) (hR:R.length≤64) (at_ f:Int) (kh:zeX β) (kx:zhr β) :
  zcB yc xe xb xa ye L p1 (n:Int) (i:Int) zJV zJW zJX zJY zJZ R zJ1 zJ0 J at_ f kh kx =
  xb β L J at_ f (fun v8 v9 v10 v11=>chk ((List.length v8)=32∧0+32≤35) (yc β L v9 v10 v11 (fun v13 v14 v15 v16=>yc β L v14 v15 v16 (fun v18 v19 v20 v21 =>
   kh p1 (n:Int) ((i+1:Nat):Int) zJV zJW zJX zJY zJZ (R++[zbJ v8 v13 v18 zgs]) zJ1 zJ0 v19 v20 v21)))):=by
 have hs:(100000000:Nat)≤yn:=by decide
 unfold zcB
 rw [yX (by omega)]
 congr 1
 funext v8 v9 v10 v11
 by_cases h:(List.length v8)=32∧0+32≤35
 ·have hl:=h.1
  rw [zh h,zh h,zi,zIN hl]
  congr 1
  funext v13 v14 v15 v16
  rw [zh (by rw [zc2 hl]; omega),zIJ hl,zi]
  congr 1
  funext v18 v19 v20 v21
  rw [zh (by rw [zc2 hl]; omega),zFh hl,zi,zvz hl,zBM hl,zym hl,zh (by rw [zc2 hl]; omega),zh (by rw [zc2 hl]; omega),zh (by simp only [List.length_cons,List.length_nil]; omega),zi,zax (by omega),zi]
 ·rw [zea,zea,if_neg h,if_neg h]
theorem zDC {n i:Nat} (hi:¬ i < n) (R J:List (List V)) (at_ f:Int) (kh:zeX β) (kx:zhr β) :
  zcB yc xe xb xa ye L p1 (n:Int) (i:Int) zJV zJW zJX zJY zJZ R zJ1 zJ0 J at_ f kh kx=kx p1 zJV zJW zJX zJY zJZ R zJ1 zJ0 J at_ f:=by
 unfold zcB
 rw [xL (by omega)]
theorem zxZ:(List.length zbf)=32∧0+32≤35:=by simp [zbf]
theorem zvM {n:Nat} (hn:n≤64) (J:List (List V)) (at_:Int) {e:Int} (he:e≠0) (kx:zhr β):∀ (m i:Nat) (R:List (List V)),R.length=i→i≤n→n - i < m →
  ∃ R':List (List V),R'.length=n∧xY yc xe xb xa ye L kx m p1 (n:Int) (i:Int) zJV zJW zJX zJY zJZ R zJ1 zJ0 J at_ e=kx p1 zJV zJW zJX zJY zJZ R' zJ1 zJ0 J at_ e
 | 0,i,R,h1,h2,h3=>by omega
 | m+1,i,R,h1,h2,h3=>by
  by_cases hi:i < n
  ·obtain ⟨R',e1,e2⟩:=zvM hn J at_ he kx m (i+1) (R++[zbJ zbf 0 0 zgs]) (by simp [h1]) (by omega) (by omega)
   refine ⟨R',e1,?_⟩
   rw [xY,zCJ (hi:=hi) (hn:=hn) (hR:=by omega),zIA L J he,zh zxZ,zpn L J he,zpn L J he]
   exact e2
  ·refine ⟨R,by omega,?_⟩
   rw [xY,zDC (hi:=hi)]
end
end
end Go.Proofs.Ytoeobffjdbdpgaa
