/- Part 12 of the proof of TxBack: an abstract machine over plain values, its soundness, and the functions of the program on plain values. -/
import Derived.Test.YtoeobffjdbdpgaaMTxBack11
namespace Go.Proofs.Ytoeobffjdbdpgaa
section
set_option maxRecDepth 100000
set_option linter.unusedVariables false
set_option linter.unusedSimpArgs false
def zia:CC:=(.seq (.reg [oo 80 (.bin .lss (tq 79) (tq 78))])
 (.seq (.cond (tq 80)
 .skip
 (.seq (.mask (bl 32281802128991715362 89) (bl 580284393415022003858953595 89))
 (.exit 6)))
 (.seq (.block 7 (.seq (.reg [oo 81 (.indexAddrS 1 (tq 77) (tq 79)),
   oo 82 (.load false 1 (tq 81) false),
   oo 13 (.move (tq 82) false)])
 (.reg [oo 83 (.move (tq 5) false),
   oo 84 (.move (tq 13) false),
   oo 85 (.call 187 [((tq 83),0),((tq 84),0)] []),
   oo 5 (.move (tq 85) true)])))
 (.reg [oo 86 (.bin .add (tq 79) (.const (.sc (.int .i64 1)))),
   oo 79 (.move (tq 86) false)]))))
def zlV:CC:=(.reg [oo 87 (.bin .add (tq 64) (.const (.sc (.int .i64 1)))),
   oo 64 (.move (tq 87) false)])
def znS:CC:=(.seq (.reg [oo 65 (.bin .lss (tq 64) (tq 63))])
 (.seq (.cond (tq 65)
 .skip
 (.seq (.mask (bl 32 89) (bl 579934938295289650113140091 89))
 (.exit 4)))
 (.seq (.block 5 (.seq (.reg [oo 66 (.indexAddrS 35 (tq 62) (tq 64)),
   oo 67 (.load true 35 (tq 66) false),
   oo 11 (.alloc true (rp 32 (.sc (.int .u8 0)) (rp 2 (.sc (.int .u32 0)) (rp 1 (.gs 1 []) [])))),
   oz (.store 35 (tq 11) (tq 67))])
 (.seq (.seq (.reg [oo 68 (.move (tq 1) false),
   oo 69 (.un .not (tq 68))])
 (.cond (tq 69)
 (.seq (.mask (bl 32 89) (bl 579934938295289650113140091 89))
 (.exit 4))
 .skip))
 (.seq (.reg [oo 70 (.move (tq 5) false),
   oo 71 (.fieldAddr 34 (tq 11)),
   oo 72 (.load false 1 (tq 71) false),
   oo 73 (.lenS (tq 72)),
   oo 74 (.conv .u64 (tq 73)),
   oo 75 (.call 185 [((tq 70),0),((tq 74),0)] []),
   oo 5 (.move (tq 75) true)])
 (.seq (.reg [oo 76 (.fieldAddr 34 (tq 11)),
   oo 77 (.load false 1 (tq 76) false),
   oo 78 (.lenS (tq 77)),
   oo 79 (.move (.const (.sc (.int .i64 0))) false)])
 (.block 6 (.loop (bl 1057842373964929519583266 89) (bl 580284393415022003858953595 89)
 zia)))))))
 zlV)))
def zpr:CC:=(.seq (.reg [oo 49 (.bin .lss (tq 48) (tq 47))])
 (.seq (.cond (tq 49)
 .skip
 (.seq (.mask (bl 38 89) (bl 618970019588646941921113471 89))
 (.exit 2)))
 (.seq (.block 3 (.seq (.reg [oo 50 (.indexAddrS 2 (tq 46) (tq 48)),
   oo 51 (.load true 2 (tq 50) false),
   oo 9 (.alloc true [(.sc (.int .i64 0)),(.gs 1 [])]),
   oz (.store 2 (tq 9) (tq 51))])
 (.reg [oo 52 (.move (tq 5) true),
   oo 53 (.load true 2 (tq 9) false),
   oo 54 (.call 186 [((tq 53),1)] []),
   oo 55 (.append 1 1 (tq 52) (tq 54)),
   oo 5 (.move (tq 55) true)])))
 (.reg [oo 56 (.bin .add (tq 48) (.const (.sc (.int .i64 1)))),
   oo 48 (.move (tq 56) false)]))))
def zqo:CC:=(.seq (.reg [oo 88 (.move (tq 5) true),
   oo 4 (.move (tq 88) true)])
 .ret)
def zrg:CC:=(.seq (.reg [oo 27 (.bin .lss (tq 26) (tq 25))])
 (.seq (.cond (tq 27)
 .skip
 (.seq (.mask (bl 38 89) (bl 618970019642689974240802175 89))
 (.exit 0)))
 (.seq (.block 1 (.seq (.reg [oo 28 (.indexAddrS 35 (tq 24) (tq 26)),
   oo 29 (.load true 35 (tq 28) false),
   oo 7 (.alloc true (rp 32 (.sc (.int .u8 0)) (rp 2 (.sc (.int .u32 0)) (rp 1 (.gs 1 []) [])))),
   oz (.store 35 (tq 7) (tq 29))])
 (.dreg [] [(oo 30 (.move (tq 5) true),qc [7] []),
   (oo 31 (.fieldAddr 0 (tq 7)),q0),
   (oo 32 (.load true 33 (tq 31) false),ql 7 [] []),
   (oo 33 (.call 138 [((tq 32),0)] []),qc [7] []),
   (oo 34 (.append 1 1 (tq 30) (tq 33)),qn [7] []),
   (oo 35 (.fieldAddr 33 (tq 7)),q0),
   (oo 36 (.load false 1 (tq 35) false),ql 7 [] [34]),
   (oo 37 (.call 159 [((tq 34),0),((tq 36),0)] []),q0),
   (oo 5 (.move (tq 37) true),q0)])))
 (.reg [oo 38 (.bin .add (tq 26) (.const (.sc (.int .i64 1)))),
   oo 26 (.move (tq 38) false)]))))
def zsJ:CC:=(.seq (.reg [oo 57 (.move (tq 5) false),
   oo 58 (.fieldAddr 3 (tq 2)),
   oo 59 (.load false 1 (tq 58) false),
   oo 60 (.call 159 [((tq 57),0),((tq 59),0)] []),
   oo 5 (.move (tq 60) true)])
 (.seq (.seq (.reg [oo 61 (.fieldAddr 1 (tq 2)),
   oo 62 (.load false 1 (tq 61) false),
   oo 63 (.lenS (tq 62)),
   oo 64 (.move (.const (.sc (.int .i64 0))) false)])
 (.block 4 (.loop (bl 32281802128991715362 89) (bl 579934938295289650113140091 89)
 znS)))
 zqo))
def zu7:CC:=(.seq (.reg [oo 39 (.move (tq 5) false),
   oo 40 (.fieldAddr 2 (tq 2)),
   oo 41 (.load false 1 (tq 40) false),
   oo 42 (.lenS (tq 41)),
   oo 43 (.conv .u64 (tq 42)),
   oo 44 (.call 185 [((tq 39),0),((tq 43),0)] []),
   oo 5 (.move (tq 44) true)])
 (.seq (.seq (.reg [oo 45 (.fieldAddr 2 (tq 2)),
   oo 46 (.load false 1 (tq 45) false),
   oo 47 (.lenS (tq 46)),
   oo 48 (.move (.const (.sc (.int .i64 0))) false)])
 (.block 2 (.loop (bl 492581209243686 89) (bl 618970019588646941921113471 89)
 zpr)))
 zsJ))
def zpW:CF:=⟨89,[.tmp 4],
 (.seq (.reg [oo 2 (.box true (tq 0)),
   oo 4 (.move (.const (.gs 1 [])) true)])
 (.seq (.reg [oo 14 (.fieldAddr 0 (tq 2)),
   oo 15 (.load false 1 (tq 14) false),
   oo 16 (.call 159 [((.const (.gs 1 [])),0),((tq 15),0)] []),
   oo 5 (.move (tq 16) true)])
 (.seq (.reg [oo 17 (.move (tq 5) false),
   oo 18 (.fieldAddr 1 (tq 2)),
   oo 19 (.load false 1 (tq 18) false),
   oo 20 (.lenS (tq 19)),
   oo 21 (.conv .u64 (tq 20)),
   oo 22 (.call 185 [((tq 17),0),((tq 21),0)] []),
   oo 5 (.move (tq 22) true)])
 (.seq (.seq (.reg [oo 23 (.fieldAddr 1 (tq 2)),
   oo 24 (.load false 1 (tq 23) false),
   oo 25 (.lenS (tq 24)),
   oo 26 (.move (.const (.sc (.int .i64 0))) false)])
 (.block 0 (.loop (bl 117440550 89) (bl 618970019642689974240802175 89)
 zrg)))
 zu7))))⟩
def znz:Hint:=⟨[(0,0),(0,1),(1,3),(2,6),(5,2),(6,0),(6,8),(8,6),(11,2),(12,0),(12,4),(14,4),(17,2),(19,6),(23,3),(26,0),(26,1)],[],[none,some ((bl 117440550 89),(bl 618970019642689974240802175 89)),none,some ((bl 38 89),(bl 618970019642689974240802175 89)),none,none,some ((bl 492581209243686 89),(bl 618970019588646941921113471 89)),none,some ((bl 38 89),(bl 618970019588646941921113471 89)),none,none,some ((bl 32281802128991715362 89),(bl 579934938295289650113140091 89)),none,some ((bl 32 89),(bl 579934938295289650113140091 89)),none,none,some ((bl 32 89),(bl 579934938295289650113140091 89)),none,some ((bl 1057842373964929519583266 89),(bl 580284393415022003858953595 89)),none,some ((bl 32281802128991715362 89),(bl 580284393415022003858953595 89)),none,none],[],[],false,false,[]⟩
def zHJ:Nat→Sh:=yL [(15,(.int .u32)),(19,(.sl 35)),(24,(.sl 35)),(36,(.int .u32)),(41,(.sl 2)),(46,(.sl 2)),(59,(.int .u32)),(62,(.sl 35)),(72,(.sl 1)),(77,(.sl 1)),(82,(.sl 1))]
def zHZ (xh:yE) (xg:yA) (zq:xS) (zu:z0) (zg:yy) (L:Nat):CBC:=(zt 187 (zlK zg L) (zt 186 (zC5 zu L) (zt 138 (zAi zq L) (zt 185 (zmY xg L) (zt 159 (znA xh L) noC)))))
def zER:St→St:=zV 0 (bl 117440550 89) (bl 618970019642689974240802175 89)
def zDd:St→St:=zV 0 (bl 492581209243686 89) (bl 618970019588646941921113471 89)
def zBX:St→St:=zV 0 (bl 32281802128991715362 89) (bl 579934938295289650113140091 89)
def zvY:St→St:=zV 0 (bl 1057842373964929519583266 89) (bl 580284393415022003858953595 89)
def zCM (p1:Bool) (p5 p24:List (List V)) (p25 p26:Int) (b2:List V):St:=⟨(jn 1 ((V.sc (.bool p1))::((V.ptr 2 0)::(jn 2 ((V.gs 1 p5)::(jn 18 ((V.sl 35 p24)::((V.sc (.int .i64 p25))::((V.sc (.int .i64 p26))::(jn 62 [])))))))))),(gn 2 ((.live true b2)::(gn 86 [])))⟩
def zFk (p1:Bool) (p5:List (List V)) (b2:List V):St:=⟨(jn 1 ((V.sc (.bool p1))::((V.ptr 2 0)::(jn 2 ((V.gs 1 p5)::(jn 83 [])))))),(gn 2 ((.live true b2)::(gn 86 [])))⟩
def zAT (p1:Bool) (p5 p46:List (List V)) (p47 p48:Int) (b2:List V):St:=⟨(jn 1 ((V.sc (.bool p1))::((V.ptr 2 0)::(jn 2 ((V.gs 1 p5)::(jn 40 ((V.sl 2 p46)::((V.sc (.int .i64 p47))::((V.sc (.int .i64 p48))::(jn 40 [])))))))))),(gn 2 ((.live true b2)::(gn 86 [])))⟩
def zFL (p1:Bool) (p5:List (List V)) (b2:List V):St:=⟨(jn 1 ((V.sc (.bool p1))::((V.ptr 2 0)::(jn 2 ((V.gs 1 p5)::(jn 83 [])))))),(gn 2 ((.live true b2)::(gn 86 [])))⟩
def zzY (p1:Bool) (p5 p62:List (List V)) (p63 p64:Int):St:=⟨(jn 1 ((V.sc (.bool p1))::(jn 3 ((V.gs 1 p5)::(jn 56 ((V.sl 35 p62)::((V.sc (.int .i64 p63))::((V.sc (.int .i64 p64))::(jn 24 []))))))))),(gn 89 [])⟩
def zF0 (p5:List (List V)):St:=⟨(jn 5 ((V.gs 1 p5)::(jn 83 []))),(gn 89 [])⟩
def zt3 (p1:Bool) (p5 p62:List (List V)) (p63 p64:Int) (p77:List (List V)) (p78 p79:Int):St:=⟨(jn 1 ((V.sc (.bool p1))::(jn 3 ((V.gs 1 p5)::(jn 56 ((V.sl 35 p62)::((V.sc (.int .i64 p63))::((V.sc (.int .i64 p64))::(jn 12 ((V.sl 1 p77)::((V.sc (.int .i64 p78))::((V.sc (.int .i64 p79))::(jn 9 []))))))))))))),(gn 89 [])⟩
def zFx (p1:Bool) (p5 p62:List (List V)) (p63 p64:Int):St:=⟨(jn 1 ((V.sc (.bool p1))::(jn 3 ((V.gs 1 p5)::(jn 56 ((V.sl 35 p62)::((V.sc (.int .i64 p63))::((V.sc (.int .i64 p64))::(jn 24 []))))))))),(gn 89 [])⟩
abbrev zkg (β:Type):Type:=Bool→List (List V)→List (List V)→Int→Int→List V→Option β
abbrev zig (β:Type):Type:=Bool→List (List V)→List (List V)→Int→Int→List V→Option β
abbrev zdj (β:Type):Type:=Bool→List (List V)→List (List V)→Int→Int→List (List V)→Int→Int→Option β
def zzl {β:Type} (xh:yE) (xg:yA) (zq:xS) (zu:z0) (zg:yy) (L:Nat) (p0:List V) (p1:Bool) (k_hbbbaba:zkg β):Option β :=
 cI .u32 p0 0 fun v0 =>
 xh β L ([]:List (List V)) v0 (fun v1 =>
 cLd 35 p0 1 fun v2 =>
 lt (IntKind.wrap .u64 ((List.length v2:Nat):Int)) fun x3 =>
 xg β L v1 x3 (fun v4 =>
 cLd 35 p0 1 fun v5 =>
 k_hbbbaba p1 v4 v5 ((List.length v5:Nat):Int) (0:Int) p0))
def zsg {β:Type} (xh:yE) (xg:yA) (zq:xS) (zu:z0) (zg:yy) (L:Nat) (p1:Bool) (p5 p24:List (List V)) (p25 p26:Int) (b2:List V) (k_hbbbaba:zkg β) (k_x0:Bool→List (List V)→List V→Option β):Option β :=
 ifb (decide (p26 < p25)) (
 idx p24 p26 fun c6 =>
 chk ((List.length (List.take 35 c6))=35∧0+35≤35) (
 lt (zl (List.replicate 32 (V.sc (.int .u8 (0:Int)))++[(V.sc (.int .u32 (0:Int))),(V.sc (.int .u32 (0:Int))),(V.gs 1 ([]:List (List V)))]) 0 (List.take 35 c6)) fun r7 =>
 chk (0+33≤(List.length r7)) (
 zq β L (List.take 33 r7) (fun v8 =>
 chk ((List.length p5+List.length v8) * 1≤zk∧List.length p5+List.length v8≤zk) (
 lt (p5++v8) fun l9 =>
 cI .u32 r7 33 fun v10 =>
 xh β L l9 v10 (fun v11 =>
 lt (IntKind.wrap .i64 ((p26:Int)+(1:Int))) fun x12 =>
 k_hbbbaba p1 v11 p24 p25 x12 b2)))))) (
 k_x0 p1 p5 b2)
def zqu {β:Type} (xh:yE) (xg:yA) (zq:xS) (zu:z0) (zg:yy) (L:Nat) (p1:Bool) (p5:List (List V)) (b2:List V) (k_hbbbbbaba:zig β):Option β :=
 cLd 2 b2 2 fun v13 =>
 lt (IntKind.wrap .u64 ((List.length v13:Nat):Int)) fun x14 =>
 xg β L p5 x14 (fun v15 =>
 cLd 2 b2 2 fun v16 =>
 k_hbbbbbaba p1 v15 v16 ((List.length v16:Nat):Int) (0:Int) b2)
def zqx {β:Type} (xh:yE) (xg:yA) (zq:xS) (zu:z0) (zg:yy) (L:Nat) (p1:Bool) (p5 p46:List (List V)) (p47 p48:Int) (b2:List V) (k_hbbbbbaba:zig β) (k_x2:Bool→List (List V)→List V→Option β):Option β :=
 ifb (decide (p48 < p47)) (
 idx p46 p48 fun c17 =>
 chk ((List.length (List.take 2 c17))=2∧0+2≤2) (
 lt (zl [(V.sc (.int .i64 (0:Int))),(V.gs 1 ([]:List (List V)))] 0 (List.take 2 c17)) fun r18 =>
 chk (0+2≤(List.length r18)) (
 zu β L (List.map V.dem (List.take 2 r18)) (fun v19 =>
 chk ((List.length p5+List.length v19) * 1≤zk∧List.length p5+List.length v19≤zk) (
 lt (p5++v19) fun l20 =>
 lt (IntKind.wrap .i64 ((p48:Int)+(1:Int))) fun x21 =>
 k_hbbbbbaba p1 l20 p46 p47 x21 b2))))) (
 k_x2 p1 p5 b2)
def zoz {β:Type} (xh:yE) (xg:yA) (zq:xS) (zu:z0) (zg:yy) (L:Nat) (p1:Bool) (p5:List (List V)) (b2:List V) (k_hbbbbbbbaba:Bool→List (List V)→List (List V)→Int→Int→Option β):Option β :=
 cI .u32 b2 3 fun v22 =>
 xh β L p5 v22 (fun v23 =>
 cLd 35 b2 1 fun v24 =>
 k_hbbbbbbbaba p1 v23 v24 ((List.length v24:Nat):Int) (0:Int))
def zoM {β:Type} (xh:yE) (xg:yA) (zq:xS) (zu:z0) (zg:yy) (L:Nat) (p1:Bool) (p5 p62:List (List V)) (p63 p64:Int) (k_x4:List (List V)→Option β) (k_hbbbbbbbabaabbaabbbba:zdj β):Option β :=
 ifb (decide (p64 < p63)) (
 idx p62 p64 fun c25 =>
 chk ((List.length (List.take 35 c25))=35∧0+35≤35) (
 lt (zl (List.replicate 32 (V.sc (.int .u8 (0:Int)))++[(V.sc (.int .u32 (0:Int))),(V.sc (.int .u32 (0:Int))),(V.gs 1 ([]:List (List V)))]) 0 (List.take 35 c25)) fun r26 =>
 ifb (!p1) (
 k_x4 p5) (
 cLd 1 r26 34 fun v27 =>
 lt (IntKind.wrap .u64 ((List.length v27:Nat):Int)) fun x28 =>
 xg β L p5 x28 (fun v29 =>
 cLd 1 r26 34 fun v30 =>
 k_hbbbbbbbabaabbaabbbba p1 v29 p62 p63 p64 v30 ((List.length v30:Nat):Int) (0:Int))))) (
 k_x4 p5)
def znt {β:Type} (xh:yE) (xg:yA) (zq:xS) (zu:z0) (zg:yy) (L:Nat) (p5:List (List V)) (k_fin:List (List V)→Option β):Option β :=
 k_fin p5
def ziE {β:Type} (xh:yE) (xg:yA) (zq:xS) (zu:z0) (zg:yy) (L:Nat) (p1:Bool) (p5 p62:List (List V)) (p63 p64:Int) (p77:List (List V)) (p78 p79:Int) (k_hbbbbbbbabaabbaabbbba:zdj β) (k_x6:Bool→List (List V)→List (List V)→Int→Int→Option β):Option β :=
 ifb (decide (p79 < p78)) (
 idx p77 p79 fun c31 =>
 cL 1 c31 0 fun v32 =>
 zg β L p5 v32 (fun v33 =>
 lt (IntKind.wrap .i64 ((p79:Int)+(1:Int))) fun x34 =>
 k_hbbbbbbbabaabbaabbbba p1 v33 p62 p63 p64 p77 p78 x34)) (
 k_x6 p1 p5 p62 p63 p64)
def zhs {β:Type} (xh:yE) (xg:yA) (zq:xS) (zu:z0) (zg:yy) (L:Nat) (p1:Bool) (p5 p62:List (List V)) (p63 p64:Int) (k_hbbbbbbbaba:Bool→List (List V)→List (List V)→Int→Int→Option β):Option β :=
 lt (IntKind.wrap .i64 ((p64:Int)+(1:Int))) fun x35 =>
 k_hbbbbbbbaba p1 p5 p62 p63 x35
def zk8 {β:Type} (xh:yE) (xg:yA) (zq:xS) (zu:z0) (zg:yy) (L:Nat) (k_x0:Bool→List (List V)→List V→Option β):Nat→Bool→List (List V)→List (List V)→Int→Int→List V→Option β
 | 0,_,_,_,_,_,_=>none
 | n+1,p1,p5,p24,p25,p26,b2=>zsg xh xg zq zu zg L p1 p5 p24 p25 p26 b2 (fun p1 p5 p24 p25 p26 b2=>zk8 xh xg zq zu zg L k_x0 n p1 p5 p24 p25 p26 b2) k_x0
def ziR {β:Type} (xh:yE) (xg:yA) (zq:xS) (zu:z0) (zg:yy) (L:Nat) (k_x2:Bool→List (List V)→List V→Option β):Nat→Bool→List (List V)→List (List V)→Int→Int→List V→Option β
 | 0,_,_,_,_,_,_=>none
 | n+1,p1,p5,p46,p47,p48,b2=>zqx xh xg zq zu zg L p1 p5 p46 p47 p48 b2 (fun p1 p5 p46 p47 p48 b2=>ziR xh xg zq zu zg L k_x2 n p1 p5 p46 p47 p48 b2) k_x2
def zdy {β:Type} (xh:yE) (xg:yA) (zq:xS) (zu:z0) (zg:yy) (L:Nat) (k_x6:Bool→List (List V)→List (List V)→Int→Int→Option β):Nat→Bool→List (List V)→List (List V)→Int→Int→List (List V)→Int→Int→Option β
 | 0,_,_,_,_,_,_,_,_=>none
 | n+1,p1,p5,p62,p63,p64,p77,p78,p79=>ziE xh xg zq zu zg L p1 p5 p62 p63 p64 p77 p78 p79 (fun p1 p5 p62 p63 p64 p77 p78 p79=>zdy xh xg zq zu zg L k_x6 n p1 p5 p62 p63 p64 p77 p78 p79) k_x6
def znX {β:Type} (xh:yE) (xg:yA) (zq:xS) (zu:z0) (zg:yy) (L:Nat) (p1:Bool) (p5 p62:List (List V)) (p63 p64:Int) (k_x4:List (List V)→Option β) (k_hbbbbbbbaba:Bool→List (List V)→List (List V)→Int→Int→Option β):Option β :=
 zoM xh xg zq zu zg L p1 p5 p62 p63 p64 k_x4 (fun p1 p5 p62 p63 p64 p77 p78 p79=>zdy xh xg zq zu zg L (fun p1 p5 p62 p63 p64=>zhs xh xg zq zu zg L p1 p5 p62 p63 p64 k_hbbbbbbbaba) L p1 p5 p62 p63 p64 p77 p78 p79)
def zhI {β:Type} (xh:yE) (xg:yA) (zq:xS) (zu:z0) (zg:yy) (L:Nat) (k_x4:List (List V)→Option β):Nat→Bool→List (List V)→List (List V)→Int→Int→Option β
 | 0,_,_,_,_,_=>none
 | n+1,p1,p5,p62,p63,p64=>znX xh xg zq zu zg L p1 p5 p62 p63 p64 k_x4 (fun p1 p5 p62 p63 p64=>zhI xh xg zq zu zg L k_x4 n p1 p5 p62 p63 p64)
def zoa {β:Type} (xh:yE) (xg:yA) (zq:xS) (zu:z0) (zg:yy) (L:Nat) (p1:Bool) (p5:List (List V)) (b2:List V) (k_fin:List (List V)→Option β):Option β :=
 zoz xh xg zq zu zg L p1 p5 b2 (fun p1 p5 p62 p63 p64=>zhI xh xg zq zu zg L (fun p5=>znt xh xg zq zu zg L p5 k_fin) L p1 p5 p62 p63 p64)
def zpv {β:Type} (xh:yE) (xg:yA) (zq:xS) (zu:z0) (zg:yy) (L:Nat) (p1:Bool) (p5:List (List V)) (b2:List V) (k_fin:List (List V)→Option β):Option β :=
 zqu xh xg zq zu zg L p1 p5 b2 (fun p1 p5 p46 p47 p48 b2=>ziR xh xg zq zu zg L (fun p1 p5 b2=>zoa xh xg zq zu zg L p1 p5 b2 k_fin) L p1 p5 p46 p47 p48 b2)
def zyM {β:Type} (xh:yE) (xg:yA) (zq:xS) (zu:z0) (zg:yy) (L:Nat) (p0:List V) (p1:Bool) (k_fin:List (List V)→Option β):Option β :=
 zzl xh xg zq zu zg L p0 p1 (fun p1 p5 p24 p25 p26 b2=>zk8 xh xg zq zu zg L (fun p1 p5 b2=>zpv xh xg zq zu zg L p1 p5 b2 k_fin) L p1 p5 p24 p25 p26 b2)
abbrev zO:=∀ (β:Type),Nat→List V→Bool→(List (List V)→Option β)→Option β
def xm (β:Type) (L:Nat) (p0:List V) (p1:Bool) (k_fin:List (List V)→Option β):Option β:=zyM xh xg zq zu zg L p0 p1 k_fin
def zr7 (xm:zO) (L:Nat) (β:Type) (args:List V) (bor:Bor) (k:KK β):Option β:=match args,bor with
 | [a0,a1],[]=>aG a0 fun p0=>aB a1 fun p1=>xm β L p0 p1 (fun p0=>k (V.gs 1 p0) [])
 | _,_=>none
def zl5:CC:=(.seq (.reg [oo 51 (.bin .lss (tq 50) (tq 49))])
 (.seq (.cond (tq 51)
 .skip
 (.seq (.mask (bl 962072674306 63) (bl 9187343239835811499 63))
 (.exit 4)))
 (.seq (.block 5 (.seq (.reg [oo 52 (.indexAddrS 1 (tq 48) (tq 50)),
   oo 53 (.load false 1 (tq 52) false),
   oo 8 (.move (tq 53) false)])
 (.seq (.reg [oo 54 (.move (tq 8) false),
   oo 55 (.lenS (tq 54)),
   oo 56 (.bin .gtr (tq 55) (.const (.sc (.int .i64 520))))])
 (.cond (tq 56)
 (.seq (.reg [oo 2 (.move (.const (.sc (.bool false))) false)])
 (.seq (.mask (bl 4 63) (bl 9186745105510301357 63))
 .ret))
 .skip))))
 (.reg [oo 57 (.bin .add (tq 50) (.const (.sc (.int .i64 1)))),
   oo 50 (.move (tq 57) false)]))))
def zqN:CC:=(.reg [oo 58 (.bin .add (tq 39) (.const (.sc (.int .i64 1)))),
   oo 39 (.move (tq 58) false)])
def ztM:CC:=(.seq (.reg [oo 40 (.bin .lss (tq 39) (tq 38))])
 (.seq (.cond (tq 40)
 .skip
 (.seq (.mask (bl 2 63) (bl 9186745105510301355 63))
 (.exit 2)))
 (.seq (.block 3 (.seq (.reg [oo 41 (.indexAddrS 35 (tq 37) (tq 39)),
   oo 42 (.load true 35 (tq 41) false),
   oo 6 (.alloc true (rp 32 (.sc (.int .u8 0)) (rp 2 (.sc (.int .u32 0)) (rp 1 (.gs 1 []) [])))),
   oz (.store 35 (tq 6) (tq 42))])
 (.seq (.seq (.reg [oo 43 (.fieldAddr 34 (tq 6)),
   oo 44 (.load false 1 (tq 43) false),
   oo 45 (.lenS (tq 44)),
   oo 46 (.bin .gtr (tq 45) (.const (.sc (.int .i64 32))))])
 (.cond (tq 46)
 (.seq (.reg [oo 2 (.move (.const (.sc (.bool false))) false)])
 (.seq (.mask (bl 4 63) (bl 9186745105510301357 63))
 .ret))
 .skip))
 (.seq (.reg [oo 47 (.fieldAddr 34 (tq 6)),
   oo 48 (.load false 1 (tq 47) false),
   oo 49 (.lenS (tq 48)),
   oo 50 (.move (.const (.sc (.int .i64 0))) false)])
 (.block 4 (.loop (bl 1971286909648898 63) (bl 9187343239835811499 63)
 zl5))))))
 zqN)))
def zug:CC:=(.seq (.reg [oo 23 (.bin .lss (tq 22) (tq 21))])
 (.seq (.cond (tq 23)
 .skip
 (.seq (.mask (bl 2 63) (bl 9223372032559808427 63))
 (.exit 0)))
 (.seq (.block 1 (.seq (.reg [oo 24 (.indexAddrS 2 (tq 20) (tq 22)),
   oo 25 (.load true 2 (tq 24) false),
   oo 4 (.alloc true [(.sc (.int .i64 0)),(.gs 1 [])]),
   oz (.store 2 (tq 4) (tq 25))])
 (.seq (.reg [oo 26 (.fieldAddr 0 (tq 4)),
   oo 27 (.load false 1 (tq 26) false),
   oo 28 (.bin .lss (tq 27) (.const (.sc (.int .i64 0)))),
   oo 29 (.move (tq 28) false),
   ⟨(some 30),false,(some (29,false)),.fieldAddr 1 (tq 4)⟩,
   ⟨(some 31),false,(some (29,false)),.load false 1 (tq 30) false⟩,
   ⟨(some 32),false,(some (29,false)),.lenS (tq 31)⟩,
   ⟨(some 33),false,(some (29,false)),.bin .gtr (tq 32) (.const (.sc (.int .i64 520)))⟩,
   oo 34 (.pick (tq 29) (.const (.sc (.bool true))) (tq 33))])
 (.cond (tq 34)
 (.seq (.reg [oo 2 (.move (.const (.sc (.bool false))) false)])
 (.seq (.mask (bl 4 63) (bl 9223372032559808429 63))
 .ret))
 .skip))))
 (.reg [oo 35 (.bin .add (tq 22) (.const (.sc (.int .i64 1)))),
   oo 22 (.move (tq 35) false)]))))
def zwN:CC:=(.seq (.reg [oo 59 (.load true 4 (tq 1) false),
   oo 60 (.call 149 [((tq 59),1),((.const (.sc (.bool true))),0)] []),
   oo 61 (.lenS (tq 60)),
   oo 62 (.bin .leq (tq 61) (.const (.sc (.int .i64 20000)))),
   oo 2 (.move (tq 62) false)])
 .ret)
def zw3:CC:=(.seq (.seq (.reg [oo 36 (.fieldAddr 1 (tq 1)),
   oo 37 (.load false 1 (tq 36) false),
   oo 38 (.lenS (tq 37)),
   oo 39 (.move (.const (.sc (.int .i64 0))) false)])
 (.block 2 (.loop (bl 962072674306 63) (bl 9186745105510301355 63)
 ztM)))
 zwN)
def ztq:CF:=⟨63,[.tmp 2],
 (.seq (.reg [oo 1 (.box true (tq 0)),
   oo 2 (.move (.const (.sc (.bool false))) false)])
 (.seq (.seq (.reg [oo 9 (.fieldAddr 1 (tq 1)),
   oo 10 (.load false 1 (tq 9) false),
   oo 11 (.lenS (tq 10)),
   oo 12 (.bin .gtr (tq 11) (.const (.sc (.int .i64 64)))),
   oo 13 (.move (tq 12) false),
   ⟨(some 14),false,(some (13,false)),.fieldAddr 2 (tq 1)⟩,
   ⟨(some 15),false,(some (13,false)),.load false 1 (tq 14) false⟩,
   ⟨(some 16),false,(some (13,false)),.lenS (tq 15)⟩,
   ⟨(some 17),false,(some (13,false)),.bin .gtr (tq 16) (.const (.sc (.int .i64 64)))⟩,
   oo 18 (.pick (tq 13) (.const (.sc (.bool true))) (tq 17))])
 (.cond (tq 18)
 (.seq (.reg [oo 2 (.move (.const (.sc (.bool false))) false)])
 .ret)
 .skip))
 (.seq (.seq (.reg [oo 19 (.fieldAddr 2 (tq 1)),
   oo 20 (.load false 1 (tq 19) false),
   oo 21 (.lenS (tq 20)),
   oo 22 (.move (.const (.sc (.int .i64 0))) false)])
 (.block 0 (.loop (bl 7340034 63) (bl 9223372032559808427 63)
 zug)))
 zw3)))⟩
def zpP:Hint:=⟨[(0,0),(5,2),(11,2)],[],[none,none,none,some ((bl 7340034 63),(bl 9223372032559808427 63)),none,some ((bl 2 63),(bl 9223372032559808427 63)),none,none,some ((bl 4 63),(bl 9223372032559808429 63)),none,some ((bl 962072674306 63),(bl 9186745105510301355 63)),none,some ((bl 2 63),(bl 9186745105510301355 63)),none,none,some ((bl 4 63),(bl 9186745105510301357 63)),none,some ((bl 1971286909648898 63),(bl 9187343239835811499 63)),none,some ((bl 962072674306 63),(bl 9187343239835811499 63)),none,none,some ((bl 4 63),(bl 9186745105510301357 63)),none],[],[],false,false,[]⟩
def zIZ:Nat→Sh:=yL [(10,(.sl 35)),(15,(.sl 2)),(20,(.sl 2)),(27,(.int .i64)),(31,(.sl 1)),(37,(.sl 35)),(44,(.sl 1)),(48,(.sl 1)),(53,(.sl 1))]
def zI0 (xm:zO) (L:Nat):CBC:=(zt 149 (zr7 xm L) noC)
def zGt:St→St:=zV 0 (bl 7340034 63) (bl 9223372032559808427 63)
def zGf:St→St:=zV 0 (bl 962072674306 63) (bl 9186745105510301355 63)
def zzU:St→St:=zV 0 (bl 1971286909648898 63) (bl 9187343239835811499 63)
def zEF (p20:List (List V)) (p21 p22:Int) (b1:List V):St:=⟨(jn 1 ((V.ptr 1 0)::(jn 18 ((V.sl 2 p20)::((V.sc (.int .i64 p21))::((V.sc (.int .i64 p22))::(jn 40 []))))))),(gn 1 ((.live true b1)::(gn 61 [])))⟩
def zGu (p2:Bool):St:=⟨(jn 2 ((V.sc (.bool p2))::(jn 60 []))),(gn 63 [])⟩
def zG6 (b1:List V):St:=⟨(jn 1 ((V.ptr 1 0)::(jn 61 []))),(gn 1 ((.live true b1)::(gn 61 [])))⟩
def zDy (p37:List (List V)) (p38 p39:Int) (b1:List V):St:=⟨(jn 1 ((V.ptr 1 0)::(jn 35 ((V.sl 35 p37)::((V.sc (.int .i64 p38))::((V.sc (.int .i64 p39))::(jn 23 []))))))),(gn 1 ((.live true b1)::(gn 61 [])))⟩
def zxo (p37:List (List V)) (p38 p39:Int) (p48:List (List V)) (p49 p50:Int) (b1:List V):St:=⟨(jn 1 ((V.ptr 1 0)::(jn 35 ((V.sl 35 p37)::((V.sc (.int .i64 p38))::((V.sc (.int .i64 p39))::(jn 8 ((V.sl 1 p48)::((V.sc (.int .i64 p49))::((V.sc (.int .i64 p50))::(jn 12 []))))))))))),(gn 1 ((.live true b1)::(gn 61 [])))⟩
def zGH (b1:List V):St:=⟨(jn 1 ((V.ptr 1 0)::(jn 61 []))),(gn 1 ((.live true b1)::(gn 61 [])))⟩
def zHl (p37:List (List V)) (p38 p39:Int) (b1:List V):St:=⟨(jn 1 ((V.ptr 1 0)::(jn 35 ((V.sl 35 p37)::((V.sc (.int .i64 p38))::((V.sc (.int .i64 p39))::(jn 23 []))))))),(gn 1 ((.live true b1)::(gn 61 [])))⟩
abbrev zfI (β:Type):Type:=List (List V)→Int→Int→List (List V)→Int→Int→List V→Option β
def zCm {β:Type} (xm:zO) (L:Nat) (p0:List V) (k_fin:Bool→Option β) (k_hbbaba:List (List V)→Int→Int→List V→Option β):Option β :=
 cLd 35 p0 1 fun v0 =>
 ifb (decide (((List.length v0:Nat):Int) > (64:Int))) (
 k_fin false) (
 cLd 2 p0 2 fun v1 =>
 ifb (decide (((List.length v1:Nat):Int) > (64:Int))) (
 k_fin false) (
 cLd 2 p0 2 fun v2 =>
 k_hbbaba v2 ((List.length v2:Nat):Int) (0:Int) p0))
def zvT {β:Type} (xm:zO) (L:Nat) (p20:List (List V)) (p21 p22:Int) (b1:List V) (k_ret:Bool→Option β) (k_hbbaba:List (List V)→Int→Int→List V→Option β) (k_x0:List V→Option β):Option β :=
 ifb (decide (p22 < p21)) (
 idx p20 p22 fun c3 =>
 chk ((List.length (List.take 2 c3))=2∧0+2≤2) (
 lt (zl [(V.sc (.int .i64 (0:Int))),(V.gs 1 ([]:List (List V)))] 0 (List.take 2 c3)) fun r4 =>
 cI .i64 r4 0 fun v5 =>
 ifb (decide (v5 < (0:Int))) (
 k_ret false) (
 cLd 1 r4 1 fun v6 =>
 ifb (decide (((List.length v6:Nat):Int) > (520:Int))) (
 k_ret false) (
 lt (IntKind.wrap .i64 ((p22:Int)+(1:Int))) fun x7 =>
 k_hbbaba p20 p21 x7 b1)))) (
 k_x0 b1)
def zs5 {β:Type} (xm:zO) (L:Nat) (p2:Bool) (k_fin:Bool→Option β):Option β :=
 k_fin p2
def ztJ {β:Type} (xm:zO) (L:Nat) (b1:List V) (k_hbbbaba:List (List V)→Int→Int→List V→Option β):Option β :=
 cLd 35 b1 1 fun v8 =>
 k_hbbbaba v8 ((List.length v8:Nat):Int) (0:Int) b1
def zt6 {β:Type} (xm:zO) (L:Nat) (p37:List (List V)) (p38 p39:Int) (b1:List V) (k_ret:Bool→Option β) (k_hbbbabaabbaabbba:zfI β) (k_x2:List V→Option β):Option β :=
 ifb (decide (p39 < p38)) (
 idx p37 p39 fun c9 =>
 chk ((List.length (List.take 35 c9))=35∧0+35≤35) (
 lt (zl (List.replicate 32 (V.sc (.int .u8 (0:Int)))++[(V.sc (.int .u32 (0:Int))),(V.sc (.int .u32 (0:Int))),(V.gs 1 ([]:List (List V)))]) 0 (List.take 35 c9)) fun r10 =>
 cLd 1 r10 34 fun v11 =>
 ifb (decide (((List.length v11:Nat):Int) > (32:Int))) (
 k_ret false) (
 cLd 1 r10 34 fun v12 =>
 k_hbbbabaabbaabbba p37 p38 p39 v12 ((List.length v12:Nat):Int) (0:Int) b1))) (
 k_x2 b1)
def zrp {β:Type} (xm:zO) (L:Nat) (p2:Bool) (k_fin:Bool→Option β):Option β :=
 k_fin p2
def zsy {β:Type} (xm:zO) (L:Nat) (b1:List V) (k_fin:Bool→Option β):Option β :=
 chk (0+4≤(List.length b1)) (
 xm β L (List.map V.dem (List.take 4 b1)) true (fun v13 =>
 k_fin (decide (((List.length v13:Nat):Int)≤(20000:Int)))))
def zmT {β:Type} (xm:zO) (L:Nat) (p37:List (List V)) (p38 p39:Int) (p48:List (List V)) (p49 p50:Int) (b1:List V) (k_ret:Bool→Option β) (k_hbbbabaabbaabbba:zfI β) (k_x4:List (List V)→Int→Int→List V→Option β):Option β :=
 ifb (decide (p50 < p49)) (
 idx p48 p50 fun c14 =>
 cL 1 c14 0 fun v15 =>
 ifb (decide (((List.length v15:Nat):Int) > (520:Int))) (
 k_ret false) (
 lt (IntKind.wrap .i64 ((p50:Int)+(1:Int))) fun x16 =>
 k_hbbbabaabbaabbba p37 p38 p39 p48 p49 x16 b1)) (
 k_x4 p37 p38 p39 b1)
def zku {β:Type} (xm:zO) (L:Nat) (p2:Bool) (k_ret:Bool→Option β):Option β :=
 k_ret p2
def zly {β:Type} (xm:zO) (L:Nat) (p37:List (List V)) (p38 p39:Int) (b1:List V) (k_hbbbaba:List (List V)→Int→Int→List V→Option β):Option β :=
 lt (IntKind.wrap .i64 ((p39:Int)+(1:Int))) fun x17 =>
 k_hbbbaba p37 p38 x17 b1
def znO {β:Type} (xm:zO) (L:Nat) (k_ret:Bool→Option β) (k_x0:List V→Option β):Nat→List (List V)→Int→Int→List V→Option β
 | 0,_,_,_,_=>none
 | n+1,p20,p21,p22,b1=>zvT xm L p20 p21 p22 b1 k_ret (fun p20 p21 p22 b1=>znO xm L k_ret k_x0 n p20 p21 p22 b1) k_x0
def zfU {β:Type} (xm:zO) (L:Nat) (k_ret:Bool→Option β) (k_x4:List (List V)→Int→Int→List V→Option β):Nat→List (List V)→Int→Int→List (List V)→Int→Int→List V→Option β
 | 0,_,_,_,_,_,_,_=>none
 | n+1,p37,p38,p39,p48,p49,p50,b1=>zmT xm L p37 p38 p39 p48 p49 p50 b1 k_ret (fun p37 p38 p39 p48 p49 p50 b1=>zfU xm L k_ret k_x4 n p37 p38 p39 p48 p49 p50 b1) k_x4
def ztK {β:Type} (xm:zO) (L:Nat) (p37:List (List V)) (p38 p39:Int) (b1:List V) (k_ret:Bool→Option β) (k_x2:List V→Option β) (k_hbbbaba:List (List V)→Int→Int→List V→Option β):Option β :=
 zt6 xm L p37 p38 p39 b1 k_ret (fun p37 p38 p39 p48 p49 p50 b1=>zfU xm L (fun p2=>zku xm L p2 k_ret) (fun p37 p38 p39 b1=>zly xm L p37 p38 p39 b1 k_hbbbaba) L p37 p38 p39 p48 p49 p50 b1) k_x2
def zm6 {β:Type} (xm:zO) (L:Nat) (k_ret:Bool→Option β) (k_x2:List V→Option β):Nat→List (List V)→Int→Int→List V→Option β
 | 0,_,_,_,_=>none
 | n+1,p37,p38,p39,b1=>ztK xm L p37 p38 p39 b1 k_ret k_x2 (fun p37 p38 p39 b1=>zm6 xm L k_ret k_x2 n p37 p38 p39 b1)
def zsp {β:Type} (xm:zO) (L:Nat) (b1:List V) (k_fin:Bool→Option β):Option β :=
 ztJ xm L b1 (fun p37 p38 p39 b1=>zm6 xm L (fun p2=>zrp xm L p2 k_fin) (fun b1=>zsy xm L b1 k_fin) L p37 p38 p39 b1)
def zBu {β:Type} (xm:zO) (L:Nat) (p0:List V) (k_fin:Bool→Option β):Option β :=
 zCm xm L p0 k_fin (fun p20 p21 p22 b1=>znO xm L (fun p2=>zs5 xm L p2 k_fin) (fun b1=>zsp xm L b1 k_fin) L p20 p21 p22 b1)
abbrev zoO:=∀ (β:Type),Nat→List V→(Bool→Option β)→Option β
def zee (β:Type) (L:Nat) (p0:List V) (k_fin:Bool→Option β):Option β:=zBu xm L p0 k_fin
def zBx (zee:zoO) (L:Nat) (β:Type) (args:List V) (bor:Bor) (k:KK β):Option β:=match args,bor with
 | [a0],[]=>aG a0 fun p0=>zee β L p0 (fun p0=>k (V.sc (.bool p0)) [])
 | _,_=>none
def zpV:CF:=⟨12,[.tmp 4,.tmp 5],
 (.seq (.reg [oo 2 (.box true (tq 0)),
   oo 4 (.move (.const (.gs 1 [])) true),
   oo 5 (.move (.const (.sc (.int .i64 0))) false)])
 (.seq (.seq (.reg [oo 6 (.load true 4 (tq 2) false),
   oo 7 (.call 148 [((tq 6),1)] []),
   oo 8 (.un .not (tq 7))])
 (.cond (tq 8)
 (.seq (.reg [oo 4 (.move (.const (.gs 1 [])) true),
   oo 5 (.move (.const (.sc (.int .i64 4))) false)])
 .ret)
 .skip))
 (.seq (.reg [oo 9 (.load true 4 (tq 2) false),
   oo 10 (.move (tq 1) false),
   oo 11 (.call 149 [((tq 9),1),((tq 10),0)] []),
   oo 4 (.move (tq 11) true),
   oo 5 (.move (.const (.sc (.int .i64 0))) false)])
 .ret)))⟩
def znM:Hint:=⟨[(0,0),(0,1),(2,0),(3,3)],[],[none,none,none],[],[],false,false,[]⟩
def zH3:Nat→Sh:=yL []
def zHH (zee:zoO) (xm:zO) (L:Nat):CBC:=(zt 149 (zr7 xm L) (zt 148 (zBx zee L) noC))
def zza {β:Type} (zee:zoO) (xm:zO) (L:Nat) (p0:List V) (p1:Bool) (k_fin:List (List V)→Int→Option β):Option β :=
 chk (0+4≤(List.length p0)) (
 zee β L (List.map V.dem (List.take 4 p0)) (fun v0 =>
 ifb (!v0) (
 k_fin ([]:List (List V)) (4:Int)) (
 chk (0+4≤(List.length p0)) (
 xm β L (List.map V.dem (List.take 4 p0)) p1 (fun v1 =>
 k_fin v1 (0:Int))))))
abbrev zlM:=∀ (β:Type),Nat→List V→Bool→(List (List V)→Int→Option β)→Option β
def zcL (β:Type) (L:Nat) (p0:List V) (p1:Bool) (k_fin:List (List V)→Int→Option β):Option β:=zza zee xm L p0 p1 k_fin
def zyt (zcL:zlM) (L:Nat) (β:Type) (args:List V) (bor:Bor) (k:KK β):Option β:=match args,bor with
 | [a0,a1],[]=>aG a0 fun p0=>aB a1 fun p1=>zcL β L p0 p1 (fun zKX zKY=>k (V.tup [(V.gs 1 zKX),(V.sc (.int .i64 zKY))]) [])
 | _,_=>none
def znH:CF:=⟨78,[.tmp 8],
 (.seq (.reg [oo 4 (.box true (tq 0)),
   oo 8 (.move (.const (.sc (.bool false))) false)])
 (.seq (.seq (.reg [oo 15 (.call 126 [] []),
   oo 16 (.un .not (tq 15))])
 (.cond (tq 16)
 (.seq (.reg [oo 8 (.move (.const (.sc (.bool false))) false)])
 .ret)
 .skip))
 (.seq (.seq (.reg [oo 17 (.load true 4 (tq 4) false),
   oo 18 (.call 127 [((tq 17),1)] []),
   oo 19 (.un .not (tq 18)),
   oo 20 (.move (tq 19) false),
   ⟨(some 21),false,(some (20,false)),.fieldAddr 1 (tq 4)⟩,
   ⟨(some 22),false,(some (20,false)),.load false 1 (tq 21) false⟩,
   ⟨(some 23),false,(some (20,false)),.lenS (tq 22)⟩,
   ⟨(some 24),false,(some (20,false)),.fieldAddr 2 (tq 4)⟩,
   ⟨(some 25),false,(some (20,false)),.load false 1 (tq 24) false⟩,
   ⟨(some 26),false,(some (20,false)),.lenS (tq 25)⟩,
   ⟨(some 27),false,(some (20,false)),.bin .add (tq 23) (tq 26)⟩,
   ⟨(some 28),false,(some (20,false)),.bin .gtr (tq 27) (.const (.sc (.int .i64 8)))⟩,
   oo 29 (.pick (tq 20) (.const (.sc (.bool true))) (tq 28))])
 (.cond (tq 29)
 (.seq (.reg [oo 8 (.move (.const (.sc (.bool true))) false)])
 .ret)
 .skip))
 (.seq (.reg [oo 31 (.load true 4 (tq 4) false),
   oo 32 (.call 129 [((tq 31),1),((.const (.sc (.bool true))),0)] []),
   oo 30 (.move (tq 32) true),
   ⟨(some 33),true,none,.extract (tq 30) 0⟩,
   oo 34 (.pull (tq 30) 1),
   oo 9 (.move (tq 33) true),
   oo 10 (.move (tq 34) false)])
 (.seq (.seq (.reg [oo 35 (.move (tq 10) false),
   oo 36 (.bin .neq (tq 35) (.const (.sc (.int .i64 0))))])
 (.cond (tq 36)
 (.seq (.reg [oo 8 (.move (.const (.sc (.bool true))) false)])
 .ret)
 .skip))
 (.seq (.reg [oo 37 (.move (tq 9) false),
   oo 38 (.move (tq 1) false),
   oo 39 (.conv .i64 (tq 38)),
   oo 40 (.move (tq 9) false),
   oo 41 (.lenS (tq 40)),
   oo 42 (.bin .rem (tq 39) (tq 41)),
   oo 43 (.indexAddrS 1 (tq 37) (tq 42)),
   oo 44 (.load false 1 (tq 43) false),
   oo 45 (.move (tq 2) false),
   oo 46 (.bin .add (tq 44) (tq 45)),
   oo 47 (.indexAddrS 1 (tq 37) (tq 42)),
   oz (.store 1 (tq 47) (tq 46))])
 (.seq (.reg [oo 48 (.move (tq 9) false),
   oo 49 (.move (tq 9) false),
   oo 50 (.lenS (tq 49)),
   oo 51 (.move (tq 3) false),
   oo 52 (.conv .i64 (tq 51)),
   oo 53 (.move (tq 9) false),
   oo 54 (.lenS (tq 53)),
   oo 55 (.bin .add (tq 54) (.const (.sc (.int .i64 1)))),
   oo 56 (.bin .rem (tq 52) (tq 55)),
   oo 57 (.bin .rem (tq 56) (.const (.sc (.int .i64 3)))),
   oo 58 (.bin .sub (tq 50) (tq 57)),
   oo 59 (.sliceS 1 (tq 48) none (some (tq 58)) none),
   oo 9 (.move (tq 59) true)])
 (.seq (.reg [oo 61 (.move (tq 9) false),
   oo 62 (.call 141 [((tq 61),0)] []),
   oo 60 (.move (tq 62) true),
   oo 63 (.pull (tq 60) 0),
   oo 64 (.pull (tq 60) 1),
   oo 11 (.alloc true [(.sc (.int .u32 0)),(.gs 35 []),(.gs 2 []),(.sc (.int .u32 0))]),
   oz (.store 4 (tq 11) (tq 63)),
   oo 12 (.move (tq 64) false)])
 (.seq (.reg [oo 66 (.move (tq 9) false),
   oo 67 (.call 142 [((tq 66),0)] []),
   oo 65 (.move (tq 67) true),
   oo 68 (.pull (tq 65) 0),
   oo 69 (.pull (tq 65) 1),
   oo 13 (.alloc true [(.sc (.int .u32 0)),(.gs 35 []),(.gs 2 []),(.sc (.int .u32 0))]),
   oz (.store 4 (tq 13) (tq 68)),
   oo 14 (.move (tq 69) false)])
 (.seq (.reg [oo 70 (.move (tq 12) false),
   oo 71 (.move (tq 14) false),
   oo 72 (.bin .eql (tq 70) (tq 71)),
   oo 73 (.move (tq 72) false),
   ⟨(some 74),false,(some (73,true)),.load true 4 (tq 11) false⟩,
   ⟨(some 75),false,(some (73,true)),.load true 4 (tq 13) false⟩,
   ⟨(some 76),false,(some (73,true)),.call 143 [((tq 74),1),((tq 75),1)] []⟩,
   oo 77 (.pick (tq 73) (tq 76) (.const (.sc (.bool false)))),
   oo 8 (.move (tq 77) false)])
 .ret))))))))))⟩
def zlD:Hint:=⟨[(0,0),(5,2),(5,3),(5,5),(9,12),(10,2),(10,5),(11,2),(11,5)],[(5,3)],[none,none,none,none,none,none,none],[],[],false,false,[]⟩
def zGv:Nat→Sh:=yL [(22,(.sl 35)),(25,(.sl 2))]
def zGs (zH:zdb) (zac:zka) (zcL:zlM) (L:Nat):CBC:=(zt 129 (zyt zcL L) (zt 127 (zmR zac L) (zt 126 (zfF zH L) noC)))
def zwu {β:Type} (zH:zdb) (zac:zka) (zcL:zlM) (L:Nat) (p0:List V) (p1 p2 p3:Int) (k_fin:Bool→Option β):Option β :=
 zH β L  (fun v0 =>
 ifb (!v0) (
 k_fin false) (
 chk (0+4≤(List.length p0)) (
 zac β L (List.map V.dem (List.take 4 p0)) (fun v1 =>
 ifb (!v1) (
 k_fin true) (
 cLd 35 p0 1 fun v2 =>
 cLd 2 p0 2 fun v3 =>
 lt (IntKind.wrap .i64 ((((List.length v2:Nat):Int):Int)+((List.length v3:Nat):Int))) fun x4 =>
 ifb (decide (x4 > (8:Int))) (
 k_fin true) (
 chk (0+4≤(List.length p0)) (
 zcL β L (List.map V.dem (List.take 4 p0)) true (fun v5 v6 =>
 none))))))))
abbrev zwY:=∀ (β:Type),Nat→List V→Int→Int→Int→(Bool→Option β)→Option β
def zpb (β:Type) (L:Nat) (p0:List V) (p1 p2 p3:Int) (k_fin:Bool→Option β):Option β:=zwu zH zac zcL L p0 p1 p2 p3 k_fin
def zGY (zpb:zwY) (L:Nat) (β:Type) (args:List V) (bor:Bor) (k:KK β):Option β:=match args,bor with
 | [a0,a1,a2,a3],[]=>aG a0 fun p0=>aI .u16 a1 fun p1=>aI .u8 a2 fun p2=>aI .u8 a3 fun p3=>zpb β L p0 p1 p2 p3 (fun p0=>k (V.sc (.bool p0)) [])
 | _,_=>none
def zgX:CF:=⟨70,[.tmp 4],
 (.seq (.reg [oo 2 (.box true (tq 0)),
   oo 4 (.move (.const (.sc (.bool false))) false)])
 (.seq (.seq (.reg [oo 13 (.call 126 [] []),
   oo 14 (.un .not (tq 13))])
 (.cond (tq 14)
 (.seq (.reg [oo 4 (.move (.const (.sc (.bool false))) false)])
 .ret)
 .skip))
 (.seq (.seq (.reg [oo 15 (.load true 4 (tq 2) false),
   oo 16 (.call 127 [((tq 15),1)] []),
   oo 17 (.un .not (tq 16)),
   oo 18 (.move (tq 17) false),
   ⟨(some 19),false,(some (18,false)),.move (tq 1) false⟩,
   ⟨(some 20),false,(some (18,false)),.lenS (tq 19)⟩,
   ⟨(some 21),false,(some (18,false)),.bin .gtr (tq 20) (.const (.sc (.int .i64 3000)))⟩,
   oo 22 (.pick (tq 18) (.const (.sc (.bool true))) (tq 21))])
 (.cond (tq 22)
 (.seq (.reg [oo 4 (.move (.const (.sc (.bool true))) false)])
 .ret)
 .skip))
 (.seq (.seq (.reg [oo 24 (.load true 4 (tq 2) false),
   oo 25 (.call 128 [((tq 24),1),((.const (.sc (.bool true))),0)] []),
   oo 23 (.move (tq 25) true),
   oo 26 (.extract (tq 23) 0),
   oo 27 (.pull (tq 23) 1),
   oo 5 (.move (tq 26) false),
   oo 6 (.move (tq 27) false)])
 (.seq (.reg [oo 28 (.move (tq 6) false),
   oo 29 (.bin .eql (tq 28) (.const (.sc (.int .i64 0))))])
 (.cond (tq 29)
 (.seq (.reg [oo 31 (.move (tq 5) false),
   oo 32 (.call 141 [((tq 31),0)] []),
   oo 30 (.move (tq 32) true),
   oo 33 (.pull (tq 30) 0),
   oo 34 (.pull (tq 30) 1),
   oo 7 (.alloc true [(.sc (.int .u32 0)),(.gs 35 []),(.gs 2 []),(.sc (.int .u32 0))]),
   oz (.store 4 (tq 7) (tq 33)),
   oo 8 (.move (tq 34) false)])
 (.seq (.reg [oo 35 (.move (tq 8) false),
   oo 36 (.bin .neq (tq 35) (.const (.sc (.int .i64 0)))),
   oo 37 (.move (tq 36) false),
   ⟨(some 38),false,(some (37,false)),.load true 4 (tq 2) false⟩,
   ⟨(some 39),false,(some (37,false)),.load true 4 (tq 7) false⟩,
   ⟨(some 40),false,(some (37,false)),.call 143 [((tq 38),1),((tq 39),1)] []⟩,
   ⟨(some 41),false,(some (37,false)),.un .not (tq 40)⟩,
   oo 42 (.pick (tq 37) (.const (.sc (.bool true))) (tq 41))])
 (.cond (tq 42)
 (.seq (.reg [oo 4 (.move (.const (.sc (.bool false))) false)])
 .ret)
 .skip)))
 .skip)))
 (.seq (.reg [oo 44 (.move (tq 1) false),
   oo 45 (.call 141 [((tq 44),0)] []),
   oo 43 (.move (tq 45) true),
   oo 46 (.pull (tq 43) 0),
   oo 47 (.pull (tq 43) 1),
   oo 9 (.alloc true [(.sc (.int .u32 0)),(.gs 35 []),(.gs 2 []),(.sc (.int .u32 0))]),
   oz (.store 4 (tq 9) (tq 46)),
   oo 10 (.move (tq 47) false)])
 (.seq (.seq (.reg [oo 48 (.move (tq 10) false),
   oo 49 (.bin .neq (tq 48) (.const (.sc (.int .i64 0))))])
 (.cond (tq 49)
 (.seq (.reg [oo 50 (.fieldAddr 1 (tq 9)),
   oo 51 (.load false 1 (tq 50) false),
   oo 52 (.lenS (tq 51)),
   oo 53 (.fieldAddr 2 (tq 9)),
   oo 54 (.load false 1 (tq 53) false),
   oo 55 (.lenS (tq 54)),
   oo 56 (.bin .add (tq 52) (tq 55)),
   oo 57 (.bin .eql (tq 56) (.const (.sc (.int .i64 0)))),
   oo 4 (.move (tq 57) false)])
 .ret)
 .skip))
 (.seq (.reg [oo 59 (.load true 4 (tq 9) false),
   oo 60 (.call 128 [((tq 59),1),((.const (.sc (.bool true))),0)] []),
   oo 58 (.move (tq 60) true),
   oo 61 (.extract (tq 58) 0),
   oo 62 (.pull (tq 58) 1),
   oo 11 (.move (tq 61) false),
   oo 12 (.move (tq 62) false)])
 (.seq (.reg [oo 63 (.move (tq 12) false),
   oo 64 (.bin .eql (tq 63) (.const (.sc (.int .i64 0)))),
   oo 65 (.move (tq 64) false),
   ⟨(some 66),false,(some (65,true)),.move (tq 11) false⟩,
   ⟨(some 67),false,(some (65,true)),.move (tq 1) false⟩,
   ⟨(some 68),false,(some (65,true)),.call 130 [((tq 66),0),((tq 67),0)] []⟩,
   oo 69 (.pick (tq 65) (tq 68) (.const (.sc (.bool false)))),
   oo 4 (.move (tq 69) false)])
 .ret))))))))⟩
def znG:Hint:=⟨[(0,0),(5,2),(5,3),(7,2),(7,5),(10,2),(10,5),(13,2),(13,3)],[],[none,none,none,none,none,none,none,none,none,none],[],[],false,false,[]⟩
def zkz:Nat→Sh:=yL [(51,(.sl 35)),(54,(.sl 2))]
def zlr (zH:zdb) (zac:zka) (xF:zfl) (yK:zgu) (xG:zdX) (xd:xt) (L:Nat):CBC:=(zt 130 (zfG xd L) (zt 143 (zfL xG L) (zt 141 (zja yK L) (zt 128 (ziN xF L) (zt 127 (zmR zac L) (zt 126 (zfF zH L) noC))))))
def zlR {β:Type} (zH:zdb) (zac:zka) (xF:zfl) (yK:zgu) (xG:zdX) (xd:xt) (L:Nat) (p0:List V) (p1:List (List V)) (k_fin:Bool→Option β):Option β :=
 zH β L  (fun v0 =>
 ifb (!v0) (
 k_fin false) (
 chk (0+4≤(List.length p0)) (
 zac β L (List.map V.dem (List.take 4 p0)) (fun v1 =>
 ifb (!v1) (
 k_fin true) (
 ifb (decide (((List.length p1:Nat):Int) > (3000:Int))) (
 k_fin true) (
 chk (0+4≤(List.length p0)) (
 xF β L (List.map V.dem (List.take 4 p0)) true (fun v2 v3 =>
 ifb ((v3:Int) == (0:Int)) (
 yK β L v2 (fun v4 v5 =>
 chk ((List.length v4)=4∧0+4≤4) (
 lt (zl [(V.sc (.int .u32 (0:Int))),(V.gs 35 ([]:List (List V))),(V.gs 2 ([]:List (List V))),(V.sc (.int .u32 (0:Int)))] 0 v4) fun r6 =>
 ifb ((v5:Int) != (0:Int)) (
 k_fin false) (
 chk (0+4≤(List.length p0)) (
 chk (0+4≤(List.length r6)) (
 xG β L (List.map V.dem (List.take 4 p0)) (List.map V.dem (List.take 4 r6)) (fun v7 =>
 ifb (!v7) (
 k_fin false) (
 yK β L p1 (fun v8 v9 =>
 chk ((List.length v8)=4∧0+4≤4) (
 lt (zl [(V.sc (.int .u32 (0:Int))),(V.gs 35 ([]:List (List V))),(V.gs 2 ([]:List (List V))),(V.sc (.int .u32 (0:Int)))] 0 v8) fun r10 =>
 ifb ((v9:Int) != (0:Int)) (
 cLd 35 r10 1 fun v11 =>
 cLd 2 r10 2 fun v12 =>
 lt (IntKind.wrap .i64 ((((List.length v11:Nat):Int):Int)+((List.length v12:Nat):Int))) fun x13 =>
 k_fin ((x13:Int) == (0:Int))) (
 chk (0+4≤(List.length r10)) (
 xF β L (List.map V.dem (List.take 4 r10)) true (fun v14 v15 =>
 ifb ((v15:Int) == (0:Int)) (
 xd β L v14 p1 (fun v16 =>
 k_fin v16)) (
 k_fin false)))))))))))))) (
 yK β L p1 (fun v17 v18 =>
 chk ((List.length v17)=4∧0+4≤4) (
 lt (zl [(V.sc (.int .u32 (0:Int))),(V.gs 35 ([]:List (List V))),(V.gs 2 ([]:List (List V))),(V.sc (.int .u32 (0:Int)))] 0 v17) fun r19 =>
 ifb ((v18:Int) != (0:Int)) (
 cLd 35 r19 1 fun v20 =>
 cLd 2 r19 2 fun v21 =>
 lt (IntKind.wrap .i64 ((((List.length v20:Nat):Int):Int)+((List.length v21:Nat):Int))) fun x22 =>
 k_fin ((x22:Int) == (0:Int))) (
 chk (0+4≤(List.length r19)) (
 xF β L (List.map V.dem (List.take 4 r19)) true (fun v23 v24 =>
 ifb ((v24:Int) == (0:Int)) (
 xd β L v23 p1 (fun v25 =>
 k_fin v25)) (
 k_fin false)))))))))))))))
theorem zvZ {β:Type} (zH:zdb) (zac:zka) (xF:zfl) (yK:zgu) (xG:zdX) (xd:xt) (L:Nat) (p0:List V) (p1:List (List V)) (k:KK β):xv zkz (zlr zH zac xF yK xG xd L) L zgX [(V.agg p0),(V.sl 1 p1)] [] k=zlR zH zac xF yK xG xd L p0 p1 (fun p0=>k (V.sc (.bool p0)) []):=by kernel_rfl
abbrev zy2:=∀ (β:Type),Nat→List V→List (List V)→(Bool→Option β)→Option β
def zb7 (β:Type) (L:Nat) (p0:List V) (p1:List (List V)) (k_fin:Bool→Option β):Option β:=zlR zH zac xF yK xG xd L p0 p1 k_fin
def zh6 (zb7:zy2) (L:Nat) (β:Type) (args:List V) (bor:Bor) (k:KK β):Option β:=match args,bor with
 | [a0,a1],[]=>aG a0 fun p0=>aL 1 a1 fun p1=>zb7 β L p0 p1 (fun p0=>k (V.sc (.bool p0)) [])
 | _,_=>none
theorem zv2 (L:Nat) (β:Type) (args:List V) (bor:Bor) (k:KK β) (r:β) (h:zh6 zb7 L β args bor k=some r):xv zkz (zlr zH zac xF yK xG xd L) L zgX args bor k=some r:=by
 unfold zh6 at h
 split at h
 ·have q:=zec h; clear h; obtain ⟨p0,rfl,h⟩:=q
  have q:=xU h; clear h; obtain ⟨p1,rfl,h⟩:=q
  exact (zvZ zH zac xF yK xG xd L p0 p1 k).trans h
 ·cases h
def gls:List (Nat × List V):=[]
def fg:List (Nat × Nat):=[(3,119),(4,120),(5,121),(6,122),(7,123),(8,124),(9,125),(10,126),(11,127),(12,128),(13,129),(14,130),(15,131),(16,132),(17,133),(18,134),(19,135),(20,136),(21,137),(22,138),(23,139),(24,140),(25,141),(26,142),(27,143),(28,144),(29,145),(30,146),(31,147),(32,148),(33,149),(34,150),(35,151),(36,152),(37,153),(38,154),(39,155),(40,156),(41,157),(42,158),(43,159),(44,160),(45,161),(46,162),(47,163),(48,164),(49,165),(50,166),(51,167),(52,168),(53,169),(54,170),(55,171),(56,172),(57,173),(58,174),(59,175),(60,176),(61,177),(62,178),(63,179),(64,180),(65,181),(66,182),(67,183),(68,184),(69,185),(70,186),(71,187),(72,188),(73,189),(74,190),(75,191),(76,192),(77,193),(78,194),(79,195),(80,196),(81,197),(82,198),(83,199),(84,200),(85,201),(86,202),(87,203),(88,204),(89,205),(90,206),(91,207),(92,208),(93,209),(94,210)]
def rows:List Row:=[⟨76,192,znL,zcm⟩,⟨75,191,znJ,zgT⟩,⟨41,157,zkG,zeW⟩,⟨89,205,zkv,zeY⟩,⟨67,183,zlk,ze5⟩,⟨66,182,zj2,zek⟩,⟨42,158,zkb,zeh⟩,⟨21,137,ztu,zmA⟩,⟨68,184,zi4,zdF⟩,⟨31,147,zrt,zaQ⟩,⟨30,146,zuX,zb0⟩,⟨12,128,zrs,zlu⟩,⟨28,144,zq1,zkR⟩,⟨34,150,zth,zdR⟩,⟨72,188,zu0,zn8⟩,⟨35,151,zoU,zhX⟩,⟨15,131,ztm,zdQ⟩,⟨10,126,zpT,zjq⟩,⟨82,198,zpL,zjk⟩,⟨81,197,ziL,za0⟩,⟨54,170,zrw,zkS⟩,⟨53,169,zlG,zfv⟩,⟨91,207,zkc,zbh⟩,⟨79,195,zto,zmz⟩,⟨92,208,zi5,za1⟩,⟨80,196,zrL,zll⟩,⟨83,199,zi6,za2⟩,⟨57,173,zrS,zld⟩,⟨48,164,zpH,zjh⟩,⟨47,163,zo2,zhV⟩,⟨46,162,zlE,zdx⟩,⟨45,161,zrW,zkJ⟩,⟨56,172,zpA,zjm⟩,⟨55,171,zjW,zei⟩,⟨52,168,zo8,zh1⟩,⟨51,167,zoA,zhW⟩,⟨50,166,zmN,zgf⟩,⟨49,165,zrq,zky⟩,⟨23,139,zup,zbF⟩,⟨93,209,znN,zp7⟩,⟨84,200,zrd,zt9⟩,⟨58,174,zjb,zkK⟩,⟨85,201,zp0,ztn⟩,⟨59,175,ziJ,zkL⟩,⟨86,202,zp5,zti⟩,⟨60,176,zi0,zlb⟩,⟨94,210,zrC,zuQ⟩,⟨87,203,ziI,zkr⟩,⟨77,193,znD,zpM⟩,⟨88,204,zpd,zrF⟩,⟨62,178,zif,zkh⟩,⟨61,177,zho,zi1⟩,⟨24,140,zpY,ztw⟩,⟨63,179,zrI,zkH⟩,⟨25,141,zrM,zkk⟩,⟨64,180,zrk,zvh⟩,⟨26,142,znK,zp1⟩,⟨14,130,zpG,zjp⟩,⟨65,181,zmI,zgl⟩,⟨27,143,znC,zan⟩,⟨7,123,zm7,zot⟩,⟨29,145,zpx,zcv⟩,⟨11,127,zva,zbZ⟩,⟨78,194,znI,zp4⟩,⟨43,159,zln,zmV⟩,⟨69,185,zj8,zlI⟩,⟨44,160,zki,zlB⟩,⟨22,138,zoC,zrT⟩,⟨90,206,zkt,zm4⟩,⟨71,187,ziY,zkn⟩,⟨70,186,zrj,zux⟩,⟨33,149,znz,zpW⟩,⟨32,148,zpP,ztq⟩,⟨13,129,znM,zpV⟩,⟨8,124,zlD,znH⟩,⟨9,125,znG,zgX⟩]
theorem zxt:xH Try.prog (yF fg gls) znL 76=some zcm:=by kernel_rfl
theorem zxl:xH Try.prog (yF fg gls) znJ 75=some zgT:=by kernel_rfl
theorem zvg:xH Try.prog (yF fg gls) zkG 41=some zeW:=by kernel_rfl
theorem zuR:xH Try.prog (yF fg gls) zkv 89=some zeY:=by kernel_rfl
theorem zuI:xH Try.prog (yF fg gls) zlk 67=some ze5:=by kernel_rfl
theorem ztY:xH Try.prog (yF fg gls) zj2 66=some zek:=by kernel_rfl
theorem ztE:xH Try.prog (yF fg gls) zkb 42=some zeh:=by kernel_rfl
theorem zCR:xH Try.prog (yF fg gls) ztu 21=some zmA:=by kernel_rfl
theorem zsv:xH Try.prog (yF fg gls) zi4 68=some zdF:=by kernel_rfl
theorem zBU:xH Try.prog (yF fg gls) zrt 31=some zaQ:=by kernel_rfl
theorem zEm:xH Try.prog (yF fg gls) zuX 30=some zb0:=by kernel_rfl
theorem zCB:xH Try.prog (yF fg gls) zrs 12=some zlu:=by kernel_rfl
theorem zBJ:xH Try.prog (yF fg gls) zq1 28=some zkR:=by kernel_rfl
theorem zDf:xH Try.prog (yF fg gls) zth 34=some zdR:=by kernel_rfl
theorem zEL:xH Try.prog (yF fg gls) zu0 72=some zn8:=by kernel_rfl
theorem zyX:xH Try.prog (yF fg gls) zoU 35=some zhX:=by kernel_rfl
theorem zCX:xH Try.prog (yF fg gls) ztm 15=some zdQ:=by kernel_rfl
theorem zAK:xH Try.prog (yF fg gls) zpT 10=some zjq:=by kernel_rfl
theorem zAt:xH Try.prog (yF fg gls) zpL 82=some zjk:=by kernel_rfl
theorem zss:xH Try.prog (yF fg gls) ziL 81=some za0:=by kernel_rfl
theorem zB6:xH Try.prog (yF fg gls) zrw 54=some zkS:=by kernel_rfl
theorem zvJ:xH Try.prog (yF fg gls) zlG 53=some zfv:=by kernel_rfl
theorem ztQ:xH Try.prog (yF fg gls) zkc 91=some zbh:=by kernel_rfl
theorem zDi:xH Try.prog (yF fg gls) zto 79=some zmz:=by kernel_rfl
theorem zse:xH Try.prog (yF fg gls) zi5 92=some za1:=by kernel_rfl
theorem zCa:xH Try.prog (yF fg gls) zrL 80=some zll:=by kernel_rfl
theorem zsz:xH Try.prog (yF fg gls) zi6 83=some za2:=by kernel_rfl
theorem zBI:xH Try.prog (yF fg gls) zrS 57=some zld:=by kernel_rfl
theorem zAD:xH Try.prog (yF fg gls) zpH 48=some zjh:=by kernel_rfl
theorem zzd:xH Try.prog (yF fg gls) zo2 47=some zhV:=by kernel_rfl
theorem zvV:xH Try.prog (yF fg gls) zlE 46=some zdx:=by kernel_rfl
theorem zA5:xH Try.prog (yF fg gls) zrW 45=some zkJ:=by kernel_rfl
theorem zAq:xH Try.prog (yF fg gls) zpA 56=some zjm:=by kernel_rfl
theorem ztG:xH Try.prog (yF fg gls) zjW 55=some zei:=by kernel_rfl
theorem zzi:xH Try.prog (yF fg gls) zo8 52=some zh1:=by kernel_rfl
theorem zy1:xH Try.prog (yF fg gls) zoA 51=some zhW:=by kernel_rfl
theorem zw1:xH Try.prog (yF fg gls) zmN 50=some zgf:=by kernel_rfl
theorem zBf:xH Try.prog (yF fg gls) zrq 49=some zky:=by kernel_rfl
theorem zES:xH Try.prog (yF fg gls) zup 23=some zbF:=by kernel_rfl
theorem zxP:xH Try.prog (yF fg gls) znN 93=some zp7:=by kernel_rfl
theorem zCd:xH Try.prog (yF fg gls) zrd 84=some zt9:=by kernel_rfl
theorem zsO:xH Try.prog (yF fg gls) zjb 58=some zkK:=by kernel_rfl
theorem zAp:xH Try.prog (yF fg gls) zp0 85=some ztn:=by kernel_rfl
theorem ztb:xH Try.prog (yF fg gls) ziJ 59=some zkL:=by kernel_rfl
theorem zAn:xH Try.prog (yF fg gls) zp5 86=some zti:=by kernel_rfl
theorem zsu:xH Try.prog (yF fg gls) zi0 60=some zlb:=by kernel_rfl
theorem zCC:xH Try.prog (yF fg gls) zrC 94=some zuQ:=by kernel_rfl
theorem zsW:xH Try.prog (yF fg gls) ziI 87=some zkr:=by kernel_rfl
theorem zxR:xH Try.prog (yF fg gls) znD 77=some zpM:=by kernel_rfl
theorem zzm:xH Try.prog (yF fg gls) zpd 88=some zrF:=by kernel_rfl
theorem zrK:xH Try.prog (yF fg gls) zif 62=some zkh:=by kernel_rfl
theorem zqM:xH Try.prog (yF fg gls) zho 61=some zi1:=by kernel_rfl
theorem zAz:xH Try.prog (yF fg gls) zpY 24=some ztw:=by kernel_rfl
theorem zA7:xH Try.prog (yF fg gls) zrI 63=some zkH:=by kernel_rfl
theorem zB1:xH Try.prog (yF fg gls) zrM 25=some zkk:=by kernel_rfl
theorem zCb:xH Try.prog (yF fg gls) zrk 64=some zvh:=by kernel_rfl
theorem zxF:xH Try.prog (yF fg gls) znK 26=some zp1:=by kernel_rfl
theorem zAA:xH Try.prog (yF fg gls) zpG 14=some zjp:=by kernel_rfl
theorem zwt:xH Try.prog (yF fg gls) zmI 65=some zgl:=by kernel_rfl
theorem zxs:xH Try.prog (yF fg gls) znC 27=some zan:=by kernel_rfl
theorem zw0:xH Try.prog (yF fg gls) zm7 7=some zot:=by kernel_rfl
theorem zAd:xH Try.prog (yF fg gls) zpx 29=some zcv:=by kernel_rfl
theorem zEM:xH Try.prog (yF fg gls) zva 11=some zbZ:=by kernel_rfl
theorem zxh:xH Try.prog (yF fg gls) znI 78=some zp4:=by kernel_rfl
theorem zuO:xH Try.prog (yF fg gls) zln 43=some zmV:=by kernel_rfl
theorem ztZ:xH Try.prog (yF fg gls) zj8 69=some zlI:=by kernel_rfl
theorem ztV:xH Try.prog (yF fg gls) zki 44=some zlB:=by kernel_rfl
theorem zy5:xH Try.prog (yF fg gls) zoC 22=some zrT:=by kernel_rfl
theorem zvd:xH Try.prog (yF fg gls) zkt 90=some zm4:=by kernel_rfl
theorem zsi:xH Try.prog (yF fg gls) ziY 71=some zkn:=by kernel_rfl
theorem zCv:xH Try.prog (yF fg gls) zrj 70=some zux:=by kernel_rfl
theorem zxJ:xH Try.prog (yF fg gls) znz 33=some zpW:=by kernel_rfl
theorem zAf:xH Try.prog (yF fg gls) zpP 32=some ztq:=by kernel_rfl
theorem zxq:xH Try.prog (yF fg gls) znM 13=some zpV:=by kernel_rfl
theorem zvX:xH Try.prog (yF fg gls) zlD 8=some znH:=by kernel_rfl
theorem zxj:xH Try.prog (yF fg gls) znG 9=some zgX:=by kernel_rfl
theorem zIz:∀ r ∈ rows,(r.f,r.g) ∈ fg∧zf7 Try.prog r.f=true∧xH Try.prog (yF fg gls) r.h r.f=some r.c:=by
 intro r hr
 simp only [rows,List.mem_cons,List.not_mem_nil,or_false] at hr
 rcases hr with rfl | rfl | rfl | rfl | rfl | rfl | rfl | rfl | rfl | rfl | rfl | rfl | rfl | rfl | rfl | rfl | rfl | rfl | rfl | rfl | rfl | rfl | rfl | rfl | rfl | rfl | rfl | rfl | rfl | rfl | rfl | rfl | rfl | rfl | rfl | rfl | rfl | rfl | rfl | rfl | rfl | rfl | rfl | rfl | rfl | rfl | rfl | rfl | rfl | rfl | rfl | rfl | rfl | rfl | rfl | rfl | rfl | rfl | rfl | rfl | rfl | rfl | rfl | rfl | rfl | rfl | rfl | rfl | rfl | rfl | rfl | rfl | rfl | rfl | rfl | rfl
 ·exact ⟨of_decide_eq_true (by kernel_rfl),by kernel_rfl,zxt⟩
 ·exact ⟨of_decide_eq_true (by kernel_rfl),by kernel_rfl,zxl⟩
 ·exact ⟨of_decide_eq_true (by kernel_rfl),by kernel_rfl,zvg⟩
 ·exact ⟨of_decide_eq_true (by kernel_rfl),by kernel_rfl,zuR⟩
 ·exact ⟨of_decide_eq_true (by kernel_rfl),by kernel_rfl,zuI⟩
 ·exact ⟨of_decide_eq_true (by kernel_rfl),by kernel_rfl,ztY⟩
 ·exact ⟨of_decide_eq_true (by kernel_rfl),by kernel_rfl,ztE⟩
 ·exact ⟨of_decide_eq_true (by kernel_rfl),by kernel_rfl,zCR⟩
 ·exact ⟨of_decide_eq_true (by kernel_rfl),by kernel_rfl,zsv⟩
 ·exact ⟨of_decide_eq_true (by kernel_rfl),by kernel_rfl,zBU⟩
 ·exact ⟨of_decide_eq_true (by kernel_rfl),by kernel_rfl,zEm⟩
 ·exact ⟨of_decide_eq_true (by kernel_rfl),by kernel_rfl,zCB⟩
 ·exact ⟨of_decide_eq_true (by kernel_rfl),by kernel_rfl,zBJ⟩
 ·exact ⟨of_decide_eq_true (by kernel_rfl),by kernel_rfl,zDf⟩
 ·exact ⟨of_decide_eq_true (by kernel_rfl),by kernel_rfl,zEL⟩
 ·exact ⟨of_decide_eq_true (by kernel_rfl),by kernel_rfl,zyX⟩
 ·exact ⟨of_decide_eq_true (by kernel_rfl),by kernel_rfl,zCX⟩
 ·exact ⟨of_decide_eq_true (by kernel_rfl),by kernel_rfl,zAK⟩
 ·exact ⟨of_decide_eq_true (by kernel_rfl),by kernel_rfl,zAt⟩
 ·exact ⟨of_decide_eq_true (by kernel_rfl),by kernel_rfl,zss⟩
 ·exact ⟨of_decide_eq_true (by kernel_rfl),by kernel_rfl,zB6⟩
 ·exact ⟨of_decide_eq_true (by kernel_rfl),by kernel_rfl,zvJ⟩
 ·exact ⟨of_decide_eq_true (by kernel_rfl),by kernel_rfl,ztQ⟩
 ·exact ⟨of_decide_eq_true (by kernel_rfl),by kernel_rfl,zDi⟩
 ·exact ⟨of_decide_eq_true (by kernel_rfl),by kernel_rfl,zse⟩
 ·exact ⟨of_decide_eq_true (by kernel_rfl),by kernel_rfl,zCa⟩
 ·exact ⟨of_decide_eq_true (by kernel_rfl),by kernel_rfl,zsz⟩
 ·exact ⟨of_decide_eq_true (by kernel_rfl),by kernel_rfl,zBI⟩
 ·exact ⟨of_decide_eq_true (by kernel_rfl),by kernel_rfl,zAD⟩
 ·exact ⟨of_decide_eq_true (by kernel_rfl),by kernel_rfl,zzd⟩
 ·exact ⟨of_decide_eq_true (by kernel_rfl),by kernel_rfl,zvV⟩
 ·exact ⟨of_decide_eq_true (by kernel_rfl),by kernel_rfl,zA5⟩
 ·exact ⟨of_decide_eq_true (by kernel_rfl),by kernel_rfl,zAq⟩
 ·exact ⟨of_decide_eq_true (by kernel_rfl),by kernel_rfl,ztG⟩
 ·exact ⟨of_decide_eq_true (by kernel_rfl),by kernel_rfl,zzi⟩
 ·exact ⟨of_decide_eq_true (by kernel_rfl),by kernel_rfl,zy1⟩
 ·exact ⟨of_decide_eq_true (by kernel_rfl),by kernel_rfl,zw1⟩
 ·exact ⟨of_decide_eq_true (by kernel_rfl),by kernel_rfl,zBf⟩
 ·exact ⟨of_decide_eq_true (by kernel_rfl),by kernel_rfl,zES⟩
 ·exact ⟨of_decide_eq_true (by kernel_rfl),by kernel_rfl,zxP⟩
 ·exact ⟨of_decide_eq_true (by kernel_rfl),by kernel_rfl,zCd⟩
 ·exact ⟨of_decide_eq_true (by kernel_rfl),by kernel_rfl,zsO⟩
 ·exact ⟨of_decide_eq_true (by kernel_rfl),by kernel_rfl,zAp⟩
 ·exact ⟨of_decide_eq_true (by kernel_rfl),by kernel_rfl,ztb⟩
 ·exact ⟨of_decide_eq_true (by kernel_rfl),by kernel_rfl,zAn⟩
 ·exact ⟨of_decide_eq_true (by kernel_rfl),by kernel_rfl,zsu⟩
 ·exact ⟨of_decide_eq_true (by kernel_rfl),by kernel_rfl,zCC⟩
 ·exact ⟨of_decide_eq_true (by kernel_rfl),by kernel_rfl,zsW⟩
 ·exact ⟨of_decide_eq_true (by kernel_rfl),by kernel_rfl,zxR⟩
 ·exact ⟨of_decide_eq_true (by kernel_rfl),by kernel_rfl,zzm⟩
 ·exact ⟨of_decide_eq_true (by kernel_rfl),by kernel_rfl,zrK⟩
 ·exact ⟨of_decide_eq_true (by kernel_rfl),by kernel_rfl,zqM⟩
 ·exact ⟨of_decide_eq_true (by kernel_rfl),by kernel_rfl,zAz⟩
 ·exact ⟨of_decide_eq_true (by kernel_rfl),by kernel_rfl,zA7⟩
 ·exact ⟨of_decide_eq_true (by kernel_rfl),by kernel_rfl,zB1⟩
 ·exact ⟨of_decide_eq_true (by kernel_rfl),by kernel_rfl,zCb⟩
 ·exact ⟨of_decide_eq_true (by kernel_rfl),by kernel_rfl,zxF⟩
 ·exact ⟨of_decide_eq_true (by kernel_rfl),by kernel_rfl,zAA⟩
 ·exact ⟨of_decide_eq_true (by kernel_rfl),by kernel_rfl,zwt⟩
 ·exact ⟨of_decide_eq_true (by kernel_rfl),by kernel_rfl,zxs⟩
 ·exact ⟨of_decide_eq_true (by kernel_rfl),by kernel_rfl,zw0⟩
 ·exact ⟨of_decide_eq_true (by kernel_rfl),by kernel_rfl,zAd⟩
 ·exact ⟨of_decide_eq_true (by kernel_rfl),by kernel_rfl,zEM⟩
 ·exact ⟨of_decide_eq_true (by kernel_rfl),by kernel_rfl,zxh⟩
 ·exact ⟨of_decide_eq_true (by kernel_rfl),by kernel_rfl,zuO⟩
 ·exact ⟨of_decide_eq_true (by kernel_rfl),by kernel_rfl,ztZ⟩
 ·exact ⟨of_decide_eq_true (by kernel_rfl),by kernel_rfl,ztV⟩
 ·exact ⟨of_decide_eq_true (by kernel_rfl),by kernel_rfl,zy5⟩
 ·exact ⟨of_decide_eq_true (by kernel_rfl),by kernel_rfl,zvd⟩
 ·exact ⟨of_decide_eq_true (by kernel_rfl),by kernel_rfl,zsi⟩
 ·exact ⟨of_decide_eq_true (by kernel_rfl),by kernel_rfl,zCv⟩
 ·exact ⟨of_decide_eq_true (by kernel_rfl),by kernel_rfl,zxJ⟩
 ·exact ⟨of_decide_eq_true (by kernel_rfl),by kernel_rfl,zAf⟩
 ·exact ⟨of_decide_eq_true (by kernel_rfl),by kernel_rfl,zxq⟩
 ·exact ⟨of_decide_eq_true (by kernel_rfl),by kernel_rfl,zvX⟩
 ·exact ⟨of_decide_eq_true (by kernel_rfl),by kernel_rfl,zxj⟩
theorem zJU:Try.prog.follows .mixedOrders=true:=by kernel_rfl
theorem zJS:zHi fg=true:=by kernel_rfl
theorem zJY:zf2 Try.prog (yF fg gls) ztf:=zH5 (by kernel_rfl)
theorem zJM (L d:Nat):zf2 Try.prog (yF fg gls) (evF (yS rows) ztf L d):=zIB zJU zJS zJY zIz L d
theorem zjH (L:Nat):FOk (yS rows) L 192 (zdU yo L) 1:=yO (D:=0) (by kernel_rfl) fun m hm=>⟨zaT,zaU L,xO,zvQ L⟩
theorem zb1 (L:Nat):FOk (yS rows) L 191 (zbd ye L) 1:=yO (D:=0) (by kernel_rfl) fun m hm=>⟨zkN,zkX L,xO,zv3 L⟩
theorem zgJ (L:Nat):FOk (yS rows) L 157 (zct zb L) 2:=yO (D:=1) (by kernel_rfl) fun m hm=>⟨zhb,zhk yo ye L,(yr (yr xO (zjH L m (by omega))) (zb1 L m (by omega))),zsx L⟩
theorem ztB (L:Nat):FOk (yS rows) L 205 (zfp yM L) 2:=yO (D:=1) (by kernel_rfl) fun m hm=>⟨zhx,zhA yo ye L,(yr (yr xO (zjH L m (by omega))) (zb1 L m (by omega))),zsA L⟩
theorem zlJ (L:Nat):FOk (yS rows) L 183 (zdw zc L) 2:=yO (D:=1) (by kernel_rfl) fun m hm=>⟨zhy,zhf yo ye L,(yr (yr xO (zjH L m (by omega))) (zb1 L m (by omega))),zsj L⟩
theorem zkM (L:Nat):FOk (yS rows) L 182 (zc4 yb L) 3:=yO (D:=2) (by kernel_rfl) fun m hm=>⟨zgB,zgD ye yM zb zc L,(yr (yr (yr (yr xO (zb1 L m (by omega))) (ztB L m (by omega))) (zgJ L m (by omega))) (zlJ L m (by omega))),zr5 L⟩
theorem zsQ (L:Nat):FOk (yS rows) L 158 (zeR zM L) 2:=yO (D:=1) (by kernel_rfl) fun m hm=>⟨zgI,zgO ye L,(yr xO (zb1 L m (by omega))),zr3 L⟩
theorem zCk (L:Nat):FOk (yS rows) L 137 (znU xe L) 3:=yO (D:=2) (by kernel_rfl) fun m hm=>⟨zqW,zqm zM zb L,(yr (yr xO (zsQ L m (by omega))) (zgJ L m (by omega))),zAF L⟩
theorem zru (L:Nat):FOk (yS rows) L 184 (zez xb L) 4:=yO (D:=3) (by kernel_rfl) fun m hm=>⟨zf5,zgk yb ye L,(yr (yr xO (zkM L m (by omega))) (zb1 L m (by omega))),zqX L⟩
theorem znp (L:Nat):FOk (yS rows) L 147 (zgp ze L) 5:=yO (D:=4) (by kernel_rfl) fun m hm=>⟨yC,zC zb yb xe zc xb L,(yr (yr (yr (yr (yr xO (zgJ L m (by omega))) (zkM L m (by omega))) (zCk L m (by omega))) (zlJ L m (by omega))) (zru L m (by omega))),zyT L⟩
theorem zqF (L:Nat):FOk (yS rows) L 146 (zkf yn L) 6:=yO (D:=5) (by kernel_rfl) fun m hm=>⟨zR,yQ ze L,(yr xO (znp L m (by omega))),zCz L⟩
theorem ztl (L:Nat):FOk (yS rows) L 128 (ziN xF L) 7:=yO (D:=6) (by kernel_rfl) fun m hm=>⟨zoW,zoV yn ze L,(yr (yr xO (zqF L m (by omega))) (znp L m (by omega))),zyK L⟩
theorem zAy (L:Nat):FOk (yS rows) L 144 (zmF zay L) 7:=yO (D:=6) (by kernel_rfl) fun m hm=>⟨zoZ,zpf yn ze L,(yr (yr xO (zqF L m (by omega))) (znp L m (by omega))),zyy L⟩
theorem zBF (L:Nat):FOk (yS rows) L 150 (zn7 yv L) 1:=yO (D:=0) (by kernel_rfl) fun m hm=>⟨zbT,zbU L,xO,zAM L⟩
theorem zC0 (L:Nat):FOk (yS rows) L 188 (zpC zbz L) 1:=yO (D:=0) (by kernel_rfl) fun m hm=>⟨zsS,zsB L,xO,zBy L⟩
theorem zxw (L:Nat):FOk (yS rows) L 151 (zjn xo L) 2:=yO (D:=1) (by kernel_rfl) fun m hm=>⟨zlU,zl4 zbz L,(yr xO (zC0 L m (by omega))),zwI L⟩
theorem zBW (L:Nat):FOk (yS rows) L 131 (zn3 zaW L) 7:=yO (D:=6) (by kernel_rfl) fun m hm=>⟨zbY,zbV yn yv xo L,(yr (yr (yr xO (zqF L m (by omega))) (zBF L m (by omega))) (zxw L m (by omega))),zAL L⟩
theorem zzj (L:Nat):FOk (yS rows) L 126 (zfF zH L) 8:=yO (D:=7) (by kernel_rfl) fun m hm=>⟨zne,znw xF zay zaW L,(yr (yr (yr xO (ztl L m (by omega))) (zAy L m (by omega))) (zBW L m (by omega))),zxz L⟩
theorem zfK (L:Nat):FOk (yS rows) L 198 (zc7 yc L) 1:=yO (D:=0) (by kernel_rfl) fun m hm=>⟨znv,znm L,xO,zxD L⟩
theorem zq3 (L:Nat):FOk (yS rows) L 197 (zeg yI L) 2:=yO (D:=1) (by kernel_rfl) fun m hm=>⟨xZ,y5 yc L,(yr xO (zfK L m (by omega))),zqr L⟩
theorem ztz (L:Nat):FOk (yS rows) L 170 (ziS xK L) 3:=yO (D:=2) (by kernel_rfl) fun m hm=>⟨zoY,zoS yI L,(yr xO (zq3 L m (by omega))),zyR L⟩
theorem zuy (L:Nat):FOk (yS rows) L 169 (zge xa L) 4:=yO (D:=3) (by kernel_rfl) fun m hm=>⟨ziz,ziy xK L,(yr xO (ztz L m (by omega))),ztA L⟩
theorem zsm (L:Nat):FOk (yS rows) L 207 (zeM xL L) 2:=yO (D:=1) (by kernel_rfl) fun m hm=>⟨zab,zaa yc L,(yr xO (zfK L m (by omega))),zra L⟩
theorem zCs (L:Nat):FOk (yS rows) L 195 (znW zaw L) 3:=yO (D:=2) (by kernel_rfl) fun m hm=>⟨zqt,zqI xL L,(yr xO (zsm L m (by omega))),zAB L⟩
theorem zre (L:Nat):FOk (yS rows) L 208 (zem zJ L) 2:=yO (D:=1) (by kernel_rfl) fun m hm=>⟨zZ,xY yc L,(yr xO (zfK L m (by omega))),zqA L⟩
theorem zAo (L:Nat):FOk (yS rows) L 196 (zmC zal L) 3:=yO (D:=2) (by kernel_rfl) fun m hm=>⟨zoL,zpe zJ L,(yr xO (zre L m (by omega))),zyB L⟩
theorem zrG (L:Nat):FOk (yS rows) L 199 (zel xI L) 2:=yO (D:=1) (by kernel_rfl) fun m hm=>⟨z5,y4 yc L,(yr xO (zfK L m (by omega))),zqa L⟩
theorem zts (L:Nat):FOk (yS rows) L 173 (ziM zL L) 3:=yO (D:=2) (by kernel_rfl) fun m hm=>⟨zo6,zos xI L,(yr xO (zrG L m (by omega))),zyv L⟩
theorem zq8 (L:Nat):FOk (yS rows) L 164 (zhC zG L) 4:=yO (D:=3) (by kernel_rfl) fun m hm=>⟨zny,zns zaw zal xK zL L,(yr (yr (yr (yr xO (zCs L m (by omega))) (zAo L m (by omega))) (ztz L m (by omega))) (zts L m (by omega))),zxy L⟩
theorem zx5 (L:Nat):FOk (yS rows) L 163 (zjr yY L) 5:=yO (D:=4) (by kernel_rfl) fun m hm=>⟨zmf,zlP zG L,(yr xO (zq8 L m (by omega))),zwq L⟩
theorem zur (L:Nat):FOk (yS rows) L 162 (zfZ yP L) 6:=yO (D:=5) (by kernel_rfl) fun m hm=>⟨zio,ziA yY L,(yr xO (zx5 L m (by omega))),zt0 L⟩
theorem zAe (L:Nat):FOk (yS rows) L 161 (zmu zd L) 7:=yO (D:=6) (by kernel_rfl) fun m hm=>⟨zoR,zo4 yP L,(yr xO (zur L m (by omega))),zzq L⟩
theorem zyI (L:Nat):FOk (yS rows) L 172 (zk0 z7 L) 2:=yO (D:=1) (by kernel_rfl) fun m hm=>⟨zm9,zni yc L,(yr xO (zfK L m (by omega))),zx1 L⟩
theorem zsa (L:Nat):FOk (yS rows) L 171 (zeQ ya L) 3:=yO (D:=2) (by kernel_rfl) fun m hm=>⟨zgM,zgz z7 L,(yr xO (zyI L m (by omega))),zrJ L⟩
theorem zrH (L:Nat):FOk (yS rows) L 162 (zex za L) 4:=yO (D:=3) (by kernel_rfl) fun m hm=>⟨zgm,zf6 zL L,(yr xO (zts L m (by omega))),zqG L⟩
theorem zx0 (L:Nat):FOk (yS rows) L 168 (zjd xV L) 5:=yO (D:=4) (by kernel_rfl) fun m hm=>⟨zmb,zl0 zG ye L,(yr (yr xO (zq8 L m (by omega))) (zb1 L m (by omega))),zwS L⟩
theorem zyk (L:Nat):FOk (yS rows) L 167 (zjD zY L) 6:=yO (D:=5) (by kernel_rfl) fun m hm=>⟨zlN,zl6 xV L,(yr xO (zx0 L m (by omega))),zwD L⟩
theorem zvI (L:Nat):FOk (yS rows) L 166 (zgR yR L) 7:=yO (D:=6) (by kernel_rfl) fun m hm=>⟨zjR,zjQ zY L,(yr xO (zyk L m (by omega))),zu9 L⟩
theorem zAw (L:Nat):FOk (yS rows) L 165 (zmq xc L) 8:=yO (D:=7) (by kernel_rfl) fun m hm=>⟨zov,zon yR L,(yr xO (zvI L m (by omega))),zzs L⟩
theorem zCQ (L:Nat):FOk (yS rows) L 139 (zmU zad L) 9:=yO (D:=8) (by kernel_rfl) fun m hm=>⟨xJ,zK xa zd ya za xc L,(yr (yr (yr (yr (yr xO (zuy L m (by omega))) (zAe L m (by omega))) (zsa L m (by omega))) (zrH L m (by omega))) (zAw L m (by omega))),zB5 L⟩
theorem zAG (L:Nat):FOk (yS rows) L 179 (zmB zU L) 1:=yO (D:=0) (by kernel_rfl) fun m hm=>⟨zoI,zop L,xO,zzk L⟩
theorem zAN (L:Nat):FOk (yS rows) L 141 (zja yK L) 10:=yO (D:=9) (by kernel_rfl) fun m hm=>⟨zoG,zo1 zad zU L,(yr (yr xO (zCQ L m (by omega))) (zAG L m (by omega))),zzf L⟩
theorem zme (L:Nat):FOk (yS rows) L 130 (zfG xd L) 1:=yO (D:=0) (by kernel_rfl) fun m hm=>⟨znn,znb L,xO,zyo L⟩
theorem zvG (L:Nat):FOk (yS rows) L 181 (zgQ yd L) 2:=yO (D:=1) (by kernel_rfl) fun m hm=>⟨zjE,zjF xd L,(yr xO (zme L m (by omega))),zuS L⟩
theorem zwC (L:Nat):FOk (yS rows) L 143 (zfL xG L) 3:=yO (D:=2) (by kernel_rfl) fun m hm=>⟨zx,yx xd yd L,(yr (yr xO (zme L m (by omega))) (zvG L m (by omega))),zvH L⟩
theorem zyG (L:Nat):FOk (yS rows) L 145 (zlp xf L) 1:=yO (D:=0) (by kernel_rfl) fun m hm=>⟨za5,za9 L,xO,zyd L⟩
theorem zDk (L:Nat):FOk (yS rows) L 127 (zmR zac L) 2:=yO (D:=1) (by kernel_rfl) fun m hm=>⟨zaj,zai xf L,(yr xO (zyG L m (by omega))),zBL L⟩
theorem zwy (L:Nat):FOk (yS rows) L 125 (zh6 zb7 L) 11:=yO (D:=10) (by kernel_rfl) fun m hm=>⟨zkz,zlr zH zac xF yK xG xd L,(yr (yr (yr (yr (yr (yr xO (zzj L m (by omega))) (zDk L m (by omega))) (ztl L m (by omega))) (zAN L m (by omega))) (zwC L m (by omega))) (zme L m (by omega))),zv2 L⟩
end
section
set_option linter.unusedVariables false
set_option linter.unusedSimpArgs false
set_option maxRecDepth 100000
variable {β:Type}
def Byt (l:List Int):Prop:=∀ x ∈ l,0≤x∧x≤255
theorem zJk {l:List Int} (h:∀ x ∈ l,(Lit.int .u8 x).wf=true):Byt l:=fun x hx=>zAW (h x hx)
def zjx (j:List Int) (i:Nat):Nat:=(j.getD i 0).toNat
theorem zl8 {j:List Int} (hb:Byt j) (i:Nat):zjx j i≤255∧j.getD i 0=((zjx j i:Nat):Int):=by
 have:0≤j.getD i 0∧j.getD i 0≤255:=by
  rw [List.getD_eq_getElem?_getD]
  by_cases hi:i < j.length
  ·rw [List.getElem?_eq_getElem hi]; exact hb _ (List.getElem_mem hi)
  ·rw [List.getElem?_eq_none (by omega)]; simp
 unfold zjx
 omega
def le (j:List Int) (a:Nat):Nat→Nat
 | 0=>0
 | n+1=>le j a n+zjx j (a+n) * 256 ^ n
theorem zs3 {j:List Int} (hb:Byt j) (a:Nat):∀ n,le j a n < 256 ^ n
 | 0=>by simp [le]
 | n+1=>by
  have h1:=zs3 hb a n
  have h2:=Nat.mul_le_mul_right (256 ^ n) (zl8 hb (a+n)).1
  rw [le,Nat.pow_succ]
  omega
theorem zzh (j:List Int) (a:Nat):∀ n,le j a (n+1)=zjx j a+256 * le j (a+1) n
 | 0=>by simp [le]
 | n+1=>by
  rw [le,zzh j a n,le,Nat.pow_succ,show a+1+n=a+(n+1) by omega,Nat.mul_add]
  have:zjx j (a+(n+1)) * (256 ^ n * 256)=256 * (zjx j (a+(n+1)) * 256 ^ n):=by
   rw [Nat.mul_comm (256 ^ n) 256,← Nat.mul_assoc,← Nat.mul_assoc,Nat.mul_comm 256]
  omega
theorem zA3 (i:Nat):256 ^ i=2 ^ (8 * i):=by rw [Nat.pow_mul]
theorem zzM (n x:Nat) (h:x < 2 ^ n):(BitVec.ofInt n (x:Int)).toNat=x:=by
 rw [BitVec.toNat_ofInt,← Int.natCast_emod,Int.toNat_natCast,Nat.mod_eq_of_lt h]
theorem zFm {x n:Nat} (h:x < 2 ^ n):((x:Nat):Int) < 2 ^ n:=by
 have:((x:Nat):Int) < ((2 ^ n:Nat):Int):=by omega
 rwa [Int.natCast_pow] at this
theorem zIG (kd:IntKind) (hk:kd.signed=false) {a m y:Nat} (hy:y < 2 ^ m) (hs:a * 2 ^ m+y < 2 ^ kd.bits):ior kd ((a * 2 ^ m:Nat):Int) ((y:Nat):Int)=((a * 2 ^ m+y:Nat):Int):=by
 unfold ior
 rw [BitVec.toNat_or,zzM _ _ (by omega),zzM _ _ (by omega),← Nat.shiftLeft_eq,← Nat.shiftLeft_add_eq_or_of_lt hy,Nat.shiftLeft_eq]
 exact zrN hk (by omega) (zFm hs)
theorem zFq (k:IntKind) (a b:Int):ior k a b=ior k b a:=by unfold ior; rw [BitVec.or_comm]
theorem zHe (kd:IntKind) (hk:kd.signed=false) {a m:Nat} (hm:m≤kd.bits) (hs:a * 2 ^ m < 2 ^ kd.bits):zs8 kd ((a:Nat):Int) ((m:Nat):Int)=((a * 2 ^ m:Nat):Int):=by
 unfold zs8
 rw [Int.toNat_natCast,Nat.min_eq_left hm]
 have e:((a:Nat):Int) * 2 ^ m=((a * 2 ^ m:Nat):Int):=by rw [Int.natCast_mul,Int.natCast_pow]; rfl
 rw [e]
 exact zrN hk (by omega) (zFm hs)
theorem zpK (kd:IntKind) (hk:kd.signed=false) {j:List Int} (hb:Byt j) (a i:Nat) (hi:8 * i+8≤kd.bits):ior kd ((le j a i:Nat):Int) (zs8 kd (j.getD (a+i) 0) ((8 * i:Nat):Int))=((le j a (i+1):Nat):Int):=by
 obtain ⟨b1,b2⟩:=zl8 hb (a+i)
 have h1:=zs3 hb a i
 have hp:2 ^ (8 * i+8)≤2 ^ kd.bits:=Nat.pow_le_pow_right (by decide) hi
 have hq:2 ^ (8 * i+8)=2 ^ (8 * i) * 256:=by rw [Nat.pow_add]
 have h2:=Nat.mul_le_mul_right (2 ^ (8 * i)) b1
 have h3:0 < 2 ^ (8 * i):=Nat.pow_pos (by decide)
 rw [zA3] at h1
 rw [b2,zHe kd hk (by omega) (by omega),zFq,zIG kd hk h1 (by omega),le,zA3,Nat.add_comm]
theorem zvx {l:List Int} {i:Nat} (h:i < l.length):(xn .u8 l)[i]?=some [.sc (.int .u8 (l.getD i 0))]:=by rw [zHy _ h]; simp [h]
theorem cI8 (n:Int) (k:Int→Option β):cI .u8 [V.sc (.int .u8 n)] 0 k=k n:=zoi rfl k
theorem zqY (L:Nat) (j:List Int) {a w:Nat} (ha:a≤j.length) (hj:j.length≤100000000) (hw:w≤100) (k:Int→Option β):yc β L (xn .u8 j) (a:Int) (w:Int) k=if a+w≤j.length then k 0 else k 1:=by
 unfold yc zo7
 rw [zA (by omega),xM,zA (by omega),zak (by omega) (by omega),yp,zcN]
 by_cases h:a+w≤j.length
 ·rw [if_neg (by omega),if_pos h]
 ·rw [if_pos (by omega),if_neg h]
theorem zBn (L:Nat) {j:List Int} (hb:Byt j) (hj:j.length≤100000000) {a:Nat} (h:a+1≤j.length) (kx:Int→Int→Int→Option β):∀ (n i:Nat),i≤1→1 - i < n →
  zbA yc L kx n (xn .u8 j) (a:Int) 1 ((le j a i:Nat):Int) 1 (i:Int)=kx a 1 ((le j a 1:Nat):Int)
 | 0,i,h1,h2=>by omega
 | n+1,i,h1,h2=>by
  rw [zbA]
  unfold zd5
  by_cases hi:i < 1
  ·have w1:IntKind.wrap .i64 ((a:Int)+i)=((a+i:Nat):Int):=by rw [zak (by omega) (by omega)]; omega
   have w2:IntKind.wrap .i64 ((8:Int) * i)=((8 * i:Nat):Int):=by rw [zak (by omega) (by omega)]; omega
   have hg:=zl8 hb (a+i)
   rw [xN (by omega),w1,yp,zbu (zvx (by omega)),cI8,w2,yp,xl (by omega),yp,zpK .u8 rfl hb a i (by show 8 * i+8≤8; omega),yp,zaI (by omega),yp]
   exact zBn L hb hj h kx n (i+1) (by omega) (by omega)
  ·have hi:i=1:=by omega
   subst hi
   rw [zA (by omega)]
theorem zJ6 {L:Nat} (hL:20≤L) {j:List Int} (hb:Byt j) (hj:j.length≤100000000) {a:Nat} (ha:a≤j.length) (k:Int→Int→Int→Option β):zaw β L (xn .u8 j) (a:Int) k=if a+1≤j.length then k ((le j a 1:Nat):Int) ((a+1:Nat):Int) 0 else k 0 0 1:=by
 unfold zaw zs7 xL ze0 zhO
 rw [show (1:Int)=((1:Nat):Int) from rfl,zqY L j ha hj (by decide)]
 by_cases h:a+1≤j.length
 ·rw [if_pos h,if_pos h,zB,if_pos rfl]
  refine (zBn L hb hj h _ L 0 (by omega) (by omega)).trans ?_
  unfold zdt
  rw [zak (by omega) (by omega),yp]
  congr 1
 ·rw [if_neg h,if_neg h,zB,if_neg (by decide)]; rfl
theorem zzP (L:Nat) {j:List Int} (hb:Byt j) (hj:j.length≤100000000) {a:Nat} (h:a+2≤j.length) (kx:Int→Int→Int→Option β):∀ (n i:Nat),i≤2→2 - i < n →
  zbs yc L kx n (xn .u8 j) (a:Int) 2 ((le j a i:Nat):Int) 2 (i:Int)=kx a 2 ((le j a 2:Nat):Int)
 | 0,i,h1,h2=>by omega
 | n+1,i,h1,h2=>by
  rw [zbs]
  unfold zdG
  by_cases hi:i < 2
  ·have w1:IntKind.wrap .i64 ((a:Int)+i)=((a+i:Nat):Int):=by rw [zak (by omega) (by omega)]; omega
   have w2:IntKind.wrap .i64 ((8:Int) * i)=((8 * i:Nat):Int):=by rw [zak (by omega) (by omega)]; omega
   have hg:=zl8 hb (a+i)
   rw [xN (by omega),w1,yp,zbu (zvx (by omega)),cI8,zBS (by omega) (by omega),yp,w2,yp,xl (by omega),yp,zpK .u16 rfl hb a i (by show 8 * i+8≤16; omega),yp,zaI (by omega),yp]
   exact zzP L hb hj h kx n (i+1) (by omega) (by omega)
  ·have hi:i=2:=by omega
   subst hi
   rw [zA (by omega)]
theorem zI9 {L:Nat} (hL:20≤L) {j:List Int} (hb:Byt j) (hj:j.length≤100000000) {a:Nat} (ha:a≤j.length) (k:Int→Int→Int→Option β):zal β L (xn .u8 j) (a:Int) k=if a+2≤j.length then k ((le j a 2:Nat):Int) ((a+2:Nat):Int) 0 else k 0 0 1:=by
 unfold zal zqO zJ zeq zgA
 rw [show (2:Int)=((2:Nat):Int) from rfl,zqY L j ha hj (by decide)]
 by_cases h:a+2≤j.length
 ·rw [if_pos h,if_pos h,zB,if_pos rfl]
  refine (zzP L hb hj h _ L 0 (by omega) (by omega)).trans ?_
  unfold zde
  rw [zak (by omega) (by omega),yp]
  congr 1
 ·rw [if_neg h,if_neg h,zB,if_neg (by decide)]
theorem zzG (L:Nat) {j:List Int} (hb:Byt j) (hj:j.length≤100000000) {a:Nat} (h:a+4≤j.length) (kx:Int→Int→Int→Option β):∀ (n i:Nat),i≤4→4 - i < n →
  zbq yc L kx n (xn .u8 j) (a:Int) 4 ((le j a i:Nat):Int) 4 (i:Int)=kx a 4 ((le j a 4:Nat):Int)
 | 0,i,h1,h2=>by omega
 | n+1,i,h1,h2=>by
  rw [zbq]
  unfold zdO
  by_cases hi:i < 4
  ·have w1:IntKind.wrap .i64 ((a:Int)+i)=((a+i:Nat):Int):=by rw [zak (by omega) (by omega)]; omega
   have w2:IntKind.wrap .i64 ((8:Int) * i)=((8 * i:Nat):Int):=by rw [zak (by omega) (by omega)]; omega
   have hg:=zl8 hb (a+i)
   rw [xN (by omega),w1,yp,zbu (zvx (by omega)),cI8,zA0 (by omega) (by omega),yp,w2,yp,xl (by omega),yp,zpK .u32 rfl hb a i (by show 8 * i+8≤32; omega),yp,zaI (by omega),yp]
   exact zzG L hb hj h kx n (i+1) (by omega) (by omega)
  ·have hi:i=4:=by omega
   subst hi
   rw [zA (by omega)]
theorem zF2 {L:Nat} (hL:20≤L) {j:List Int} (hb:Byt j) (hj:j.length≤100000000) {a:Nat} (ha:a≤j.length) (k:Int→Int→Int→Option β):xK β L (xn .u8 j) (a:Int) k=if a+4≤j.length then k ((le j a 4:Nat):Int) ((a+4:Nat):Int) 0 else k 0 0 1:=by
 unfold xK zqv yI zeo zgy
 rw [show (4:Int)=((4:Nat):Int) from rfl,zqY L j ha hj (by decide)]
 by_cases h:a+4≤j.length
 ·rw [if_pos h,if_pos h,zB,if_pos rfl]
  refine (zzG L hb hj h _ L 0 (by omega) (by omega)).trans ?_
  unfold zda
  rw [zak (by omega) (by omega),yp]
  congr 1
 ·rw [if_neg h,if_neg h,zB,if_neg (by decide)]
theorem zzA (L:Nat) {j:List Int} (hb:Byt j) (hj:j.length≤100000000) {a:Nat} (h:a+8≤j.length) (kx:Int→Int→Int→Option β):∀ (n i:Nat),i≤8→8 - i < n →
  zbp yc L kx n (xn .u8 j) (a:Int) 8 ((le j a i:Nat):Int) 8 (i:Int)=kx a 8 ((le j a 8:Nat):Int)
 | 0,i,h1,h2=>by omega
 | n+1,i,h1,h2=>by
  rw [zbp]
  unfold zdJ
  by_cases hi:i < 8
  ·have w1:IntKind.wrap .i64 ((a:Int)+i)=((a+i:Nat):Int):=by rw [zak (by omega) (by omega)]; omega
   have w2:IntKind.wrap .i64 ((8:Int) * i)=((8 * i:Nat):Int):=by rw [zak (by omega) (by omega)]; omega
   have hg:=zl8 hb (a+i)
   rw [xN (by omega),w1,yp,zbu (zvx (by omega)),cI8,zbk (by omega) (by omega),yp,w2,yp,xl (by omega),yp,zpK .u64 rfl hb a i (by show 8 * i+8≤64; omega),yp,zaI (by omega),yp]
   exact zzA L hb hj h kx n (i+1) (by omega) (by omega)
  ·have hi:i=8:=by omega
   subst hi
   rw [zA (by omega)]
theorem zFM {L:Nat} (hL:20≤L) {j:List Int} (hb:Byt j) (hj:j.length≤100000000) {a:Nat} (ha:a≤j.length) (k:Int→Int→Int→Option β):zL β L (xn .u8 j) (a:Int) k=if a+8≤j.length then k ((le j a 8:Nat):Int) ((a+8:Nat):Int) 0 else k 0 0 1:=by
 unfold zL zqn xI zeA zgx
 rw [show (8:Int)=((8:Nat):Int) from rfl,zqY L j ha hj (by decide)]
 by_cases h:a+8≤j.length
 ·rw [if_pos h,if_pos h,zB,if_pos rfl]
  refine (zzA L hb hj h _ L 0 (by omega) (by omega)).trans ?_
  unfold zdc
  rw [zak (by omega) (by omega),yp]
  congr 1
 ·rw [if_neg h,if_neg h,zB,if_neg (by decide)]
end
section
set_option linter.unusedVariables false
set_option linter.unusedSimpArgs false
set_option maxRecDepth 100000
variable {β:Type}
def zim {α:Type} (r:Except Int (α × Nat)) (k:α→Nat→Option β) (b:Int→Option β):Option β:=match r with
 | .ok (v,a)=>k v a
 | .error e=>b e
theorem zbS {α:Type} (v:α) (a:Nat) (k:α→Nat→Option β) (b:Int→Option β):zim (.ok (v,a)) k b=k v a:=rfl
theorem zb3 {α:Type} (e:Int) (k:α→Nat→Option β) (b:Int→Option β):zim (.error e) k b=b e:=rfl
def gN (j:List Int) (w a:Nat):Except Int (Nat × Nat):=if a+w≤j.length then .ok (le j a w,a+w) else .error 1
theorem zGr (j:List Int) (w a:Nat) (k:Nat→Nat→Option β) (b:Int→Option β):zim (gN j w a) k b=if a+w≤j.length then k (le j a w) (a+w) else b 1:=by
 unfold gN; split <;> rfl
def zkl (j:List Int) (w lo most a:Nat):Except Int (Nat × Nat):=if a+w≤j.length then (if le j a w < lo then .error 3 else if le j a w > most then .error 4 else .ok (le j a w,a+w)) else .error 1
def zcd (j:List Int) (most a:Nat):Except Int (Nat × Nat):=if a+1≤j.length then
  (if le j a 1 < 253 then (if le j a 1 > most then .error 4 else .ok (le j a 1,a+1))
  else if le j a 1=253 then zkl j 2 253 most (a+1) else if le j a 1=254 then zkl j 4 65536 most (a+1) else zkl j 8 4294967296 most (a+1))
 else .error 1
theorem zwv (j:List Int) (w lo most a:Nat) (k:Nat→Nat→Option β) (b:Int→Option β):zim (zkl j w lo most a) k b=if a+w≤j.length then (if le j a w < lo then b 3 else if le j a w > most then b 4 else k (le j a w) (a+w)) else b 1:=by
 unfold zkl; (repeat' split) <;> rfl
theorem lt1 {j:List Int} (hb:Byt j) (a:Nat):le j a 1 < 256:=zs3 hb a 1
theorem lt2 {j:List Int} (hb:Byt j) (a:Nat):le j a 2 < 65536:=zs3 hb a 2
theorem lt4 {j:List Int} (hb:Byt j) (a:Nat):le j a 4 < 4294967296:=zs3 hb a 4
theorem lt8 {j:List Int} (hb:Byt j) (a:Nat):le j a 8 < 18446744073709551616:=zs3 hb a 8
theorem zDS {L:Nat} (hL:20≤L) {j:List Int} (hb:Byt j) (hj:j.length≤100000000) {a:Nat} (most:Nat) (ha:a≤j.length) (k:Int→Int→Int→Option β):zG β L (xn .u8 j) (a:Int) (most:Int) k=zim (zcd j most a) (fun v a'=>k (v:Int) (a':Int) 0) (fun e=>k 0 0 e):=by
 have h1:=lt1 hb a
 unfold zG zoK
 rw [zJ6 hL hb hj ha]
 unfold zcd
 by_cases h:a+1≤j.length
 ·rw [if_pos h,if_pos h]
  try dsimp only
  rw [zB,if_pos rfl,zbk (by omega) (by omega),yp]
  rcases (by omega:le j a 1 < 253∨le j a 1=253∨le j a 1=254∨le j a 1=255) with hc | hc | hc | hc
  ·rw [zcW (by omega),zcW (by omega),zcW (by omega),zB,if_pos rfl,zA (by omega),zcN,if_pos hc]
   by_cases hm:le j a 1 > most
   ·rw [if_pos (by omega),if_pos hm]; rfl
   ·rw [if_neg (by omega),if_neg hm]; rfl
  ·have h2:=lt2 hb (a+1)
   rw [if_neg (by omega),if_pos hc,zwv,zcY (by omega),zI9 hL hb hj h]
   by_cases h3:a+1+2≤j.length
   ·rw [if_pos h3,if_pos h3]
    try dsimp only
    rw [zbk (by omega) (by omega),yp,zB,if_pos rfl,zcN,zcN]
    by_cases h4:le j (a+1) 2 < 253
    ·rw [if_pos (by omega),if_pos h4]
    ·rw [if_neg (by omega),if_neg h4]
     by_cases h5:le j (a+1) 2 > most
     ·rw [if_pos (by omega),if_pos h5]
     ·rw [if_neg (by omega),if_neg h5]
   ·rw [if_neg h3,if_neg h3]
    try dsimp only
    rw [zbk (by decide) (by decide),yp,zB,if_neg (by decide)]
  ·have h2:=lt4 hb (a+1)
   rw [if_neg (by omega),if_neg (by omega),if_pos hc,zwv,zcW (by omega),zcY (by omega),zF2 hL hb hj h]
   by_cases h3:a+1+4≤j.length
   ·rw [if_pos h3,if_pos h3]
    try dsimp only
    rw [zbk (by omega) (by omega),yp,zB,if_pos rfl,zcN,zcN]
    by_cases h4:le j (a+1) 4 < 65536
    ·rw [if_pos (by omega),if_pos h4]
    ·rw [if_neg (by omega),if_neg h4]
     by_cases h5:le j (a+1) 4 > most
     ·rw [if_pos (by omega),if_pos h5]
     ·rw [if_neg (by omega),if_neg h5]
   ·rw [if_neg h3,if_neg h3]
    try dsimp only
    rw [zbk (by decide) (by decide),yp,zB,if_neg (by decide)]
  ·have h2:=lt8 hb (a+1)
   rw [if_neg (by omega),if_neg (by omega),if_neg (by omega),zwv,zcW (by omega),zcW (by omega),zcY (by omega),zFM hL hb hj h]
   by_cases h3:a+1+8≤j.length
   ·rw [if_pos h3,if_pos h3]
    try dsimp only
    rw [zB,if_pos rfl,zcN,zcN]
    by_cases h4:le j (a+1) 8 < 4294967296
    ·rw [if_pos (by omega),if_pos h4]
    ·rw [if_neg (by omega),if_neg h4]
     by_cases h5:le j (a+1) 8 > most
     ·rw [if_pos (by omega),if_pos h5]
     ·rw [if_neg (by omega),if_neg h5]
   ·rw [if_neg h3,if_neg h3]
    try dsimp only
    rw [zB,if_neg (by decide)]
 ·rw [if_neg h,if_neg h]
  try dsimp only
  rw [zB,if_neg (by decide)]
  rfl
end
section
set_option linter.unusedVariables false
set_option linter.unusedSimpArgs false
def zaD (w:List (List Int)):List (List V):=w.map fun b=>[V.sl 1 (xn .u8 b)]
structure Inp where
 pv:List Int
 seq:Int
 wit:List (List Int)
structure Outp where
 val:Int
 scr:List Int
structure TxT where
 ver:Int
 ins:List Inp
 outs:List Outp
 lock:Int
def zaG (x:Inp):List V:=[V.sc (.int .u8 (x.pv.getD 0 0)),V.sc (.int .u8 (x.pv.getD 1 0)),V.sc (.int .u8 (x.pv.getD 2 0)),V.sc (.int .u8 (x.pv.getD 3 0)),V.sc (.int .u8 (x.pv.getD 4 0)),V.sc (.int .u8 (x.pv.getD 5 0)),V.sc (.int .u8 (x.pv.getD 6 0)),V.sc (.int .u8 (x.pv.getD 7 0)),V.sc (.int .u8 (x.pv.getD 8 0)),V.sc (.int .u8 (x.pv.getD 9 0)),V.sc (.int .u8 (x.pv.getD 10 0)),V.sc (.int .u8 (x.pv.getD 11 0)),V.sc (.int .u8 (x.pv.getD 12 0)),V.sc (.int .u8 (x.pv.getD 13 0)),V.sc (.int .u8 (x.pv.getD 14 0)),V.sc (.int .u8 (x.pv.getD 15 0)),V.sc (.int .u8 (x.pv.getD 16 0)),V.sc (.int .u8 (x.pv.getD 17 0)),V.sc (.int .u8 (x.pv.getD 18 0)),V.sc (.int .u8 (x.pv.getD 19 0)),V.sc (.int .u8 (x.pv.getD 20 0)),V.sc (.int .u8 (x.pv.getD 21 0)),V.sc (.int .u8 (x.pv.getD 22 0)),V.sc (.int .u8 (x.pv.getD 23 0)),V.sc (.int .u8 (x.pv.getD 24 0)),V.sc (.int .u8 (x.pv.getD 25 0)),V.sc (.int .u8 (x.pv.getD 26 0)),V.sc (.int .u8 (x.pv.getD 27 0)),V.sc (.int .u8 (x.pv.getD 28 0)),V.sc (.int .u8 (x.pv.getD 29 0)),V.sc (.int .u8 (x.pv.getD 30 0)),V.sc (.int .u8 (x.pv.getD 31 0)),V.sc (.int .u32 (x.pv.getD 32 0)),V.sc (.int .u32 x.seq),V.sl 1 (zaD x.wit)]
def zbt (o:Outp):List V:=[V.sc (.int .i64 o.val),V.sl 1 (xn .u8 o.scr)]
def zbi (t:TxT):List V:=[V.sc (.int .u32 t.ver),V.sl 35 (t.ins.map zaG),V.sl 2 (t.outs.map zbt),V.sc (.int .u32 t.lock)]
section
variable {β:Type}
theorem zmk (x:Inp) (k:Int→Option β):cI .u32 (zaG x) 33 k=k x.seq:=zoi rfl k
theorem zry (x:Outp) (k:Int→Option β):cI .i64 (zbt x) 0 k=k x.val:=zoi rfl k
theorem zrl (x:TxT) (k:Int→Option β):cI .u32 (zbi x) 0 k=k x.ver:=zoi rfl k
theorem zl2 (x:TxT) (k:Int→Option β):cI .u32 (zbi x) 3 k=k x.lock:=zoi rfl k
end
theorem zjM (x:Inp):(zaG x).length=35:=by simp [zaG]
theorem zj3 (x:Inp):List.take 35 (zaG x)=zaG x:=by simp [zaG]
theorem zCt (x:Outp):(zbt x).length=2:=by simp [zbt]
theorem zpZ (x:Outp):List.take 2 (zbt x)=zbt x:=by simp [zbt]
theorem zcS (x:TxT):(zbi x).length=4:=by simp [zbi]
theorem zHf (x:TxT):[V.sc (.int .u32 x.ver),V.sl 35 (x.ins.map zaG),V.sl 2 (x.outs.map zbt),V.sc (.int .u32 x.lock)]=zbi x:=(by simp [zbi])
def zys (l:List Int):Prop:=∀ n ∈ l,0≤n∧n≤255
structure InpOk (x:Inp):Prop where
 pv:x.pv.length=33
 by_:∀ j,j < 32→0≤x.pv.getD j 0∧x.pv.getD j 0≤255
 ix:0≤x.pv.getD 32 0∧x.pv.getD 32 0≤4294967295
 seq:0≤x.seq∧x.seq≤4294967295
 wit:∀ b ∈ x.wit,zys b∧b.length≤maxLen
 wl:x.wit.length≤maxLen
structure OutpOk (x:Outp):Prop where
 val:-9223372036854775808≤x.val∧x.val≤9223372036854775807
 scr:zys x.scr
 sl:x.scr.length≤maxLen
structure TxOk (t:TxT):Prop where
 ver:0≤t.ver∧t.ver≤4294967295
 lock:0≤t.lock∧t.lock≤4294967295
 ins:∀ x ∈ t.ins,InpOk x
 outs:∀ x ∈ t.outs,OutpOk x
 il:t.ins.length≤maxLen
 ol:t.outs.length≤maxLen
theorem HasRow.tail {ct:CT} {cts:List CT} {vs:List V} (h:HasRow (ct::cts) vs):∃ v r,vs=v::r∧HasC ct v∧HasRow cts r:=by
 cases vs with
 | nil=>have:=h.1; simp at this
 | cons v r=>exact ⟨v,r,rfl,h.2 0 v ct rfl rfl,⟨by simpa using h.1,fun i c ct hc hct=>h.2 (i+1) c ct (by simpa using hc) (by simpa using hct)⟩⟩
theorem HasRow.nil {vs:List V} (h:HasRow [] vs):vs=[]:=List.length_eq_zero_iff.1 (by simpa using h.1)
theorem zBk:∀ {es:List (List V)},(∀ e ∈ es,HasRow [.sl [.int .u8]] e)→∃ w:List (List Int),es=zaD w∧∀ b ∈ w,zys b∧b.length≤maxLen
 | [],_=>⟨[],rfl,by simp⟩
 | e::es,h=>by
  obtain ⟨v,r,rfl,h1,h2⟩:=(h e (by simp)).tail
  obtain rfl:=h2.nil
  obtain ⟨xs,rfl,hl,hx⟩:=h1.sl_inv
  obtain ⟨l,rfl,hw⟩:=zvs hx
  obtain ⟨w,rfl,hw'⟩:=zBk (es:=es) (fun x hx=>h x (by simp [hx]))
  refine ⟨l::w,rfl,fun b hb=>?_⟩
  rcases List.mem_cons.1 hb with rfl | hb
  ·exact ⟨fun n hn=>zAW (hw n hn),by simpa [xn] using hl⟩
  ·exact hw' b hb
theorem zDB:∀ {es:List (List V)},(∀ e ∈ es,HasRow [.int .i64,.sl [.int .u8]] e)→∃ w:List Outp,es=w.map zbt∧∀ b ∈ w,OutpOk b
 | [],_=>⟨[],rfl,by simp⟩
 | e::es,h=>by
  obtain ⟨v,r,rfl,h1,h2⟩:=(h e (by simp)).tail
  obtain ⟨v2,r2,rfl,h3,h4⟩:=h2.tail
  obtain rfl:=h4.nil
  obtain ⟨n,rfl,hn⟩:=h1.int_inv
  obtain ⟨xs,rfl,hl,hx⟩:=h3.sl_inv
  obtain ⟨l,rfl,hw⟩:=zvs hx
  obtain ⟨w,rfl,hw'⟩:=zDB (es:=es) (fun x hx=>h x (by simp [hx]))
  refine ⟨⟨n,l⟩::w,rfl,fun b hb=>?_⟩
  rcases List.mem_cons.1 hb with rfl | hb
  ·exact ⟨zJL hn,fun n hn=>zAW (hw n hn),by simpa [xn] using hl⟩
  ·exact hw' b hb
theorem zGo {a b:List CT} {vs:List V} (h:HasRow (a++b) vs):∃ r s,vs=r++s∧HasRow a r∧HasRow b s:=by
 refine ⟨vs.take a.length,vs.drop a.length,(List.take_append_drop _ _).symm,⟨?_,fun i c ct hc hct=>?_⟩,⟨?_,fun i c ct hc hct=>?_⟩⟩
 ·have:=h.1; simp at this ⊢; omega
 ·have hi:i < a.length:=(List.getElem?_eq_some_iff.1 hct).1
  refine h.2 i c ct ?_ (by rw [List.getElem?_append_left hi]; exact hct)
  rw [List.getElem?_take,if_pos hi] at hc; exact hc
 ·have:=h.1; simp at this ⊢; omega
 ·refine h.2 (a.length+i) c ct (by rw [List.getElem?_drop] at hc; exact hc) ?_
  rw [List.getElem?_append_right (by omega)]; simpa using hct
theorem zC3 {l:List Int} (hl:l.length=32) (i s:Int) (w:List (List Int)):row .u8 l++[V.sc (.int .u32 i),V.sc (.int .u32 s),V.sl 1 (zaD w)]=zaG ⟨l++[i],s,w⟩:=by
 match l,hl with
 | [x0,x1,x2,x3,x4,x5,x6,x7,x8,x9,x10,x11,x12,x13,x14,x15,x16,x17,x18,x19,x20,x21,x22,x23,x24,x25,x26,x27,x28,x29,x30,x31],_=>rfl
theorem zFD:∀ {es:List (List V)},(∀ e ∈ es,HasRow (List.replicate 32 (.int .u8)++[.int .u32,.int .u32,.sl [.sl [.int .u8]]]) e)→∃ w:List Inp,es=w.map zaG∧∀ b ∈ w,InpOk b
 | [],_=>⟨[],rfl,by simp⟩
 | e::es,h=>by
  obtain ⟨r,s,rfl,h1,h2⟩:=zGo (h e (by simp))
  obtain ⟨l,rfl,hl,hw⟩:=zFh h1
  obtain ⟨v1,r1,rfl,g1,h2⟩:=h2.tail
  obtain ⟨v2,r2,rfl,g2,h2⟩:=h2.tail
  obtain ⟨v3,r3,rfl,g3,h2⟩:=h2.tail
  obtain rfl:=h2.nil
  obtain ⟨i,rfl,hi⟩:=g1.int_inv
  obtain ⟨q,rfl,hq⟩:=g2.int_inv
  obtain ⟨xs,rfl,hxl,hx⟩:=g3.sl_inv
  obtain ⟨wt,rfl,hwt⟩:=zBk hx
  obtain ⟨w,rfl,hw'⟩:=zFD (es:=es) (fun x hx=>h x (by simp [hx]))
  refine ⟨⟨l++[i],q,wt⟩::w,by rw [List.map_cons,← zC3 hl]; rfl,fun b hb=>?_⟩
  rcases List.mem_cons.1 hb with rfl | hb
  ·refine ⟨by simp [hl],fun j hj=>?_,?_,zxn hq,hwt,by simpa [zaD] using hxl⟩
   ·have:(l++[i]).getD j 0=l[j]'(by omega):=by
     rw [List.getD_eq_getElem?_getD,List.getElem?_append_left (by omega),List.getElem?_eq_getElem (by omega)]; rfl
    show 0≤(l++[i]).getD j 0∧(l++[i]).getD j 0≤255
    rw [this]; exact zAW (hw _ (List.getElem_mem _))
   ·have:(l++[i]).getD 32 0=i:=by
     rw [List.getD_eq_getElem?_getD,List.getElem?_append_right (by omega),hl]; rfl
    show 0≤(l++[i]).getD 32 0∧(l++[i]).getD 32 0≤4294967295
    rw [this]; exact zxn hi
  ·exact hw' b hb
theorem zJV {a:List V} (h:HasRow ([.int .u32]++[.sl (List.replicate 32 (.int .u8)++List.replicate 2 (.int .u32)++[.sl ([.sl ([.int .u8])])])]++[.sl ([.int .i64]++[.sl ([.int .u8])])]++[.int .u32]) a):∃ t,a=zbi t∧TxOk t:=by
 obtain ⟨v1,r1,rfl,g1,h⟩:=h.tail
 obtain ⟨v2,r2,rfl,g2,h⟩:=h.tail
 obtain ⟨v3,r3,rfl,g3,h⟩:=h.tail
 obtain ⟨v4,r4,rfl,g4,h⟩:=h.tail
 obtain rfl:=h.nil
 obtain ⟨n,rfl,hn⟩:=g1.int_inv
 obtain ⟨m,rfl,hm⟩:=g4.int_inv
 obtain ⟨xs,rfl,hxl,hx⟩:=g2.sl_inv
 obtain ⟨ys,rfl,hyl,hy⟩:=g3.sl_inv
 obtain ⟨is,rfl,his⟩:=zFD (fun e he=>by
  have:=hx e he
  rw [List.append_assoc] at this
  exact this)
 obtain ⟨os,rfl,hos⟩:=zDB (fun e he=>hy e he)
 exact ⟨⟨n,is,os,m⟩,rfl,⟨zxn hn,zxn hm,his,hos,by simpa using hxl,by simpa using hyl⟩⟩
end
section
set_option linter.unusedVariables false
set_option linter.unusedSimpArgs false
set_option maxRecDepth 100000
variable {β:Type}
theorem zzg {j:List Int} {w lo most a n a1:Nat} (h:zkl j w lo most a=.ok (n,a1)):a1≤j.length∧n≤most:=by
 unfold zkl at h
 split at h
 ·split at h
  ·cases h
  ·split at h
   ·cases h
   ·cases h; omega
 ·cases h
theorem zyP {j:List Int} {w lo most a:Nat} {e:Int} (h:zkl j w lo most a=.error e):e≠0:=by
 unfold zkl at h
 split at h
 ·split at h
  ·cases h; decide
  ·split at h
   ·cases h; decide
   ·cases h
 ·cases h; decide
theorem zcK {j:List Int} {most a n a1:Nat} (h:zcd j most a=.ok (n,a1)):a1≤j.length∧n≤most:=by
 unfold zcd at h
 split at h
 ·split at h
  ·split at h
   ·cases h
   ·cases h; omega
  ·split at h
   ·exact zzg h
   ·split at h
    ·exact zzg h
    ·exact zzg h
 ·cases h
theorem zgb {j:List Int} {most a:Nat} {e:Int} (h:zcd j most a=.error e):e≠0:=by
 unfold zcd at h
 split at h
 ·split at h
  ·split at h
   ·cases h; decide
   ·cases h
  ·split at h
   ·exact zyP h
   ·split at h
    ·exact zyP h
    ·exact zyP h
 ·cases h; decide
theorem zk9 {j:List Int} {w a n a1:Nat} (h:gN j w a=.ok (n,a1)):a1≤j.length:=by
 unfold gN at h
 split at h
 ·cases h; assumption
 ·cases h
theorem zmr {j:List Int} {w a:Nat} {e:Int} (h:gN j w a=.error e):e≠0:=by
 unfold gN at h
 split at h
 ·cases h
 ·cases h; decide
def zjB (j:List Int) (a:Nat):Except Int (List Int × Nat):=if a+32≤j.length then .ok ((j.drop a).take 32,a+32) else .error 1
def zc8 (j:List Int) (most a:Nat):Except Int (List Int × Nat):=match zcd j most a with
 | .error e=>.error e
 | .ok (n,a1)=>if a1+n≤j.length then .ok ((j.drop a1).take n,a1+n) else .error 1
theorem zsY {j h:List Int} {a a1:Nat} (hh:zjB j a=.ok (h,a1)):a1≤j.length∧h.length=32:=by
 unfold zjB at hh
 split at hh
 ·cases hh; rw [List.length_take,List.length_drop]; omega
 ·cases hh
theorem zwF {j:List Int} {a:Nat} {e:Int} (h:zjB j a=.error e):e≠0:=by
 unfold zjB at h
 split at h
 ·cases h
 ·cases h; decide
theorem zjU {j h:List Int} {most a a1:Nat} (hh:zc8 j most a=.ok (h,a1)):a1≤j.length∧h.length≤most:=by
 unfold zc8 at hh
 split at hh
 ·cases hh
 ·rename_i n a2 hz
  have:=zcK hz
  split at hh
  ·cases hh; rw [List.length_take,List.length_drop]; omega
  ·cases hh
theorem zmS {j:List Int} {most a:Nat} {e:Int} (h:zc8 j most a=.error e):e≠0:=by
 unfold zc8 at h
 split at h
 ·rename_i e' hz; cases h; exact zgb hz
 ·split at h
  ·cases h
  ·cases h; decide
theorem zFY (L:Nat) {x:List Int} (hx:x.length≤100000000) (k:List (List V)→Option β):ye β L (xn .u8 x) ([]:List (List V)) k=k (xn .u8 x):=by
 unfold ye zhY
 have hs:(100000000:Nat)≤zk:=by decide
 rw [xM,zak (by simp <;> omega) (by simp <;> omega),yp,xl (by simp; omega),xl (by simp [xM]; omega),yp,xl (by simp [xM]; omega),yp]
 simp
theorem zGF {L:Nat} (hL:20≤L) {j:List Int} (hb:Byt j) (hj:j.length≤100000000) {a:Nat} (most:Nat) (hm:most≤1000000) (ha:a≤j.length) (k:List (List V)→Int→Int→Option β):xV β L (xn .u8 j) (a:Int) (most:Int) k=zim (zc8 j most a) (fun v a'=>k (xn .u8 v) (a':Int) 0) (fun e=>k [] 0 e):=by
 unfold xV znl
 rw [zA (by omega),zbk (by omega) (by omega),yp,zDS hL hb hj most ha]
 unfold zc8
 cases hz:zcd j most a with
 | error e=>rw [zb3,zB,if_neg (zgb hz)]; rfl
 | ok p =>
  obtain ⟨n,a1⟩:=p
  obtain ⟨h1,h2⟩:=zcK hz
  rw [zbS,zB,if_pos rfl,xM,zak (by omega) (by omega),yp,zbk (by omega) (by omega),yp,zcN]
  by_cases h:a1+n≤j.length
  ·have e1:Int.toNat ((a1:Int)+(n:Int))=a1+n:=by omega
   have e2:((a1:Int)+(n:Int))=((a1+n:Nat):Int):=by omega
   rw [if_neg (by omega),zak (by omega) (by omega),yp,zak (by omega) (by omega),yp,xl (by omega),xl (by omega),e1,Int.toNat_natCast,show a1+n - a1=n by omega,zz8,zuJ,zFY L (by rw [List.length_take,List.length_drop]; omega),e2]
   simp only [if_pos h,zbS]
  ·rw [if_pos (by omega)]
   simp only [if_neg h,zb3]
def zfM:List V:=List.replicate 32 (V.sc (.int .u8 (0:Int)))
theorem zGa (k:IntKind) (l:List Int):(xn k l).flatten=row k l:=by
 induction l with
 | nil=>rfl
 | cons x l ih=>simp only [xn,row,List.map_cons,List.flatten_cons] at ih ⊢; rw [ih]; rfl
theorem zvy {w:List Int} (hw:w.length=32):zl (List.replicate 32 (V.sc (.int .u8 (0:Int)))) 0 (row .u8 w)=row .u8 w:=zhe (by rw [zfS,hw,List.length_replicate])
theorem zCh {w:List Int} (hw:w.length=32):List.take 32 (row .u8 w)=row .u8 w:=List.take_of_length_le (by rw [zfS]; omega)
theorem zHn {j:List Int} {a:Nat} (h:a+32≤j.length):zl (List.replicate 32 (V.sc (.int .u8 (0:Int)))) 0 (List.flatten (List.take (min (List.length (List.take ((List.length (xn .u8 j)) - (Int.toNat (a:Int))) (List.drop (Int.toNat (a:Int)) (xn .u8 j)))) 32) (List.take ((List.length (xn .u8 j)) - (Int.toNat (a:Int))) (List.drop (Int.toNat (a:Int)) (xn .u8 j)))))=row .u8 ((j.drop a).take 32):=by
 rw [Int.toNat_natCast,zz8,xM,zuJ,xM,List.take_of_length_le (l:=j.drop a) (by rw [List.length_drop]; omega),List.length_drop,Nat.min_eq_right (by omega),zuJ,zGa]
 exact zvy (by rw [List.length_take,List.length_drop]; omega)
theorem zwK (k:Option β):chk (0=0∧(List.length zfM)=32∧32≠0) k=k:=xl (by simp [zfM]) k
theorem zIT {L:Nat} (hL:20≤L) {j:List Int} (hj:j.length≤100000000) {a:Nat} (ha:a≤j.length) (k:List V→Int→Int→Option β):z7 β L (xn .u8 j) (a:Int) k=zim (zjB j a) (fun v a'=>k (row .u8 v) (a':Int) 0) (fun e=>k zfM 0 e):=by
 unfold z7 zoT
 refine (zqY L j ha hj (w:=32) (by decide) _).trans ?_
 unfold zjB
 by_cases h:a+32≤j.length
 ·have hl:((j.drop a).take 32).length=32:=by rw [List.length_take,List.length_drop]; omega
  rw [if_pos h,if_pos h,zB,if_pos rfl,xl (by rw [xM]; omega),zHn h,yp,xl (by rw [zfS]; omega),zak (by omega) (by omega),yp,zCh hl,xl (by rw [zfS]; omega),zvy hl,yp,xl (by rw [zfS]; omega)]
  rfl
 ·rw [if_neg h,if_neg h,zB,if_neg (by decide),yp]
  exact zwK _
end
section
set_option linter.unusedVariables false
set_option linter.unusedSimpArgs false
set_option linter.unusedSectionVars false
set_option maxRecDepth 100000
variable {β:Type}
section
variable (L:Nat) (J:List (List V)) {e:Int} (he:e≠0) (at_:Int)
include he
theorem zrf (k:Int→List (List V)→Int→Int→Option β):xa β L J at_ e k=k 0 J at_ e:=by
 unfold xa zf9; rw [zB,if_neg he]
theorem zI5 (k:Int→List (List V)→Int→Int→Option β):za β L J at_ e k=k 0 J at_ e:=by
 unfold za zev; rw [zB,if_neg he]
theorem zBD (m:Int) (k:Int→List (List V)→Int→Int→Option β):zd β L m J at_ e k=k 0 J at_ e:=by
 unfold zd zmD yP zgh; rw [zB,if_neg he]; rfl
theorem zw7 (m:Int) (k1 k2:List (List V)→List (List V)→Int→Int→Option β):xc β L m J at_ e k1 k2=k1 [] J at_ e:=by
 unfold xc zml yR zg0; rw [zB,if_neg he]
theorem zJw (k:List V→List (List V)→Int→Int→Option β):ya β L J at_ e k=k zfM J at_ e:=by
 unfold ya ze3; rw [zB,if_neg he,yp]; exact zwK _
end
section
variable {L:Nat} (hL:20≤L) {j:List Int} (hb:Byt j) (hj:j.length≤100000000) {a:Nat} (ha:a≤j.length)
include hL hb hj ha
theorem zAV (k:Int→List (List V)→Int→Int→Option β):xa β L (xn .u8 j) a 0 k=zim (gN j 4 a) (fun v a'=>k v (xn .u8 j) a' 0) (fun e=>k 0 (xn .u8 j) a e):=by
 unfold xa zf9
 rw [zB,if_pos rfl,zF2 hL hb hj ha,zGr]
 by_cases h:a+4≤j.length
 ·rw [if_pos h,if_pos h,zB,if_pos rfl]
 ·rw [if_neg h,if_neg h,zB,if_neg (by decide)]
theorem zJO (k:Int→List (List V)→Int→Int→Option β):za β L (xn .u8 j) a 0 k=zim (gN j 8 a) (fun v a'=>k v (xn .u8 j) a' 0) (fun e=>k 0 (xn .u8 j) a e):=by
 unfold za zev
 rw [zB,if_pos rfl,zFM hL hb hj ha,zGr]
 by_cases h:a+8≤j.length
 ·rw [if_pos h,if_pos h,zB,if_pos rfl]
 ·rw [if_neg h,if_neg h,zB,if_neg (by decide)]
theorem zHX (m:Nat) (hm:m≤1000000) (k:Int→List (List V)→Int→Int→Option β):zd β L (m:Int) (xn .u8 j) a 0 k=zim (zcd j m a) (fun v a'=>k v (xn .u8 j) a' 0) (fun e=>k 0 (xn .u8 j) a e):=by
 unfold zd zmD yP zgh yY znu
 rw [zB,if_pos rfl,zDS hL hb hj m ha]
 cases hz:zcd j m a with
 | error e=>rw [zb3]; dsimp only; rw [zB,if_neg (zgb hz)]; rfl
 | ok p =>
  obtain ⟨n,a1⟩:=p
  have:=zcK hz
  rw [zbS]; dsimp only; rw [zB,if_pos rfl,zak (by omega) (by omega),yp]
  rfl
theorem zJZ (m:Nat) (hm:m≤1000000) (k1 k2:List (List V)→List (List V)→Int→Int→Option β):xc β L (m:Int) (xn .u8 j) a 0 k1 k2=zim (zc8 j m a) (fun v a'=>k2 (xn .u8 v) (xn .u8 j) a' 0) (fun e=>k1 [] (xn .u8 j) a e):=by
 unfold xc zml yR zg0 zY znr
 rw [zB,if_pos rfl,zGF hL hb hj m hm ha]
 cases hz:zc8 j m a with
 | error e=>rw [zb3]; dsimp only; rw [zB,if_neg (zmS hz)]; rfl
 | ok p=>rw [zbS]; dsimp only; rw [zB,if_pos rfl]; rfl
theorem zJ2 (k:List V→List (List V)→Int→Int→Option β):ya β L (xn .u8 j) a 0 k=zim (zjB j a) (fun v a'=>k (row .u8 v) (xn .u8 j) a' 0) (fun e=>k zfM (xn .u8 j) a e):=by
 unfold ya ze3
 rw [zB,if_pos rfl,zIT hL hj ha]
 have z1:zl (List.replicate 32 (V.sc (.int .u8 (0:Int)))) 0 zfM=zfM:=zhe (by simp [zfM])
 cases hz:zjB j a with
 | error e =>
  rw [zb3,xl (by simp [zfM]),z1,yp,zB,if_neg (zwF hz),yp]
  exact zwK _
 | ok p =>
  obtain ⟨h,a1⟩:=p
  have hl:=(zsY hz).2
  rw [zbS,xl (by rw [zfS]; omega),zvy hl,yp,zB,if_pos rfl,xl (by rw [zfS]; omega),zCh hl,xl (by rw [zfS]; omega),zvy hl,yp,xl (by rw [zfS]; omega)]
  rfl
end
def gIn (j:List Int) (a:Nat):Except Int (Inp × Nat):=match zjB j a with
 | .error e=>.error e
 | .ok (h,a1)=>match gN j 4 a1 with
  | .error e=>.error e
  | .ok (ix,a2)=>match gN j 4 a2 with
   | .error e=>.error e
   | .ok (sq,a3)=>.ok (⟨h++[(ix:Int)],sq,[]⟩,a3)
def zfP (j:List Int):Nat→Nat→Except Int (List Inp × Nat)
 | 0,a=>.ok ([],a)
 | n+1,a=>match gIn j a with
  | .error e=>.error e
  | .ok (x,a1)=>match zfP j n a1 with
   | .error e=>.error e
   | .ok (xs,a2)=>.ok (x::xs,a2)
def zlf (j:List Int) (a:Nat):Except Int (Outp × Nat):=match gN j 8 a with
 | .error e=>.error e
 | .ok (v,a1)=>if v ≥ 9223372036854775808 then .error 90 else match zc8 j 520 a1 with
  | .error e=>.error e
  | .ok (s,a2)=>.ok (⟨v,s⟩,a2)
def zch (j:List Int):Nat→Nat→Except Int (List Outp × Nat)
 | 0,a=>.ok ([],a)
 | n+1,a=>match zlf j a with
  | .error e=>.error e
  | .ok (x,a1)=>match zch j n a1 with
   | .error e=>.error e
   | .ok (xs,a2)=>.ok (x::xs,a2)
def zfh (j:List Int):Nat→Nat→Except Int (List (List Int) × Nat)
 | 0,a=>.ok ([],a)
 | n+1,a=>match zc8 j 520 a with
  | .error e=>.error e
  | .ok (x,a1)=>match zfh j n a1 with
   | .error e=>.error e
   | .ok (xs,a2)=>.ok (x::xs,a2)
def zcB (j:List Int):List Inp→Nat→Except Int (List Inp × Nat)
 | [],a=>.ok ([],a)
 | x::xs,a=>match zcd j 32 a with
  | .error e=>.error e
  | .ok (n,a1)=>match zfh j n a1 with
   | .error e=>.error e
   | .ok (w,a2)=>match zcB j xs a2 with
    | .error e=>.error e
    | .ok (ys,a3)=>.ok ({ x with wit:=w }::ys,a3)
def gTx (j:List Int) (a:Nat):Except Int (TxT × Nat):=match gN j 4 a with
 | .error e=>.error e
 | .ok (ver,a1)=>match zcd j 64 a1 with
  | .error e=>.error e
  | .ok (n,a2)=>match zfP j n a2 with
   | .error e=>.error e
   | .ok (xs,a3)=>match zcd j 64 a3 with
    | .error e=>.error e
    | .ok (m,a4)=>match zch j m a4 with
     | .error e=>.error e
     | .ok (os,a5)=>match gN j 4 a5 with
      | .error e=>.error e
      | .ok (lk,a6)=>match zcB j xs a6 with
       | .error e=>.error e
       | .ok (ys,a7)=>if a7 - a > 20000 then .error 4 else .ok (⟨ver,ys,os,lk⟩,a7)
end
section
set_option linter.unusedVariables false
set_option linter.unusedSimpArgs false
set_option linter.unusedSectionVars false
set_option maxRecDepth 100000
variable {β:Type}
def zcy (h:List V) (ix sq:Int) (c:V):List V:=h++[V.sc (.int .u32 ix),V.sc (.int .u32 sq),c]
def zgs:V:=V.gs 1 ([]:List (List V))
theorem zf0 {h:List V} (hl:h.length=32) (ix sq:Int) (c:V):(zcy h ix sq c).length=35:=by simp [zcy,hl]
theorem zz2 {h:List V} (hl:h.length=32) (ix sq:Int) (c:V):List.take 35 (zcy h ix sq c)=zcy h ix sq c:=List.take_of_length_le (by rw [zf0 hl]; exact Nat.le_refl _)
theorem zJc {h:List V} (hl:h.length=32):zl (List.replicate 32 (V.sc (.int .u8 (0:Int)))++[(V.sc (.int .u32 (0:Int))),(V.sc (.int .u32 (0:Int))),(V.gs 1 ([]:List (List V)))]) 0 h=zcy h 0 0 zgs:=by
 unfold zl zcy
 rw [hl,List.drop_append,List.length_replicate]
 simp [zgs]
theorem zJy {h:List V} (hl:h.length=32) (ix sq x:Int) (c:V):zl (zcy h ix sq c) 32 [(V.sc (.int .u32 x))]=zcy h x sq c:=by
 rw [zpX (by rw [zf0 hl]; omega)]
 unfold zcy
 rw [List.set_append_right _ _ (by omega),hl]
 rfl
theorem zJd {h:List V} (hl:h.length=32) (ix sq x:Int) (c:V):zl (zcy h ix sq c) 33 [(V.sc (.int .u32 x))]=zcy h ix x c:=by
 rw [zpX (by rw [zf0 hl]; omega)]
 unfold zcy
 rw [List.set_append_right _ _ (by omega),hl]
 rfl
theorem zHk {h:List V} (hl:h.length=32) (ix sq:Int) (c:V):zl (List.replicate 32 (V.sc (.int .u8 (0:Int)))++[(V.sc (.int .u32 (0:Int))),(V.sc (.int .u32 (0:Int))),(V.sl 1 ([]:List (List V)))]) 0 (zcy h ix sq c)=zcy h ix sq c:=zhe (by rw [zf0 hl]; rfl)
theorem zEN {h:List V} (hl:h.length=32) (ix sq:Int) (c:V):xi 35 1 (zcy h ix sq c)=[zcy h ix sq c]:=by
 unfold xi; rw [zz2 hl]; rfl
def zb2 (x:Inp):List V:=zcy (row .u8 (x.pv.take 32)) (x.pv.getD 32 0) x.seq (V.gs 1 (zaD x.wit))
theorem zH7 {h:List Int} (hl:h.length=32) (ix sq:Int):zb2 ⟨h++[ix],sq,[]⟩=zcy (row .u8 h) ix sq zgs:=by
 unfold zb2
 rw [List.take_left' hl]
 simp [List.getD_eq_getElem?_getD,List.getElem?_append_right,hl,zaD,zgs]
section
variable {L:Nat} (p1 zKH:Int) (zKI zKJ:List (List V)) (zKK zKL:Int) (zKN:List (List V)) (zKM:Int)
theorem zCe {n i:Nat} (hi:i < n) (hn:n≤64) (R J:List (List V)) (hR:R.length≤64) (at_ f:Int) (kh:zeu β) (kx:zgv β) :
  zb4 xa zd ya za xc L p1 (n:Int) (i:Int) zKH zKI zKJ zKK zKL R zKN zKM J at_ f kh kx =
  ya β L J at_ f (fun v8 v9 v10 v11=>chk ((List.length v8)=32∧0+32≤35) (xa β L v9 v10 v11 (fun v13 v14 v15 v16=>xa β L v14 v15 v16 (fun v18 v19 v20 v21 =>
   kh p1 (n:Int) ((i+1:Nat):Int) zKH zKI zKJ zKK zKL (R++[zcy v8 v13 v18 zgs]) zKN zKM v19 v20 v21)))):=by
 have hs:(100000000:Nat)≤zk:=by decide
 unfold zb4
 rw [xN (by omega)]
 congr 1
 funext v8 v9 v10 v11
 by_cases h:(List.length v8)=32∧0+32≤35
 ·have hl:=h.1
  rw [xl h,xl h,yp,zJc hl]
  congr 1
  funext v13 v14 v15 v16
  rw [xl (by rw [zf0 hl]; omega),zJy hl,yp]
  congr 1
  funext v18 v19 v20 v21
  rw [xl (by rw [zf0 hl]; omega),zJd hl,yp,zz2 hl,zHk hl,zEN hl,xl (by rw [zf0 hl]; omega),xl (by rw [zf0 hl]; omega),xl (by simp only [List.length_cons,List.length_nil]; omega),yp,zaI (by omega),yp]
 ·rw [zfO,zfO,if_neg h,if_neg h]
theorem zDE {n i:Nat} (hi:¬ i < n) (R J:List (List V)) (at_ f:Int) (kh:zeu β) (kx:zgv β) :
  zb4 xa zd ya za xc L p1 (n:Int) (i:Int) zKH zKI zKJ zKK zKL R zKN zKM J at_ f kh kx=kx p1 zKH zKI zKJ zKK zKL R zKN zKM J at_ f:=by
 unfold zb4
 rw [zA (by omega)]
theorem zxA:(List.length zfM)=32∧0+32≤35:=by simp [zfM]
theorem zy4 {n:Nat} (hn:n≤64) (J:List (List V)) (at_:Int) {e:Int} (he:e≠0) (kx:zgv β):∀ (m i:Nat) (R:List (List V)),R.length=i→i≤n→n - i < m →
  ∃ R':List (List V),R'.length=n∧yV xa zd ya za xc L kx m p1 (n:Int) (i:Int) zKH zKI zKJ zKK zKL R zKN zKM J at_ e=kx p1 zKH zKI zKJ zKK zKL R' zKN zKM J at_ e
 | 0,i,R,h1,h2,h3=>by omega
 | m+1,i,R,h1,h2,h3=>by
  by_cases hi:i < n
  ·obtain ⟨R',e1,e2⟩:=zy4 hn J at_ he kx m (i+1) (R++[zcy zfM 0 0 zgs]) (by simp [h1]) (by omega) (by omega)
   refine ⟨R',e1,?_⟩
   rw [yV,zCe (hi:=hi) (hn:=hn) (hR:=by omega),zJw L J he,xl zxA,zrf L J he,zrf L J he]
   exact e2
  ·refine ⟨R,by omega,?_⟩
   rw [yV,zDE (hi:=hi)]
end
end
section
set_option linter.unusedVariables false
set_option linter.unusedSimpArgs false
set_option linter.unusedSectionVars false
set_option maxRecDepth 100000
variable {β:Type}
section
variable {L:Nat} (hL:20≤L) {j:List Int} (hb:Byt j) (hj:j.length≤100000000) {a:Nat} (ha:a≤j.length)
include hL hb hj ha
theorem zJz (k:Int→List (List V)→Int→Int→Option β):zd β L (64:Int) (xn .u8 j) a 0 k=zim (zcd j 64 a) (fun v a'=>k v (xn .u8 j) a' 0) (fun e=>k 0 (xn .u8 j) a e):=zHX hL hb hj ha 64 (by decide) k
theorem zJ9 (k:Int→List (List V)→Int→Int→Option β):zd β L (32:Int) (xn .u8 j) a 0 k=zim (zcd j 32 a) (fun v a'=>k v (xn .u8 j) a' 0) (fun e=>k 0 (xn .u8 j) a e):=zHX hL hb hj ha 32 (by decide) k
theorem zHO (k1 k2:List (List V)→List (List V)→Int→Int→Option β):xc β L (520:Int) (xn .u8 j) a 0 k1 k2=zim (zc8 j 520 a) (fun v a'=>k2 (xn .u8 v) (xn .u8 j) a' 0) (fun e=>k1 [] (xn .u8 j) a e):=zJZ hL hb hj ha 520 (by decide) k1 k2
end
section
variable {L:Nat} (hL:20≤L) {j:List Int} (hb:Byt j) (hj:j.length≤100000000)
variable (p1 zKH:Int) (zKI zKJ:List (List V)) (zKK zKL:Int) (zKN:List (List V)) (zKM:Int)
include hL hb hj
theorem zFK {n:Nat} (hn:n≤64) (kx:zgv β):∀ (m i a:Nat) (xs:List Inp),xs.length=i→i≤n→n - i < m→a≤j.length →
  (∃ ys a',zfP j (n - i) a=.ok (ys,a')∧yV xa zd ya za xc L kx m p1 (n:Int) (i:Int) zKH zKI zKJ zKK zKL (xs.map zb2) zKN zKM (xn .u8 j) (a:Int) 0=kx p1 zKH zKI zKJ zKK zKL ((xs++ys).map zb2) zKN zKM (xn .u8 j) (a':Int) 0) ∨
  (∃ e R at_,zfP j (n - i) a=.error e∧e≠0∧R.length=n∧yV xa zd ya za xc L kx m p1 (n:Int) (i:Int) zKH zKI zKJ zKK zKL (xs.map zb2) zKN zKM (xn .u8 j) (a:Int) 0=kx p1 zKH zKI zKJ zKK zKL R zKN zKM (xn .u8 j) at_ e)
 | 0,i,a,xs,h1,h2,h3,ha=>by omega
 | m+1,i,a,xs,h1,h2,h3,ha=>by
  by_cases hi:i < n
  ·have hn1:n - i=(n - (i+1))+1:=by omega
   rw [hn1,yV,zCe (hi:=hi) (hn:=hn) (hR:=by rw [List.length_map]; omega),zJ2 hL hb hj ha]
   have bad:∀ (e:Int) (he:e≠0) (at_:Int) (r:List V),∃ R':List (List V),R'.length=n∧yV xa zd ya za xc L kx m p1 (n:Int) ((i+1:Nat):Int) zKH zKI zKJ zKK zKL (xs.map zb2++[r]) zKN zKM (xn .u8 j) at_ e=kx p1 zKH zKI zKJ zKK zKL R' zKN zKM (xn .u8 j) at_ e:=fun e he at_ r =>
    zy4 p1 zKH zKI zKJ zKK zKL zKN zKM hn (xn .u8 j) at_ he kx m (i+1) _ (by simp [h1]) (by omega) (by omega)
   cases e1:zjB j a with
   | error e =>
    have he:=zwF e1
    obtain ⟨R',q1,q2⟩:=bad e he (a:Int) (zcy zfM 0 0 zgs)
    refine .inr ⟨e,R',(a:Int),by simp only [zfP,gIn,e1],he,q1,?_⟩
    rw [zb3,xl zxA,zrf L _ he,zrf L _ he]
    exact q2
   | ok p =>
    obtain ⟨h,a1⟩:=p
    obtain ⟨k1,k2⟩:=zsY e1
    rw [zbS,xl (by rw [zfS]; omega),zAV hL hb hj k1]
    cases e2:gN j 4 a1 with
    | error e =>
     have he:=zmr e2
     obtain ⟨R',q1,q2⟩:=bad e he (a1:Int) (zcy (row .u8 h) 0 0 zgs)
     refine .inr ⟨e,R',(a1:Int),by simp only [zfP,gIn,e1,e2],he,q1,?_⟩
     rw [zb3,zrf L _ he]
     exact q2
    | ok p =>
     obtain ⟨ix,a2⟩:=p
     have k3:=zk9 e2
     rw [zbS,zAV hL hb hj k3]
     cases e3:gN j 4 a2 with
     | error e =>
      have he:=zmr e3
      obtain ⟨R',q1,q2⟩:=bad e he (a2:Int) (zcy (row .u8 h) ix 0 zgs)
      refine .inr ⟨e,R',(a2:Int),by simp only [zfP,gIn,e1,e2,e3],he,q1,?_⟩
      rw [zb3]
      exact q2
     | ok p =>
      obtain ⟨sq,a3⟩:=p
      have k4:=zk9 e3
      have hrow:xs.map zb2++[zcy (row .u8 h) (ix:Int) (sq:Int) zgs]=(xs++[(⟨h++[(ix:Int)],sq,[]⟩:Inp)]).map zb2:=by rw [List.map_append,List.map_cons,List.map_nil,zH7 k2]
      rw [zbS,hrow]
      rcases zFK hn kx m (i+1) a3 (xs++[(⟨h++[(ix:Int)],sq,[]⟩:Inp)]) (by simp [h1]) (by omega) (by omega) k4 with ⟨ys,a',q1,q2⟩ | ⟨e,R,at_,q1,q2,q3,q4⟩
      ·refine .inl ⟨(⟨h++[(ix:Int)],sq,[]⟩:Inp)::ys,a',by simp only [zfP,gIn,e1,e2,e3,q1],?_⟩
       rw [q2,List.append_assoc]
       rfl
      ·exact .inr ⟨e,R,at_,by simp only [zfP,gIn,e1,e2,e3,q1],q2,q3,q4⟩
  ·have hn0:n - i=0:=by omega
   refine .inl ⟨[],a,by rw [hn0]; rfl,?_⟩
   rw [yV,zDE (hi:=hi),List.append_nil]
end
section
variable {L:Nat} (p1 zKH:Int) (zKI zKJ:List (List V)) (zKK zKL:Int) (zKT:List (List V)) (zKM:Int)
theorem zzX {n i:Nat} (hi:i < n) (hn:n≤64) (O J:List (List V)) (hO:O.length≤64) (at_ f:Int) (kh:zdE β) (kx:zgt β) :
  zbR xa zd ya za xc L p1 (n:Int) (i:Int) zKH zKI zKJ zKK zKL zKT O zKM J at_ f kh kx =
  za β L J at_ f (fun v29 v30 v31 v32=>xc β L (520:Int) v30 v31 (if v29 ≥ (9223372036854775808:Int) then 90 else v32)
   (fun v34 v35 v36 v37=>kh p1 (n:Int) ((i+1:Nat):Int) zKH zKI zKJ zKK zKL zKT (O++[[(V.sc (.int .i64 (IntKind.wrap .i64 v29))),(V.sl 1 v34)]]) zKM v35 v36 v37)
   (fun v34 v35 v36 v37=>kh p1 (n:Int) ((i+1:Nat):Int) zKH zKI zKJ zKK zKL zKT (O++[[(V.sc (.int .i64 (IntKind.wrap .i64 v29))),(V.sl 1 v34)]]) zKM v35 v36 v37)):=by
 have hs:(100000000:Nat)≤zk:=by decide
 have hc:∀ (x y:V),xi 2 1 [x,y]=[[x,y]]:=fun x y=>rfl
 unfold zbR
 rw [xN (by omega)]
 congr 1
 funext v29 v30 v31 v32
 rw [zcN]
 by_cases h:v29 ≥ (9223372036854775808:Int)
 ·rw [if_pos h,if_pos h,yp]
  congr 1
  ·funext v34 v35 v36 v37
   rw [hc,xl (by simp only [List.length_cons,List.length_nil]; omega),yp,zaI (by omega),yp]
  ·funext v34 v35 v36 v37
   rw [hc,xl (by simp only [List.length_cons,List.length_nil]; omega),yp,zaI (by omega),yp]
 ·rw [if_neg h,if_neg h,yp]
  congr 1
  ·funext v34 v35 v36 v37
   rw [hc,xl (by simp only [List.length_cons,List.length_nil]; omega),yp,zaI (by omega),yp]
  ·funext v34 v35 v36 v37
   rw [hc,xl (by simp only [List.length_cons,List.length_nil]; omega),yp,zaI (by omega),yp]
theorem zB7 {n i:Nat} (hi:¬ i < n) (O J:List (List V)) (at_ f:Int) (kh:zdE β) (kx:zgt β) :
  zbR xa zd ya za xc L p1 (n:Int) (i:Int) zKH zKI zKJ zKK zKL zKT O zKM J at_ f kh kx=kx p1 zKH zKI zKJ zKK zKL zKT O zKM J at_ f:=by
 unfold zbR
 rw [zA (by omega)]
theorem zs2 {n:Nat} (hn:n≤64) (J:List (List V)) (at_:Int) {e:Int} (he:e≠0) (kx:zgt β):∀ (m i:Nat) (O:List (List V)),O.length=i→i≤n→n - i < m →
  ∃ O':List (List V),yX xa zd ya za xc L kx m p1 (n:Int) (i:Int) zKH zKI zKJ zKK zKL zKT O zKM J at_ e=kx p1 zKH zKI zKJ zKK zKL zKT O' zKM J at_ e
 | 0,i,O,h1,h2,h3=>by omega
 | m+1,i,O,h1,h2,h3=>by
  by_cases hi:i < n
  ·obtain ⟨O',e2⟩:=zs2 hn J at_ he kx m (i+1) (O++[[(V.sc (.int .i64 (IntKind.wrap .i64 0))),(V.sl 1 [])]]) (by simp [h1]) (by omega) (by omega)
   refine ⟨O',?_⟩
   rw [yX,zzX (hi:=hi) (hn:=hn) (hO:=by omega),zI5 L J he,if_neg (by decide),zw7 L J he]
   exact e2
  ·refine ⟨O,?_⟩
   rw [yX,zB7 (hi:=hi)]
end
section
variable {L:Nat} (hL:20≤L) {j:List Int} (hb:Byt j) (hj:j.length≤100000000)
variable (p1 zKH:Int) (zKI zKJ:List (List V)) (zKK zKL:Int) (zKT:List (List V)) (zKM:Int)
include hL hb hj
theorem zDR {n:Nat} (hn:n≤64) (kx:zgt β):∀ (m i a:Nat) (xs:List Outp),xs.length=i→i≤n→n - i < m→a≤j.length →
  (∃ ys a',zch j (n - i) a=.ok (ys,a')∧yX xa zd ya za xc L kx m p1 (n:Int) (i:Int) zKH zKI zKJ zKK zKL zKT (xs.map zbt) zKM (xn .u8 j) (a:Int) 0=kx p1 zKH zKI zKJ zKK zKL zKT ((xs++ys).map zbt) zKM (xn .u8 j) (a':Int) 0) ∨
  (∃ e O at_,zch j (n - i) a=.error e∧e≠0∧yX xa zd ya za xc L kx m p1 (n:Int) (i:Int) zKH zKI zKJ zKK zKL zKT (xs.map zbt) zKM (xn .u8 j) (a:Int) 0=kx p1 zKH zKI zKJ zKK zKL zKT O zKM (xn .u8 j) at_ e)
 | 0,i,a,xs,h1,h2,h3,ha=>by omega
 | m+1,i,a,xs,h1,h2,h3,ha=>by
  by_cases hi:i < n
  ·have hn1:n - i=(n - (i+1))+1:=by omega
   rw [hn1,yX,zzX (hi:=hi) (hn:=hn) (hO:=by rw [List.length_map]; omega),zJO hL hb hj ha]
   have bad:∀ (e:Int) (he:e≠0) (at_:Int) (r:List V),∃ O':List (List V),yX xa zd ya za xc L kx m p1 (n:Int) ((i+1:Nat):Int) zKH zKI zKJ zKK zKL zKT (xs.map zbt++[r]) zKM (xn .u8 j) at_ e=kx p1 zKH zKI zKJ zKK zKL zKT O' zKM (xn .u8 j) at_ e:=fun e he at_ r =>
    zs2 p1 zKH zKI zKJ zKK zKL zKT zKM hn (xn .u8 j) at_ he kx m (i+1) _ (by simp [h1]) (by omega) (by omega)
   cases e1:gN j 8 a with
   | error e =>
    have he:=zmr e1
    obtain ⟨O',q2⟩:=bad e he (a:Int) [(V.sc (.int .i64 (IntKind.wrap .i64 0))),(V.sl 1 [])]
    refine .inr ⟨e,O',(a:Int),by simp only [zch,zlf,e1],he,?_⟩
    rw [zb3,if_neg (by decide),zw7 L _ he]
    exact q2
   | ok p =>
    obtain ⟨v,a1⟩:=p
    have k1:=zk9 e1
    rw [zbS]
    by_cases hv:v ≥ 9223372036854775808
    ·obtain ⟨O',q2⟩:=bad 90 (by decide) (a1:Int) [(V.sc (.int .i64 (IntKind.wrap .i64 v))),(V.sl 1 [])]
     refine .inr ⟨90,O',(a1:Int),by simp only [zch,zlf,e1,if_pos hv],by decide,?_⟩
     rw [if_pos (by omega),zw7 L _ (by decide)]
     exact q2
    ·rw [if_neg (by omega),zak (by omega) (by omega),zHO hL hb hj k1]
     cases e2:zc8 j 520 a1 with
     | error e =>
      have he:=zmS e2
      obtain ⟨O',q2⟩:=bad e he (a1:Int) [(V.sc (.int .i64 v)),(V.sl 1 [])]
      refine .inr ⟨e,O',(a1:Int),by simp only [zch,zlf,e1,if_neg hv,e2],he,?_⟩
      rw [zb3]
      exact q2
     | ok p =>
      obtain ⟨sc,a2⟩:=p
      have k2:=(zjU e2).1
      have hrow:xs.map zbt++[[(V.sc (.int .i64 (v:Int))),(V.sl 1 (xn .u8 sc))]]=(xs++[(⟨v,sc⟩:Outp)]).map zbt:=by rw [List.map_append,List.map_cons,List.map_nil]; rfl
      rw [zbS,hrow]
      rcases zDR hn kx m (i+1) a2 (xs++[(⟨v,sc⟩:Outp)]) (by simp [h1]) (by omega) (by omega) k2 with ⟨ys,a',q1,q2⟩ | ⟨e,O,at_,q1,q2,q3⟩
      ·refine .inl ⟨(⟨v,sc⟩:Outp)::ys,a',by simp only [zch,zlf,e1,if_neg hv,e2,q1],?_⟩
       rw [q2,List.append_assoc]
       rfl
      ·exact .inr ⟨e,O,at_,by simp only [zch,zlf,e1,if_neg hv,e2,q1],q2,q3⟩
  ·have hn0:n - i=0:=by omega
   refine .inl ⟨[],a,by rw [hn0]; rfl,?_⟩
   rw [yX,zB7 (hi:=hi),List.append_nil]
end
end
section
set_option linter.unusedVariables false
set_option linter.unusedSimpArgs false
set_option linter.unusedSectionVars false
set_option maxRecDepth 100000
variable {β:Type}
section
variable {L:Nat} (p1 zKH:Int) (zKI zKJ:List (List V)) (zKK zK3:Int) (zK2:List (List V)) (zK4:Int)
variable (hL:20≤L) {j:List Int} (hb:Byt j) (hj:j.length≤100000000)
include hL hb hj
end
section
variable {L:Nat} (hL:20≤L) {j:List Int} (hb:Byt j) (hj:j.length≤100000000)
include hL hb hj
end
theorem zIn {j:List Int} {a a':Nat} {o:Outp} (h:zlf j a=.ok (o,a')):a'≤j.length:=by
 unfold zlf at h
 split at h
 ·cases h
 ·split at h
  ·cases h
  ·split at h
   ·cases h
   ·rename_i hz; cases h; exact (zjU hz).1
section
variable {L:Nat} (p1 zKH:Int) (zKI zKJ:List (List V)) (zKK zK3:Int) (zK7:List (List V)) (zK4:Int)
variable (hL:20≤L) {j:List Int} (hb:Byt j) (hj:j.length≤100000000)
include hL hb hj
end
end
end Go.Proofs.Ytoeobffjdbdpgaa
