/- Part 11 of the proof of RelayBegins: an abstract machine over plain values, its soundness, and the functions of the program on plain values. -/
import Derived.ProofKit
import Derived.OpenShut
import Derived.ChangeOld
import Derived.Deep.Slices
import Derived.SizedLaws
import Derived.Test.YtpbbfpfmdckclaaMRelayBegins10
namespace Go.Proofs.Ytpbbfpfmdckclaa
section
set_option maxRecDepth 100000
set_option linter.unusedVariables false
set_option linter.unusedSimpArgs false
def zbC:CC:=(.seq (.seq (.reg [oo 38 (.move (tq 15) false),
   oo 39 (.bin .lss (tq 38) (.const (.sc (.int .i64 2)))),
   oo 40 (.move (tq 39) false),
   ⟨(some 41),false,(some (40,true)),.move (tq 14) false⟩,
   ⟨(some 42),false,(some (40,true)),.lenS (tq 41)⟩,
   ⟨(some 43),false,(some (40,true)),.bin .gtr (tq 42) (.const (.sc (.int .i64 0)))⟩,
   oo 44 (.pick (tq 40) (tq 43) (.const (.sc (.bool false))))])
 (.cond (tq 44)
 .skip
 (.seq (.mask (bl 4160 76) (bl 56225531254130637291519 76))
 (.exit 0))))
 (.seq (.block 1 (.seq (.reg [oo 16 (.move (.const (.sc (.int .u64 0))) false)])
 (.seq (.seq (.reg [oo 47 (.move (tq 15) false),
   oo 48 (.move (tq 5) false),
   oo 49 (.lenS (tq 48)),
   oo 50 (.bin .lss (tq 47) (tq 49))])
 (.cond (tq 50)
 (.reg [oo 51 (.move (tq 5) false),
   oo 52 (.move (tq 15) false),
   oo 53 (.indexAddrS 1 (tq 51) (tq 52)),
   oo 54 (.load false 1 (tq 53) false),
   oo 16 (.move (tq 54) false)])
 .skip))
 (.seq (.reg [oo 55 (.move (tq 16) false),
   oo 56 (.move (tq 14) false),
   oo 57 (.lenS (tq 56)),
   oo 58 (.conv .u64 (tq 57)),
   oo 59 (.bin .rem (tq 55) (tq 58)),
   oo 60 (.conv .i64 (tq 59)),
   oo 17 (.move (tq 60) false)])
 (.seq (.dreg [] [(oo 61 (.fieldAddr 2 (tq 6)),q0),
   (oo 62 (.load false 1 (tq 61) true),ql 6 [] [67]),
   (oo 63 (.move (tq 14) false),q0),
   (oo 64 (.move (tq 17) false),q0),
   (oo 65 (.indexAddrS 1 (tq 63) (tq 64)),q0),
   (oo 66 (.load false 1 (tq 65) false),qc [6] []),
   (oo 67 (.buildSlice 1 1 [(.sc (.int .i64 0))] [(0,1,(tq 66))]),qn [6] []),
   (oo 68 (.append 1 8 (tq 62) (tq 67)),q0),
   (oo 69 (.fieldAddr 2 (tq 6)),q0),
   (oz (.store 1 (tq 69) (tq 68)),q0)])
 (.reg [oo 70 (.move (tq 14) false),
   oo 71 (.move (tq 17) false),
   oo 72 (.move (tq 17) false),
   oo 73 (.bin .add (tq 72) (.const (.sc (.int .i64 1)))),
   ⟨(some 74),true,none,.call 361 [((tq 70),2),((tq 71),2),((tq 73),2)] []⟩,
   oo 14 (.move (tq 74) false)]))))))
 (.reg [oo 45 (.move (tq 15) false),
   oo 46 (.bin .add (tq 45) (.const (.sc (.int .i64 1)))),
   oo 15 (.move (tq 46) false)])))
def zge:CC:=(.seq (.reg [oo 75 (.load true 5 (tq 6) true),
   oz (.store 5 (tq 12) (tq 75)),
   oo 13 (.move (.const (.sc (.int .i64 0))) false)])
 .ret)
def zdr:CF:=⟨76,[.cellS 12 5 true,.tmpP 13],
 (.seq (.reg [oo 6 (.box false (tq 0)),
   oo 12 (.alloc false [(.sc (.int .u32 0)),(.sc (.bool false)),(.gs 1 []),(.gs 35 []),(.gs 32 [])]),
   oo 13 (.move (.const (.sc (.int .i64 0))) false)])
 (.seq (.seq (.reg [oo 18 (.load true 5 (tq 6) false),
   oo 19 (.call 356 [((tq 18),1)] []),
   oo 20 (.un .not (tq 19)),
   oo 21 (.move (tq 20) false),
   ⟨(some 22),false,(some (21,false)),.move (tq 4) false⟩,
   ⟨(some 23),false,(some (21,false)),.call 357 [((tq 22),0)] []⟩,
   ⟨(some 24),false,(some (21,false)),.un .not (tq 23)⟩,
   oo 25 (.pick (tq 21) (.const (.sc (.bool true))) (tq 24))])
 (.cond (tq 25)
 (.seq (.reg [oo 26 (.build [(.sc (.int .u32 0)),(.sc (.bool false)),(.sl 1 []),(.sl 35 []),(.sl 32 [])] []),
   oz (.store 5 (tq 12) (tq 26)),
   oo 13 (.move (.const (.sc (.int .i64 6))) false)])
 .ret)
 .skip))
 (.seq (.reg [oo 27 (.load true 5 (tq 6) false),
   oo 28 (.call 358 [((tq 27),1)] [20,24,32]),
   oz (.store 5 (tq 6) (tq 28))])
 (.seq (.reg [oo 29 (.move (tq 1) false),
   oo 30 (.move (tq 2) false),
   oo 31 (.call 359 [((tq 29),0),((tq 30),0)] []),
   oo 32 (.fieldAddr 0 (tq 6)),
   oz (.store 1 (tq 32) (tq 31))])
 (.seq (.reg [oo 33 (.move (tq 3) false),
   oo 34 (.fieldAddr 1 (tq 6)),
   oz (.store 1 (tq 34) (tq 33))])
 (.seq (.reg [oo 35 (.fieldAddr 2 (tq 6)),
   oz (.store 1 (tq 35) (.const (.gs 1 [])))])
 (.seq (.reg [oo 36 (.move (tq 4) false),
   ⟨(some 37),true,none,.call 360 [((tq 36),0)] []⟩,
   oo 14 (.move (tq 37) false)])
 (.seq (.seq (.reg [oo 15 (.move (.const (.sc (.int .i64 0))) false)])
 (.block 0 (.loop (bl 53344 76) (bl 56225531254130637340671 76)
 zbC)))
 zge))))))))⟩
def zog:Hint:=⟨[(15,1),(16,4),(17,0)],[(7,1),(16,4)],[none,none,none,some ((bl 53344 76),(bl 56225531254130637340671 76)),none,some ((bl 4160 76),(bl 56225531254130637291519 76)),none,none,none],[],[(3,1,[20,24,32])],true,true⟩
def zbm:Nat→Sh:=xZ [(6,(.row [(.int .u32),.bool,(.sl 1),(.sl 35),(.sl 32)])),(54,(.int .u64)),(66,(.int .i64))]
def zbl (ym:xS) (xm:zZ) (zl:yP) (xn:zai) (yg:yG) (zh:yL) (L:Nat):CBC:=(xB 361 (zcN zh L) (xB 360 (zbT yg L) (xB 359 (zhj xn L) (xB 358 (zdn zl L) (xB 357 (zf7 xm L) (xB 356 (zd9 ym L) noC))))))
def zdb:St→St:=yT 0 (bl 53344 76) (bl 56225531254130637340671 76)
def zcf (p5:List (List V)) (p14l:Nat) (p15 zE3:Int) (zE4:Bool) (zFb:List (List V)) (zE8 zEY:Nat) (zEB:Int) (zEC:Bool) (zED zEE zEF:List (List V)) (b20 b24 b32 b37:List V):St:=⟨(jn 5 ((V.sl 1 p5)::((V.ptr 6 0)::(jn 5 ((V.ptr 12 0)::(jn 1 ((V.own 37 0 p14l 1)::((V.sc (.int .i64 p15))::(jn 60 []))))))))),(gn 6 ((.live false [(V.sc (.int .u32 zE3)),(V.sc (.bool zE4)),(V.gs 1 zFb),(V.own 24 0 zE8 35),(V.own 32 0 zEY 32)])::(gn 5 ((.live false [(V.sc (.int .u32 zEB)),(V.sc (.bool zEC)),(V.gs 1 zED),(V.gs 35 zEE),(V.gs 32 zEF)])::(gn 7 ((.live true b20)::(gn 3 ((.live true b24)::(gn 7 ((.live true b32)::(gn 4 ((.live true b37)::(gn 38 [])))))))))))))⟩
def zi0 (zE3:Int) (zE4:Bool) (zFb:List (List V)) (zE8 zEY:Nat) (zEB:Int) (zEC:Bool) (zED zEE zEF:List (List V)) (b20 b24 b32 b37:List V):St:=⟨(jn 6 ((V.ptr 6 0)::(jn 5 ((V.ptr 12 0)::(jn 63 []))))),(gn 6 ((.live false [(V.sc (.int .u32 zE3)),(V.sc (.bool zE4)),(V.gs 1 zFb),(V.own 24 0 zE8 35),(V.own 32 0 zEY 32)])::(gn 5 ((.live false [(V.sc (.int .u32 zEB)),(V.sc (.bool zEC)),(V.gs 1 zED),(V.gs 35 zEE),(V.gs 32 zEF)])::(gn 7 ((.live true b20)::(gn 3 ((.live true b24)::(gn 7 ((.live true b32)::(gn 4 ((.live true b37)::(gn 38 [])))))))))))))⟩
abbrev zh9 (β:Type):Type:=List (List V)→Nat→Int→Int→Bool→List (List V)→Nat→Nat→Int→Bool→List (List V)→List (List V)→List (List V)→List V→List V→List V→List V→Option β
abbrev zkS (β:Type):Type:=Int→Bool→List (List V)→Nat→Nat→Int→Bool→List (List V)→List (List V)→List (List V)→List V→List V→List V→List V→Option β
def zm8 {β:Type} (ym:xS) (xm:zZ) (zl:yP) (xn:zai) (yg:yG) (zh:yL) (L:Nat) (p0:List V) (p1 p2:Int) (p3:Bool) (p4 p5:List (List V)) (k_fin:List V→Int→Option β) (k_hbbbbbbbaba:zh9 β):Option β :=
 chk (List.length p0=5) (
 cI .u32 p0 0 fun v0 =>
 cB p0 1 fun v1 =>
 cL 1 p0 2 fun v2 =>
 cL 35 p0 3 fun v3 =>
 cL 32 p0 4 fun v4 =>
 ym β L [(V.sc (.int .u32 v0)),(V.sc (.bool v1)),(V.sl 1 v2),(V.sl 35 v3),(V.sl 32 v4)] (fun v5 =>
 ifb (!v5) (
 k_fin [(V.sc (.int .u32 (0:Int))),(V.sc (.bool false)),(V.sl 1 ([]:List (List V))),(V.sl 35 ([]:List (List V))),(V.sl 32 ([]:List (List V)))] (6:Int)) (
 xm β L p4 (fun v6 =>
 ifb (!v6) (
 k_fin [(V.sc (.int .u32 (0:Int))),(V.sc (.bool false)),(V.sl 1 ([]:List (List V))),(V.sl 35 ([]:List (List V))),(V.sl 32 ([]:List (List V)))] (6:Int)) (
 zl β L [(V.sc (.int .u32 v0)),(V.sc (.bool v1)),(V.sl 1 v2),(V.sl 35 v3),(V.sl 32 v4)] (fun v7 v8 v9 v10 v11 v12 v13 v14 =>
 xn β L p1 p2 (fun v15 =>
 yg β L p4 (fun v16 =>
 k_hbbbbbbbaba p5 (List.length v16) (0:Int) v15 p3 ([]:List (List V)) v10 v11 (0:Int) false ([]:List (List V)) ([]:List (List V)) ([]:List (List V)) v12 v13 v14 (List.flatten v16)))))))))
theorem zt7 {β:Type} (ym:xS) (xm:zZ) (zl:yP) (xn:zai) (yg:yG) (zh:yL) (L:Nat) (p0:List V) (p1 p2:Int) (p3:Bool) (p4 p5:List (List V)) (k:KK β):zK zbm (zbl ym xm zl xn yg zh L) L zdr [(V.agg p0),(V.sc (.int .u32 p1)),(V.sc (.int .u32 p2)),(V.sc (.bool p3)),(V.sl 1 p4),(V.sl 1 p5)] [] k=zm8 ym xm zl xn yg zh L p0 p1 p2 p3 p4 p5 (fun zE0 zE1=>k (V.tup [(V.agg zE0),(V.sc (.int .i64 zE1))]) []) (fun p5 p14l p15 zE3 zE4 zFb zE8 zEY zEB zEC zED zEE zEF b20 b24 b32 b37=>xG (zn zbm (zbl ym xm zl xn yg zh L) 0 L zbC) zdb L (zcf p5 p14l p15 zE3 zE4 zFb zE8 zEY zEB zEC zED zEE zEF b20 b24 b32 b37) (yy 0 (zM (zn zbm (zbl ym xm zl xn yg zh L) 0 L zge) (zO 0 (CF.res zdr) k)))):=by kernel_rfl
def zdd {β:Type} (ym:xS) (xm:zZ) (zl:yP) (xn:zai) (yg:yG) (zh:yL) (L:Nat) (p5:List (List V)) (p14l:Nat) (p15 zE3:Int) (zE4:Bool) (zFb:List (List V)) (zE8 zEY:Nat) (zEB:Int) (zEC:Bool) (zED zEE zEF:List (List V)) (b20 b24 b32 b37:List V) (k_hbbbbbbbaba:zh9 β) (k_x0:zkS β):Option β :=
 ifb (decide (p15 < (2:Int))) (
 ifb (decide (((p14l:Nat):Int) > (0:Int))) (
 ifb (decide (p15 < ((List.length p5:Nat):Int))) (
 idx p5 p15 fun c17 =>
 cI .u64 c17 0 fun v18 =>
 lt (IntKind.wrap .u64 ((p14l:Nat):Int)) fun x19 =>
 chk (x19≠0) (
 lt (Int.tmod v18 x19) fun x20 =>
 lt (IntKind.wrap .i64 x20) fun x21 =>
 chk (0≤x21∧x21 < ((p14l:Nat):Int)) (
 cI .i64 b37 (0+((Int.toNat x21) * 1)) fun v22 =>
 chk ((List.length zFb+List.length (xc 1 1 [(V.sc (.int .i64 v22))])) * 8≤zj∧List.length zFb+List.length (xc 1 1 [(V.sc (.int .i64 v22))])≤zj) (
 lt (zFb++(xc 1 1 [(V.sc (.int .i64 v22))])) fun l23 =>
 lt (IntKind.wrap .i64 ((x21:Int)+(1:Int))) fun x24 =>
 zh β L p14l x21 x24 b37 (fun v25 v26 =>
 chk ([(List.length v26)]=[(List.length b37)]) (
 lt (IntKind.wrap .i64 ((p15:Int)+(1:Int))) fun x27 =>
 k_hbbbbbbbaba p5 v25 x27 zE3 zE4 l23 zE8 zEY zEB zEC zED zEE zEF b20 b24 b32 v26)))))) (
 lt (IntKind.wrap .u64 ((p14l:Nat):Int)) fun x28 =>
 chk (x28≠0) (
 lt (Int.tmod (0:Int) x28) fun x29 =>
 lt (IntKind.wrap .i64 x29) fun x30 =>
 chk (0≤x30∧x30 < ((p14l:Nat):Int)) (
 cI .i64 b37 (0+((Int.toNat x30) * 1)) fun v31 =>
 chk ((List.length zFb+List.length (xc 1 1 [(V.sc (.int .i64 v31))])) * 8≤zj∧List.length zFb+List.length (xc 1 1 [(V.sc (.int .i64 v31))])≤zj) (
 lt (zFb++(xc 1 1 [(V.sc (.int .i64 v31))])) fun l32 =>
 lt (IntKind.wrap .i64 ((x30:Int)+(1:Int))) fun x33 =>
 zh β L p14l x30 x33 b37 (fun v34 v35 =>
 chk ([(List.length v35)]=[(List.length b37)]) (
 lt (IntKind.wrap .i64 ((p15:Int)+(1:Int))) fun x36 =>
 k_hbbbbbbbaba p5 v34 x36 zE3 zE4 l32 zE8 zEY zEB zEC zED zEE zEF b20 b24 b32 v35))))))) (
 k_x0 zE3 zE4 zFb zE8 zEY zEB zEC zED zEE zEF b20 b24 b32 b37)) (
 k_x0 zE3 zE4 zFb zE8 zEY zEB zEC zED zEE zEF b20 b24 b32 b37)
theorem zmV {β:Type} (ym:xS) (xm:zZ) (zl:yP) (xn:zai) (yg:yG) (zh:yL) (L:Nat) (p5:List (List V)) (p14l:Nat) (p15 zE3:Int) (zE4:Bool) (zFb:List (List V)) (zE8 zEY:Nat) (zEB:Int) (zEC:Bool) (zED zEE zEF:List (List V)) (b20 b24 b32 b37:List V) (X:St→Option β) (K:KT β):zn zbm (zbl ym xm zl xn yg zh L) 0 L zbC (zcf p5 p14l p15 zE3 zE4 zFb zE8 zEY zEB zEC zED zEE zEF b20 b24 b32 b37) (zbw zdb X K)=zdd ym xm zl xn yg zh L p5 p14l p15 zE3 zE4 zFb zE8 zEY zEB zEC zED zEE zEF b20 b24 b32 b37 (fun p5 p14l p15 zE3 zE4 zFb zE8 zEY zEB zEC zED zEE zEF b20 b24 b32 b37=>X (zcf p5 p14l p15 zE3 zE4 zFb zE8 zEY zEB zEC zED zEE zEF b20 b24 b32 b37)) (fun zE3 zE4 zFb zE8 zEY zEB zEC zED zEE zEF b20 b24 b32 b37=>K (.exit 0) (zi0 zE3 zE4 zFb zE8 zEY zEB zEC zED zEE zEF b20 b24 b32 b37)):=by kernel_rfl
def zcx {β:Type} (ym:xS) (xm:zZ) (zl:yP) (xn:zai) (yg:yG) (zh:yL) (L:Nat) (zE3:Int) (zE4:Bool) (zFb:List (List V)) (zE8 zEY:Nat) (zEB:Int) (zEC:Bool) (zED zEE zEF:List (List V)) (b20 b24 b32 b37:List V) (k_fin:List V→Int→Option β):Option β :=
 k_fin [(V.sc (.int .u32 zE3)),(V.sc (.bool zE4)),(V.sl 1 zFb),(V.sl 35 (xc 35 zE8 b24)),(V.sl 32 (xc 32 zEY b32))] (0:Int)
theorem zlF {β:Type} (ym:xS) (xm:zZ) (zl:yP) (xn:zai) (yg:yG) (zh:yL) (L:Nat) (zE3:Int) (zE4:Bool) (zFb:List (List V)) (zE8 zEY:Nat) (zEB:Int) (zEC:Bool) (zED zEE zEF:List (List V)) (b20 b24 b32 b37:List V) (k:KK β):(yy 0 (zM (zn zbm (zbl ym xm zl xn yg zh L) 0 L zge) (zO 0 (CF.res zdr) k))) (.exit 0) (zi0 zE3 zE4 zFb zE8 zEY zEB zEC zED zEE zEF b20 b24 b32 b37)=zcx ym xm zl xn yg zh L zE3 zE4 zFb zE8 zEY zEB zEC zED zEE zEF b20 b24 b32 b37 (fun zE0 zE1=>k (V.tup [(V.agg zE0),(V.sc (.int .i64 zE1))]) []):=by kernel_rfl
def za2 {β:Type} (ym:xS) (xm:zZ) (zl:yP) (xn:zai) (yg:yG) (zh:yL) (L:Nat) (k_x0:zkS β):Nat→List (List V)→Nat→Int→Int→Bool→List (List V)→Nat→Nat→Int→Bool→List (List V)→List (List V)→List (List V)→List V→List V→List V→List V→Option β
 | 0,_,_,_,_,_,_,_,_,_,_,_,_,_,_,_,_,_=>none
 | n+1,p5,p14l,p15,zE3,zE4,zFb,zE8,zEY,zEB,zEC,zED,zEE,zEF,b20,b24,b32,b37=>zdd ym xm zl xn yg zh L p5 p14l p15 zE3 zE4 zFb zE8 zEY zEB zEC zED zEE zEF b20 b24 b32 b37 (fun p5 p14l p15 zE3 zE4 zFb zE8 zEY zEB zEC zED zEE zEF b20 b24 b32 b37=>za2 ym xm zl xn yg zh L k_x0 n p5 p14l p15 zE3 zE4 zFb zE8 zEY zEB zEC zED zEE zEF b20 b24 b32 b37) k_x0
theorem zhl {β:Type} (ym:xS) (xm:zZ) (zl:yP) (xn:zai) (yg:yG) (zh:yL) (L:Nat) (K:KT β):∀ (n:Nat) (p5:List (List V)) (p14l:Nat) (p15 zE3:Int) (zE4:Bool) (zFb:List (List V)) (zE8 zEY:Nat) (zEB:Int) (zEC:Bool) (zED zEE zEF:List (List V)) (b20 b24 b32 b37:List V),xG (zn zbm (zbl ym xm zl xn yg zh L) 0 L zbC) zdb n (zcf p5 p14l p15 zE3 zE4 zFb zE8 zEY zEB zEC zED zEE zEF b20 b24 b32 b37) K=za2 ym xm zl xn yg zh L (fun zE3 zE4 zFb zE8 zEY zEB zEC zED zEE zEF b20 b24 b32 b37=>K (.exit 0) (zi0 zE3 zE4 zFb zE8 zEY zEB zEC zED zEE zEF b20 b24 b32 b37)) n p5 p14l p15 zE3 zE4 zFb zE8 zEY zEB zEC zED zEE zEF b20 b24 b32 b37:=by
 intro n
 induction n with
 | zero=>intros; rfl
 | succ n ih =>
  intro p5 p14l p15 zE3 zE4 zFb zE8 zEY zEB zEC zED zEE zEF b20 b24 b32 b37
  refine (zmV ym xm zl xn yg zh L p5 p14l p15 zE3 zE4 zFb zE8 zEY zEB zEC zED zEE zEF b20 b24 b32 b37 (fun σ=>xG (zn zbm (zbl ym xm zl xn yg zh L) 0 L zbC) zdb n σ K) K).trans ?_
  simp only [ih]
  rfl
def zjC {β:Type} (ym:xS) (xm:zZ) (zl:yP) (xn:zai) (yg:yG) (zh:yL) (L:Nat) (p0:List V) (p1 p2:Int) (p3:Bool) (p4 p5:List (List V)) (k_fin:List V→Int→Option β):Option β :=
 zm8 ym xm zl xn yg zh L p0 p1 p2 p3 p4 p5 k_fin (fun p5 p14l p15 zE3 zE4 zFb zE8 zEY zEB zEC zED zEE zEF b20 b24 b32 b37=>za2 ym xm zl xn yg zh L (fun zE3 zE4 zFb zE8 zEY zEB zEC zED zEE zEF b20 b24 b32 b37=>zcx ym xm zl xn yg zh L zE3 zE4 zFb zE8 zEY zEB zEC zED zEE zEF b20 b24 b32 b37 k_fin) L p5 p14l p15 zE3 zE4 zFb zE8 zEY zEB zEC zED zEE zEF b20 b24 b32 b37)
theorem zue {β:Type} (ym:xS) (xm:zZ) (zl:yP) (xn:zai) (yg:yG) (zh:yL) (L:Nat) (p0:List V) (p1 p2:Int) (p3:Bool) (p4 p5:List (List V)) (k:KK β):zK zbm (zbl ym xm zl xn yg zh L) L zdr [(V.agg p0),(V.sc (.int .u32 p1)),(V.sc (.int .u32 p2)),(V.sc (.bool p3)),(V.sl 1 p4),(V.sl 1 p5)] [] k=zjC ym xm zl xn yg zh L p0 p1 p2 p3 p4 p5 (fun zE0 zE1=>k (V.tup [(V.agg zE0),(V.sc (.int .i64 zE1))]) []):=by
 refine (zt7 ym xm zl xn yg zh L p0 p1 p2 p3 p4 p5 k).trans ?_
 unfold zjC
 first
  | (simp only [zhl,zlF]; done)
  | (simp only [zhl]; rfl)
abbrev xt:=∀ (β:Type),Nat→List V→Int→Int→Bool→List (List V)→List (List V)→(List V→Int→Option β)→Option β
def ye (β:Type) (L:Nat) (p0:List V) (p1 p2:Int) (p3:Bool) (p4 p5:List (List V)) (k_fin:List V→Int→Option β):Option β:=zjC ym xm zl xn yg zh L p0 p1 p2 p3 p4 p5 k_fin
def zjJ (ye:xt) (L:Nat) (β:Type) (args:List V) (bor:Bor) (k:KK β):Option β:=match args,bor with
 | [a0,a1,a2,a3,a4,a5],[]=>aG a0 fun p0=>aI .u32 a1 fun p1=>aI .u32 a2 fun p2=>aB a3 fun p3=>aL 1 a4 fun p4=>aL 1 a5 fun p5=>ye β L p0 p1 p2 p3 p4 p5 (fun zE0 zE1=>k (V.tup [(V.agg zE0),(V.sc (.int .i64 zE1))]) [])
 | _,_=>none
theorem ztX (L:Nat) (β:Type) (args:List V) (bor:Bor) (k:KK β) (r:β) (h:zjJ ye L β args bor k=some r):zK zbm (zbl ym xm zl xn yg zh L) L zdr args bor k=some r:=by
 unfold zjJ at h
 split at h
 ·have q:=zfq h; clear h; obtain ⟨p0,rfl,h⟩:=q
  have q:=zaG h; clear h; obtain ⟨p1,rfl,h⟩:=q
  have q:=zaG h; clear h; obtain ⟨p2,rfl,h⟩:=q
  have q:=zmK h; clear h; obtain ⟨p3,rfl,h⟩:=q
  have q:=zaZ h; clear h; obtain ⟨p4,rfl,h⟩:=q
  have q:=zaZ h; clear h; obtain ⟨p5,rfl,h⟩:=q
  exact (zue ym xm zl xn yg zh L p0 p1 p2 p3 p4 p5 k).trans h
 ·cases h
def zbQ:CC:=(.seq (.seq (.reg [oo 64 (.move (tq 17) false),
   oo 65 (.bin .lss (tq 64) (.const (.sc (.int .i64 2)))),
   oo 66 (.move (tq 65) false),
   ⟨(some 67),false,(some (66,true)),.move (tq 16) false⟩,
   ⟨(some 68),false,(some (66,true)),.lenS (tq 67)⟩,
   ⟨(some 69),false,(some (66,true)),.bin .gtr (tq 68) (.const (.sc (.int .i64 0)))⟩,
   oo 70 (.pick (tq 66) (tq 69) (.const (.sc (.bool false))))])
 (.cond (tq 70)
 .skip
 (.seq (.mask (bl 36864 107) (bl 120317858588744042992825768411071 107))
 (.exit 2))))
 (.seq (.block 3 (.seq (.reg [oo 18 (.move (.const (.sc (.int .u64 0))) false)])
 (.seq (.seq (.reg [oo 73 (.move (tq 17) false),
   oo 74 (.move (tq 5) false),
   oo 75 (.lenS (tq 74)),
   oo 76 (.bin .lss (tq 73) (tq 75))])
 (.cond (tq 76)
 (.reg [oo 77 (.move (tq 5) false),
   oo 78 (.move (tq 17) false),
   oo 79 (.indexAddrS 1 (tq 77) (tq 78)),
   oo 80 (.load false 1 (tq 79) false),
   oo 18 (.move (tq 80) false)])
 .skip))
 (.seq (.reg [oo 81 (.move (tq 18) false),
   oo 82 (.move (tq 16) false),
   oo 83 (.lenS (tq 82)),
   oo 84 (.conv .u64 (tq 83)),
   oo 85 (.bin .rem (tq 81) (tq 84)),
   oo 86 (.conv .i64 (tq 85)),
   oo 19 (.move (tq 86) false)])
 (.seq (.dreg [] [(oo 87 (.fieldAddr 2 (tq 15)),q0),
   (oo 88 (.load false 1 (tq 87) true),ql 15 [] [93]),
   (oo 89 (.move (tq 16) false),q0),
   (oo 90 (.move (tq 19) false),q0),
   (oo 91 (.indexAddrS 1 (tq 89) (tq 90)),q0),
   (oo 92 (.load false 1 (tq 91) false),qc [15] []),
   (oo 93 (.buildSlice 1 1 [(.sc (.int .i64 0))] [(0,1,(tq 92))]),qn [15] []),
   (oo 94 (.append 1 8 (tq 88) (tq 93)),q0),
   (oo 95 (.fieldAddr 2 (tq 15)),q0),
   (oz (.store 1 (tq 95) (tq 94)),q0)])
 (.dreg [] [(oo 96 (.buildSlice 1 0 [(.sc (.int .i64 0))] []),q0),
   (oo 97 (.move (tq 16) false),q0),
   (oo 98 (.move (tq 19) false),q0),
   (oo 99 (.sliceS 1 (tq 97) none (some (tq 98)) none),q0),
   (oo 100 (.append 1 8 (tq 96) (tq 99)),q0),
   (oo 101 (.move (tq 16) false),q0),
   (oo 102 (.move (tq 19) false),q0),
   (oo 103 (.bin .add (tq 102) (.const (.sc (.int .i64 1)))),q0),
   (oo 104 (.sliceS 1 (tq 101) (some (tq 103)) none none),q0),
   (oo 105 (.append 1 8 (tq 100) (tq 104)),q0),
   (oo 16 (.move (tq 105) true),q0)]))))))
 (.reg [oo 71 (.move (tq 17) false),
   oo 72 (.bin .add (tq 71) (.const (.sc (.int .i64 1)))),
   oo 17 (.move (tq 72) false)])))
def zgO:CC:=(.seq (.reg [oo 106 (.load true 5 (tq 15) true),
   oz (.store 5 (tq 12) (tq 106)),
   oo 13 (.move (.const (.sc (.int .i64 0))) false)])
 .ret)
def zdI:CC:=(.seq (.seq (.reg [oo 20 (.move (tq 14) false),
   oo 21 (.move (tq 4) false),
   oo 22 (.lenS (tq 21)),
   oo 23 (.bin .lss (tq 20) (tq 22))])
 (.cond (tq 23)
 .skip
 (.seq (.mask (bl 4222 107) (bl 162259276829213363391578006036479 107))
 (.exit 0))))
 (.seq (.block 1 (.seq (.dreg [] [(oo 26 (.move (tq 4) false),q0),
   (oo 27 (.move (tq 14) false),q0),
   (oo 28 (.indexAddrS 1 (tq 26) (tq 27)),q0),
   (oo 29 (.load false 1 (tq 28) false),q0),
   (oo 30 (.bin .lss (tq 29) (.const (.sc (.int .i64 0)))),q0),
   (oo 31 (.move (tq 30) false),q0),
   (⟨(some 32),false,(some (31,false)),.move (tq 14) false⟩,q0),
   (⟨(some 33),false,(some (31,false)),.bin .gtr (tq 32) (.const (.sc (.int .i64 0)))⟩,q0),
   (⟨(some 34),false,(some (31,false)),.move (tq 33) false⟩,q0),
   (⟨(some 35),false,(some (34,true)),.move (tq 4) false⟩,q0),
   (⟨(some 36),false,(some (34,true)),.move (tq 14) false⟩,q0),
   (⟨(some 37),false,(some (34,true)),.bin .sub (tq 36) (.const (.sc (.int .i64 1)))⟩,q0),
   (⟨(some 38),false,(some (34,true)),.indexAddrS 1 (tq 35) (tq 37)⟩,q0),
   (⟨(some 39),false,(some (34,true)),.load false 1 (tq 38) false⟩,qc [] []),
   (⟨(some 40),false,(some (34,true)),.move (tq 4) false⟩,q0),
   (⟨(some 41),false,(some (34,true)),.move (tq 14) false⟩,q0),
   (⟨(some 42),false,(some (34,true)),.indexAddrS 1 (tq 40) (tq 41)⟩,q0),
   (⟨(some 43),false,(some (34,true)),.load false 1 (tq 42) false⟩,qc [] []),
   (⟨(some 44),false,(some (34,true)),.bin .geq (tq 39) (tq 43)⟩,q0),
   (⟨(some 45),false,(some (31,false)),.pick (tq 34) (tq 44) (.const (.sc (.bool false)))⟩,q0),
   (oo 46 (.pick (tq 31) (.const (.sc (.bool true))) (tq 45)),q0)])
 (.cond (tq 46)
 (.seq (.reg [oo 47 (.build [(.sc (.int .u32 0)),(.sc (.bool false)),(.sl 1 []),(.sl 35 []),(.sl 32 [])] []),
   oz (.store 5 (tq 12) (tq 47)),
   oo 13 (.move (.const (.sc (.int .i64 6))) false)])
 (.seq (.mask (bl 12288 107) (bl 162259276829213363391578006044607 107))
 .ret))
 .skip)))
 (.reg [oo 24 (.move (tq 14) false),
   oo 25 (.bin .add (tq 24) (.const (.sc (.int .i64 1)))),
   oo 14 (.move (tq 25) false)])))
def zfy:CC:=(.seq (.seq (.reg [oo 48 (.load true 5 (tq 6) false),
   oo 49 (.call 362 [((tq 48),1)] []),
   oo 50 (.un .not (tq 49))])
 (.cond (tq 50)
 (.seq (.reg [oo 51 (.build [(.sc (.int .u32 0)),(.sc (.bool false)),(.sl 1 []),(.sl 35 []),(.sl 32 [])] []),
   oz (.store 5 (tq 12) (tq 51)),
   oo 13 (.move (.const (.sc (.int .i64 6))) false)])
 .ret)
 .skip))
 (.seq (.reg [oo 52 (.load true 5 (tq 6) false),
   oo 53 (.call 355 [((tq 52),1)] [23,28,30]),
   oo 15 (.alloc false [(.sc (.int .u32 0)),(.sc (.bool false)),(.gs 1 []),(.gs 35 []),(.gs 32 [])]),
   oz (.store 5 (tq 15) (tq 53))])
 (.seq (.reg [oo 54 (.move (tq 1) false),
   oo 55 (.move (tq 2) false),
   oo 56 (.call 319 [((tq 54),0),((tq 55),0)] []),
   oo 57 (.move (tq 3) false),
   oo 58 (.fieldAddr 0 (tq 15)),
   oz (.store 1 (tq 58) (tq 56)),
   oo 59 (.fieldAddr 1 (tq 15)),
   oz (.store 1 (tq 59) (tq 57)),
   oo 60 (.fieldAddr 2 (tq 15)),
   oz (.store 1 (tq 60) (.const (.gs 1 [])))])
 (.seq (.reg [oo 61 (.buildSlice 1 0 [(.sc (.int .i64 0))] []),
   oo 62 (.move (tq 4) false),
   oo 63 (.append 1 8 (tq 61) (tq 62)),
   oo 16 (.move (tq 63) true)])
 (.seq (.seq (.reg [oo 17 (.move (.const (.sc (.int .i64 0))) false)])
 (.block 2 (.loop (bl 233504 107) (bl 120317858588744042992825768607679 107)
 zbQ)))
 zgO)))))
def zaO:CF:=⟨107,[.cellS 12 5 true,.tmpP 13],
 (.seq (.reg [oo 6 (.box true (tq 0)),
   oo 12 (.alloc false [(.sc (.int .u32 0)),(.sc (.bool false)),(.gs 1 []),(.gs 35 []),(.gs 32 [])]),
   oo 13 (.move (.const (.sc (.int .i64 0))) false)])
 (.seq (.seq (.reg [oo 14 (.move (.const (.sc (.int .i64 0))) false)])
 (.block 0 (.loop (bl 20606 107) (bl 162259276829213363391578006052863 107)
 zdI)))
 zfy))⟩
def zn7:Hint:=⟨[(0,0),(10,3),(18,1),(19,10),(20,0)],[],[none,some ((bl 20606 107),(bl 162259276829213363391578006052863 107)),none,some ((bl 4222 107),(bl 162259276829213363391578006036479 107)),none,none,some ((bl 12288 107),(bl 162259276829213363391578006044607 107)),none,none,none,some ((bl 233504 107),(bl 120317858588744042992825768607679 107)),none,some ((bl 36864 107),(bl 120317858588744042992825768411071 107)),none,none,none],[],[(8,1,[23,28,30])],true,true⟩
def xP:Nat→Sh:=xZ [(29,(.int .i64)),(39,(.int .i64)),(43,(.int .i64)),(80,(.int .u64)),(92,(.int .i64))]
def zQ (zg:xz) (xf:zw) (xh:yJ) (L:Nat):CBC:=(xB 319 (zho xh L) (xB 355 (zcm xf L) (xB 362 (zd8 zg L) noC)))
def zf2:St→St:=yT 0 (bl 20606 107) (bl 162259276829213363391578006052863 107)
def zdD:St→St:=yT 0 (bl 233504 107) (bl 120317858588744042992825768607679 107)
def zeu (p1 p2:Int) (p3:Bool) (p4 p5:List (List V)) (p14:Int) (b6:List V) (zEB:Int) (zEC:Bool) (zED zEE zEF:List (List V)):St:=⟨(jn 1 ((V.sc (.int .u32 p1))::((V.sc (.int .u32 p2))::((V.sc (.bool p3))::((V.sl 1 p4)::((V.sl 1 p5)::((V.ptr 6 0)::(jn 5 ((V.ptr 12 0)::(jn 1 ((V.sc (.int .i64 p14))::(jn 92 [])))))))))))),(gn 6 ((.live true b6)::(gn 5 ((.live false [(V.sc (.int .u32 zEB)),(V.sc (.bool zEC)),(V.gs 1 zED),(V.gs 35 zEE),(V.gs 32 zEF)])::(gn 94 [])))))⟩
def zif (p13 zEB:Int) (zEC:Bool) (zED zEE zEF:List (List V)):St:=⟨(jn 12 ((V.ptr 12 0)::((V.sc (.int .i64 p13))::(jn 93 [])))),(gn 12 ((.live false [(V.sc (.int .u32 zEB)),(V.sc (.bool zEC)),(V.sl 1 zED),(V.sl 35 zEE),(V.sl 32 zEF)])::(gn 94 [])))⟩
def zf6 (p1 p2:Int) (p3:Bool) (p4 p5:List (List V)) (b6:List V) (zEB:Int) (zEC:Bool) (zED zEE zEF:List (List V)):St:=⟨(jn 1 ((V.sc (.int .u32 p1))::((V.sc (.int .u32 p2))::((V.sc (.bool p3))::((V.sl 1 p4)::((V.sl 1 p5)::((V.ptr 6 0)::(jn 5 ((V.ptr 12 0)::(jn 94 [])))))))))),(gn 6 ((.live true b6)::(gn 5 ((.live false [(V.sc (.int .u32 zEB)),(V.sc (.bool zEC)),(V.gs 1 zED),(V.gs 35 zEE),(V.gs 32 zEF)])::(gn 94 [])))))⟩
def zcv (p5 p16:List (List V)) (p17 zEB:Int) (zEC:Bool) (zED zEE zEF:List (List V)) (zE9:Int) (zFa:Bool) (zE7:List (List V)) (zE5 zE6:Nat) (b23 b28 b30:List V):St:=⟨(jn 5 ((V.sl 1 p5)::(jn 6 ((V.ptr 12 0)::(jn 2 ((V.ptr 15 0)::((V.gs 1 p16)::((V.sc (.int .i64 p17))::(jn 89 []))))))))),(gn 12 ((.live false [(V.sc (.int .u32 zEB)),(V.sc (.bool zEC)),(V.gs 1 zED),(V.gs 35 zEE),(V.gs 32 zEF)])::(gn 2 ((.live false [(V.sc (.int .u32 zE9)),(V.sc (.bool zFa)),(V.gs 1 zE7),(V.own 28 0 zE5 35),(V.own 30 0 zE6 32)])::(gn 7 ((.live true b23)::(gn 4 ((.live true b28)::(gn 1 ((.live true b30)::(gn 76 [])))))))))))⟩
def zi2 (zEB:Int) (zEC:Bool) (zED zEE zEF:List (List V)) (zE9:Int) (zFa:Bool) (zE7:List (List V)) (zE5 zE6:Nat) (b23 b28 b30:List V):St:=⟨(jn 12 ((V.ptr 12 0)::(jn 2 ((V.ptr 15 0)::(jn 91 []))))),(gn 12 ((.live false [(V.sc (.int .u32 zEB)),(V.sc (.bool zEC)),(V.gs 1 zED),(V.gs 35 zEE),(V.gs 32 zEF)])::(gn 2 ((.live false [(V.sc (.int .u32 zE9)),(V.sc (.bool zFa)),(V.gs 1 zE7),(V.own 28 0 zE5 35),(V.own 30 0 zE6 32)])::(gn 7 ((.live true b23)::(gn 4 ((.live true b28)::(gn 1 ((.live true b30)::(gn 76 [])))))))))))⟩
abbrev zmF (β:Type):Type:=Int→Int→Bool→List (List V)→List (List V)→Int→List V→Int→Bool→List (List V)→List (List V)→List (List V)→Option β
abbrev zj3 (β:Type):Type:=Int→Int→Bool→List (List V)→List (List V)→List (List V)→Option β
abbrev zll (β:Type):Type:=Int→Int→Bool→List (List V)→List (List V)→List V→Int→Bool→List (List V)→List (List V)→List (List V)→Option β
abbrev ziV (β:Type):Type:=List (List V)→List (List V)→Int→Int→Bool→List (List V)→List (List V)→List (List V)→Int→Bool→List (List V)→Nat→Nat→List V→List V→List V→Option β
abbrev zky (β:Type):Type:=Int→Bool→List (List V)→List (List V)→List (List V)→Int→Bool→List (List V)→Nat→Nat→List V→List V→List V→Option β
def znh {β:Type} (zg:xz) (xf:zw) (xh:yJ) (L:Nat) (p0:List V) (p1 p2:Int) (p3:Bool) (p4 p5:List (List V)) (k_hbaba:zmF β):Option β :=
 k_hbaba p1 p2 p3 p4 p5 (0:Int) p0 (0:Int) false ([]:List (List V)) ([]:List (List V)) ([]:List (List V))
theorem ztU {β:Type} (zg:xz) (xf:zw) (xh:yJ) (L:Nat) (p0:List V) (p1 p2:Int) (p3:Bool) (p4 p5:List (List V)) (k:KK β):zK xP (zQ zg xf xh L) L zaO [(V.agg p0),(V.sc (.int .u32 p1)),(V.sc (.int .u32 p2)),(V.sc (.bool p3)),(V.sl 1 p4),(V.sl 1 p5)] [] k=znh zg xf xh L p0 p1 p2 p3 p4 p5 (fun p1 p2 p3 p4 p5 p14 b6 zEB zEC zED zEE zEF=>xG (zn xP (zQ zg xf xh L) 0 L zdI) zf2 L (zeu p1 p2 p3 p4 p5 p14 b6 zEB zEC zED zEE zEF) (yy 0 (zM (zn xP (zQ zg xf xh L) 0 L zfy) (zO 0 (CF.res zaO) k)))):=by kernel_rfl
def zi8 {β:Type} (zg:xz) (xf:zw) (xh:yJ) (L:Nat) (p1 p2:Int) (p3:Bool) (p4 p5:List (List V)) (p14:Int) (b6:List V) (zEB:Int) (zEC:Bool) (zED zEE zEF:List (List V)) (k_ret:zj3 β) (k_hbaba:zmF β) (k_x0:zll β):Option β :=
 ifb (decide (p14 < ((List.length p4:Nat):Int))) (
 idx p4 p14 fun c0 =>
 cI .i64 c0 0 fun v1 =>
 ifb (decide (v1 < (0:Int))) (
 k_ret (6:Int) (0:Int) false ([]:List (List V)) ([]:List (List V)) ([]:List (List V))) (
 ifb (decide (p14 > (0:Int))) (
 lt (IntKind.wrap .i64 ((p14:Int) - (1:Int))) fun x2 =>
 idx p4 x2 fun c3 =>
 cI .i64 c3 0 fun v4 =>
 idx p4 p14 fun c5 =>
 cI .i64 c5 0 fun v6 =>
 ifb (decide (v4 ≥ v6)) (
 k_ret (6:Int) (0:Int) false ([]:List (List V)) ([]:List (List V)) ([]:List (List V))) (
 lt (IntKind.wrap .i64 ((p14:Int)+(1:Int))) fun x7 =>
 k_hbaba p1 p2 p3 p4 p5 x7 b6 zEB zEC zED zEE zEF)) (
 lt (IntKind.wrap .i64 ((p14:Int)+(1:Int))) fun x8 =>
 k_hbaba p1 p2 p3 p4 p5 x8 b6 zEB zEC zED zEE zEF))) (
 k_x0 p1 p2 p3 p4 p5 b6 zEB zEC zED zEE zEF)
theorem zqJ {β:Type} (zg:xz) (xf:zw) (xh:yJ) (L:Nat) (p1 p2:Int) (p3:Bool) (p4 p5:List (List V)) (p14:Int) (b6:List V) (zEB:Int) (zEC:Bool) (zED zEE zEF:List (List V)) (X:St→Option β) (K:KT β):zn xP (zQ zg xf xh L) 0 L zdI (zeu p1 p2 p3 p4 p5 p14 b6 zEB zEC zED zEE zEF) (zbw zf2 X K)=zi8 zg xf xh L p1 p2 p3 p4 p5 p14 b6 zEB zEC zED zEE zEF (fun p13 zEB zEC zED zEE zEF=>K .ret (zif p13 zEB zEC zED zEE zEF)) (fun p1 p2 p3 p4 p5 p14 b6 zEB zEC zED zEE zEF=>X (zeu p1 p2 p3 p4 p5 p14 b6 zEB zEC zED zEE zEF)) (fun p1 p2 p3 p4 p5 b6 zEB zEC zED zEE zEF=>K (.exit 0) (zf6 p1 p2 p3 p4 p5 b6 zEB zEC zED zEE zEF)):=by kernel_rfl
def zkY {β:Type} (zg:xz) (xf:zw) (xh:yJ) (L:Nat) (p13 zEB:Int) (zEC:Bool) (zED zEE zEF:List (List V)) (k_fin:List V→Int→Option β):Option β :=
 k_fin [(V.sc (.int .u32 zEB)),(V.sc (.bool zEC)),(V.sl 1 zED),(V.sl 35 zEE),(V.sl 32 zEF)] p13
theorem zoI {β:Type} (zg:xz) (xf:zw) (xh:yJ) (L:Nat) (p13 zEB:Int) (zEC:Bool) (zED zEE zEF:List (List V)) (k:KK β):(yy 0 (zM (zn xP (zQ zg xf xh L) 0 L zfy) (zO 0 (CF.res zaO) k))) .ret (zif p13 zEB zEC zED zEE zEF)=zkY zg xf xh L p13 zEB zEC zED zEE zEF (fun zE0 zE1=>k (V.tup [(V.agg zE0),(V.sc (.int .i64 zE1))]) []):=by kernel_rfl
def zhv {β:Type} (zg:xz) (xf:zw) (xh:yJ) (L:Nat) (p1 p2:Int) (p3:Bool) (p4 p5:List (List V)) (b6:List V) (zEB:Int) (zEC:Bool) (zED zEE zEF:List (List V)) (k_fin:List V→Int→Option β) (k_hbbbbbbaba:ziV β):Option β :=
 chk (0+5≤(List.length b6)) (
 zg β L (List.map V.dem (List.take 5 b6)) (fun v9 =>
 ifb (!v9) (
 k_fin [(V.sc (.int .u32 (0:Int))),(V.sc (.bool false)),(V.sl 1 ([]:List (List V))),(V.sl 35 ([]:List (List V))),(V.sl 32 ([]:List (List V)))] (6:Int)) (
 chk (0+5≤(List.length b6)) (
 xf β L (List.map V.dem (List.take 5 b6)) (fun v10 v11 v12 v13 v14 v15 v16 v17 =>
 xh β L p1 p2 (fun v18 =>
 chk ((List.length ([]:List (List V))+List.length p4) * 8≤zj∧List.length ([]:List (List V))+List.length p4≤zj) (
 lt (([]:List (List V))++p4) fun l19 =>
 k_hbbbbbbaba p5 l19 (0:Int) zEB zEC zED zEE zEF v18 p3 ([]:List (List V)) v13 v14 v15 v16 v17)))))))
theorem zph {β:Type} (zg:xz) (xf:zw) (xh:yJ) (L:Nat) (p1 p2:Int) (p3:Bool) (p4 p5:List (List V)) (b6:List V) (zEB:Int) (zEC:Bool) (zED zEE zEF:List (List V)) (k:KK β):(yy 0 (zM (zn xP (zQ zg xf xh L) 0 L zfy) (zO 0 (CF.res zaO) k))) (.exit 0) (zf6 p1 p2 p3 p4 p5 b6 zEB zEC zED zEE zEF)=zhv zg xf xh L p1 p2 p3 p4 p5 b6 zEB zEC zED zEE zEF (fun zE0 zE1=>k (V.tup [(V.agg zE0),(V.sc (.int .i64 zE1))]) []) (fun p5 p16 p17 zEB zEC zED zEE zEF zE9 zFa zE7 zE5 zE6 b23 b28 b30=>xG (zn xP (zQ zg xf xh L) 0 L zbQ) zdD L (zcv p5 p16 p17 zEB zEC zED zEE zEF zE9 zFa zE7 zE5 zE6 b23 b28 b30) (yy 2 (zM (zn xP (zQ zg xf xh L) 0 L zgO) (zO 0 (CF.res zaO) k)))):=by kernel_rfl
def zdA {β:Type} (zg:xz) (xf:zw) (xh:yJ) (L:Nat) (p5 p16:List (List V)) (p17 zEB:Int) (zEC:Bool) (zED zEE zEF:List (List V)) (zE9:Int) (zFa:Bool) (zE7:List (List V)) (zE5 zE6:Nat) (b23 b28 b30:List V) (k_hbbbbbbaba:ziV β) (k_x2:zky β):Option β :=
 ifb (decide (p17 < (2:Int))) (
 ifb (decide (((List.length p16:Nat):Int) > (0:Int))) (
 ifb (decide (p17 < ((List.length p5:Nat):Int))) (
 idx p5 p17 fun c20 =>
 cI .u64 c20 0 fun v21 =>
 lt (IntKind.wrap .u64 ((List.length p16:Nat):Int)) fun x22 =>
 chk (x22≠0) (
 lt (Int.tmod v21 x22) fun x23 =>
 lt (IntKind.wrap .i64 x23) fun x24 =>
 idx p16 x24 fun c25 =>
 cI .i64 c25 0 fun v26 =>
 chk ((List.length zE7+List.length (xc 1 1 [(V.sc (.int .i64 v26))])) * 8≤zj∧List.length zE7+List.length (xc 1 1 [(V.sc (.int .i64 v26))])≤zj) (
 lt (zE7++(xc 1 1 [(V.sc (.int .i64 v26))])) fun l27 =>
 chk (0≤x24∧x24≤(((List.length p16):Nat):Int)) (
 chk ((List.length ([]:List (List V))+List.length (List.take ((Int.toNat x24) - 0) (List.drop 0 p16))) * 8≤zj∧List.length ([]:List (List V))+List.length (List.take ((Int.toNat x24) - 0) (List.drop 0 p16))≤zj) (
 lt (([]:List (List V))++(List.take ((Int.toNat x24) - 0) (List.drop 0 p16))) fun l28 =>
 lt (IntKind.wrap .i64 ((x24:Int)+(1:Int))) fun x29 =>
 chk (0≤x29∧x29≤(((List.length p16):Nat):Int)) (
 chk ((List.length l28+List.length (List.take ((List.length p16) - (Int.toNat x29)) (List.drop (Int.toNat x29) p16))) * 8≤zj∧List.length l28+List.length (List.take ((List.length p16) - (Int.toNat x29)) (List.drop (Int.toNat x29) p16))≤zj) (
 lt (l28++(List.take ((List.length p16) - (Int.toNat x29)) (List.drop (Int.toNat x29) p16))) fun l30 =>
 lt (IntKind.wrap .i64 ((p17:Int)+(1:Int))) fun x31 =>
 k_hbbbbbbaba p5 l30 x31 zEB zEC zED zEE zEF zE9 zFa l27 zE5 zE6 b23 b28 b30))))))) (
 lt (IntKind.wrap .u64 ((List.length p16:Nat):Int)) fun x32 =>
 chk (x32≠0) (
 lt (Int.tmod (0:Int) x32) fun x33 =>
 lt (IntKind.wrap .i64 x33) fun x34 =>
 idx p16 x34 fun c35 =>
 cI .i64 c35 0 fun v36 =>
 chk ((List.length zE7+List.length (xc 1 1 [(V.sc (.int .i64 v36))])) * 8≤zj∧List.length zE7+List.length (xc 1 1 [(V.sc (.int .i64 v36))])≤zj) (
 lt (zE7++(xc 1 1 [(V.sc (.int .i64 v36))])) fun l37 =>
 chk (0≤x34∧x34≤(((List.length p16):Nat):Int)) (
 chk ((List.length ([]:List (List V))+List.length (List.take ((Int.toNat x34) - 0) (List.drop 0 p16))) * 8≤zj∧List.length ([]:List (List V))+List.length (List.take ((Int.toNat x34) - 0) (List.drop 0 p16))≤zj) (
 lt (([]:List (List V))++(List.take ((Int.toNat x34) - 0) (List.drop 0 p16))) fun l38 =>
 lt (IntKind.wrap .i64 ((x34:Int)+(1:Int))) fun x39 =>
 chk (0≤x39∧x39≤(((List.length p16):Nat):Int)) (
 chk ((List.length l38+List.length (List.take ((List.length p16) - (Int.toNat x39)) (List.drop (Int.toNat x39) p16))) * 8≤zj∧List.length l38+List.length (List.take ((List.length p16) - (Int.toNat x39)) (List.drop (Int.toNat x39) p16))≤zj) (
 lt (l38++(List.take ((List.length p16) - (Int.toNat x39)) (List.drop (Int.toNat x39) p16))) fun l40 =>
 lt (IntKind.wrap .i64 ((p17:Int)+(1:Int))) fun x41 =>
 k_hbbbbbbaba p5 l40 x41 zEB zEC zED zEE zEF zE9 zFa l37 zE5 zE6 b23 b28 b30)))))))) (
 k_x2 zEB zEC zED zEE zEF zE9 zFa zE7 zE5 zE6 b23 b28 b30)) (
 k_x2 zEB zEC zED zEE zEF zE9 zFa zE7 zE5 zE6 b23 b28 b30)
theorem znH {β:Type} (zg:xz) (xf:zw) (xh:yJ) (L:Nat) (p5 p16:List (List V)) (p17 zEB:Int) (zEC:Bool) (zED zEE zEF:List (List V)) (zE9:Int) (zFa:Bool) (zE7:List (List V)) (zE5 zE6:Nat) (b23 b28 b30:List V) (X:St→Option β) (K:KT β):zn xP (zQ zg xf xh L) 0 L zbQ (zcv p5 p16 p17 zEB zEC zED zEE zEF zE9 zFa zE7 zE5 zE6 b23 b28 b30) (zbw zdD X K)=zdA zg xf xh L p5 p16 p17 zEB zEC zED zEE zEF zE9 zFa zE7 zE5 zE6 b23 b28 b30 (fun p5 p16 p17 zEB zEC zED zEE zEF zE9 zFa zE7 zE5 zE6 b23 b28 b30=>X (zcv p5 p16 p17 zEB zEC zED zEE zEF zE9 zFa zE7 zE5 zE6 b23 b28 b30)) (fun zEB zEC zED zEE zEF zE9 zFa zE7 zE5 zE6 b23 b28 b30=>K (.exit 2) (zi2 zEB zEC zED zEE zEF zE9 zFa zE7 zE5 zE6 b23 b28 b30)):=by kernel_rfl
def ze0 {β:Type} (zg:xz) (xf:zw) (xh:yJ) (L:Nat) (zEB:Int) (zEC:Bool) (zED zEE zEF:List (List V)) (zE9:Int) (zFa:Bool) (zE7:List (List V)) (zE5 zE6:Nat) (b23 b28 b30:List V) (k_fin:List V→Int→Option β):Option β :=
 k_fin [(V.sc (.int .u32 zE9)),(V.sc (.bool zFa)),(V.sl 1 zE7),(V.sl 35 (xc 35 zE5 b28)),(V.sl 32 (xc 32 zE6 b30))] (0:Int)
theorem zmy {β:Type} (zg:xz) (xf:zw) (xh:yJ) (L:Nat) (zEB:Int) (zEC:Bool) (zED zEE zEF:List (List V)) (zE9:Int) (zFa:Bool) (zE7:List (List V)) (zE5 zE6:Nat) (b23 b28 b30:List V) (k:KK β):(yy 2 (zM (zn xP (zQ zg xf xh L) 0 L zgO) (zO 0 (CF.res zaO) k))) (.exit 2) (zi2 zEB zEC zED zEE zEF zE9 zFa zE7 zE5 zE6 b23 b28 b30)=ze0 zg xf xh L zEB zEC zED zEE zEF zE9 zFa zE7 zE5 zE6 b23 b28 b30 (fun zE0 zE1=>k (V.tup [(V.agg zE0),(V.sc (.int .i64 zE1))]) []):=by kernel_rfl
def zeh {β:Type} (zg:xz) (xf:zw) (xh:yJ) (L:Nat) (k_ret:zj3 β) (k_x0:zll β):Nat→Int→Int→Bool→List (List V)→List (List V)→Int→List V→Int→Bool→List (List V)→List (List V)→List (List V)→Option β
 | 0,_,_,_,_,_,_,_,_,_,_,_,_=>none
 | n+1,p1,p2,p3,p4,p5,p14,b6,zEB,zEC,zED,zEE,zEF=>zi8 zg xf xh L p1 p2 p3 p4 p5 p14 b6 zEB zEC zED zEE zEF k_ret (fun p1 p2 p3 p4 p5 p14 b6 zEB zEC zED zEE zEF=>zeh zg xf xh L k_ret k_x0 n p1 p2 p3 p4 p5 p14 b6 zEB zEC zED zEE zEF) k_x0
theorem zkX {β:Type} (zg:xz) (xf:zw) (xh:yJ) (L:Nat) (K:KT β):∀ (n:Nat) (p1 p2:Int) (p3:Bool) (p4 p5:List (List V)) (p14:Int) (b6:List V) (zEB:Int) (zEC:Bool) (zED zEE zEF:List (List V)),xG (zn xP (zQ zg xf xh L) 0 L zdI) zf2 n (zeu p1 p2 p3 p4 p5 p14 b6 zEB zEC zED zEE zEF) K=zeh zg xf xh L (fun p13 zEB zEC zED zEE zEF=>K .ret (zif p13 zEB zEC zED zEE zEF)) (fun p1 p2 p3 p4 p5 b6 zEB zEC zED zEE zEF=>K (.exit 0) (zf6 p1 p2 p3 p4 p5 b6 zEB zEC zED zEE zEF)) n p1 p2 p3 p4 p5 p14 b6 zEB zEC zED zEE zEF:=by
 intro n
 induction n with
 | zero=>intros; rfl
 | succ n ih =>
  intro p1 p2 p3 p4 p5 p14 b6 zEB zEC zED zEE zEF
  refine (zqJ zg xf xh L p1 p2 p3 p4 p5 p14 b6 zEB zEC zED zEE zEF (fun σ=>xG (zn xP (zQ zg xf xh L) 0 L zdI) zf2 n σ K) K).trans ?_
  simp only [ih]
  rfl
def zbj {β:Type} (zg:xz) (xf:zw) (xh:yJ) (L:Nat) (k_x2:zky β):Nat→List (List V)→List (List V)→Int→Int→Bool→List (List V)→List (List V)→List (List V)→Int→Bool→List (List V)→Nat→Nat→List V→List V→List V→Option β
 | 0,_,_,_,_,_,_,_,_,_,_,_,_,_,_,_,_=>none
 | n+1,p5,p16,p17,zEB,zEC,zED,zEE,zEF,zE9,zFa,zE7,zE5,zE6,b23,b28,b30=>zdA zg xf xh L p5 p16 p17 zEB zEC zED zEE zEF zE9 zFa zE7 zE5 zE6 b23 b28 b30 (fun p5 p16 p17 zEB zEC zED zEE zEF zE9 zFa zE7 zE5 zE6 b23 b28 b30=>zbj zg xf xh L k_x2 n p5 p16 p17 zEB zEC zED zEE zEF zE9 zFa zE7 zE5 zE6 b23 b28 b30) k_x2
theorem zhN {β:Type} (zg:xz) (xf:zw) (xh:yJ) (L:Nat) (K:KT β):∀ (n:Nat) (p5 p16:List (List V)) (p17 zEB:Int) (zEC:Bool) (zED zEE zEF:List (List V)) (zE9:Int) (zFa:Bool) (zE7:List (List V)) (zE5 zE6:Nat) (b23 b28 b30:List V),xG (zn xP (zQ zg xf xh L) 0 L zbQ) zdD n (zcv p5 p16 p17 zEB zEC zED zEE zEF zE9 zFa zE7 zE5 zE6 b23 b28 b30) K=zbj zg xf xh L (fun zEB zEC zED zEE zEF zE9 zFa zE7 zE5 zE6 b23 b28 b30=>K (.exit 2) (zi2 zEB zEC zED zEE zEF zE9 zFa zE7 zE5 zE6 b23 b28 b30)) n p5 p16 p17 zEB zEC zED zEE zEF zE9 zFa zE7 zE5 zE6 b23 b28 b30:=by
 intro n
 induction n with
 | zero=>intros; rfl
 | succ n ih =>
  intro p5 p16 p17 zEB zEC zED zEE zEF zE9 zFa zE7 zE5 zE6 b23 b28 b30
  refine (znH zg xf xh L p5 p16 p17 zEB zEC zED zEE zEF zE9 zFa zE7 zE5 zE6 b23 b28 b30 (fun σ=>xG (zn xP (zQ zg xf xh L) 0 L zbQ) zdD n σ K) K).trans ?_
  simp only [ih]
  rfl
def zer {β:Type} (zg:xz) (xf:zw) (xh:yJ) (L:Nat) (p1 p2:Int) (p3:Bool) (p4 p5:List (List V)) (b6:List V) (zEB:Int) (zEC:Bool) (zED zEE zEF:List (List V)) (k_fin:List V→Int→Option β):Option β :=
 zhv zg xf xh L p1 p2 p3 p4 p5 b6 zEB zEC zED zEE zEF k_fin (fun p5 p16 p17 zEB zEC zED zEE zEF zE9 zFa zE7 zE5 zE6 b23 b28 b30=>zbj zg xf xh L (fun zEB zEC zED zEE zEF zE9 zFa zE7 zE5 zE6 b23 b28 b30=>ze0 zg xf xh L zEB zEC zED zEE zEF zE9 zFa zE7 zE5 zE6 b23 b28 b30 k_fin) L p5 p16 p17 zEB zEC zED zEE zEF zE9 zFa zE7 zE5 zE6 b23 b28 b30)
theorem zoL {β:Type} (zg:xz) (xf:zw) (xh:yJ) (L:Nat) (p1 p2:Int) (p3:Bool) (p4 p5:List (List V)) (b6:List V) (zEB:Int) (zEC:Bool) (zED zEE zEF:List (List V)) (k:KK β):(yy 0 (zM (zn xP (zQ zg xf xh L) 0 L zfy) (zO 0 (CF.res zaO) k))) (.exit 0) (zf6 p1 p2 p3 p4 p5 b6 zEB zEC zED zEE zEF)=zer zg xf xh L p1 p2 p3 p4 p5 b6 zEB zEC zED zEE zEF (fun zE0 zE1=>k (V.tup [(V.agg zE0),(V.sc (.int .i64 zE1))]) []):=by
 refine (zph zg xf xh L p1 p2 p3 p4 p5 b6 zEB zEC zED zEE zEF k).trans ?_
 unfold zer
 first
  | (simp only [zhN,zmy]; done)
  | (simp only [zhN]; rfl)
def zjH {β:Type} (zg:xz) (xf:zw) (xh:yJ) (L:Nat) (p0:List V) (p1 p2:Int) (p3:Bool) (p4 p5:List (List V)) (k_fin:List V→Int→Option β):Option β :=
 znh zg xf xh L p0 p1 p2 p3 p4 p5 (fun p1 p2 p3 p4 p5 p14 b6 zEB zEC zED zEE zEF=>zeh zg xf xh L (fun p13 zEB zEC zED zEE zEF=>zkY zg xf xh L p13 zEB zEC zED zEE zEF k_fin) (fun p1 p2 p3 p4 p5 b6 zEB zEC zED zEE zEF=>zer zg xf xh L p1 p2 p3 p4 p5 b6 zEB zEC zED zEE zEF k_fin) L p1 p2 p3 p4 p5 p14 b6 zEB zEC zED zEE zEF)
theorem zuk {β:Type} (zg:xz) (xf:zw) (xh:yJ) (L:Nat) (p0:List V) (p1 p2:Int) (p3:Bool) (p4 p5:List (List V)) (k:KK β):zK xP (zQ zg xf xh L) L zaO [(V.agg p0),(V.sc (.int .u32 p1)),(V.sc (.int .u32 p2)),(V.sc (.bool p3)),(V.sl 1 p4),(V.sl 1 p5)] [] k=zjH zg xf xh L p0 p1 p2 p3 p4 p5 (fun zE0 zE1=>k (V.tup [(V.agg zE0),(V.sc (.int .i64 zE1))]) []):=by
 refine (ztU zg xf xh L p0 p1 p2 p3 p4 p5 k).trans ?_
 unfold zjH
 first
  | (simp only [zkX,zoI,zoL]; done)
  | (simp only [zkX]; rfl)
abbrev yt:=∀ (β:Type),Nat→List V→Int→Int→Bool→List (List V)→List (List V)→(List V→Int→Option β)→Option β
def ze (β:Type) (L:Nat) (p0:List V) (p1 p2:Int) (p3:Bool) (p4 p5:List (List V)) (k_fin:List V→Int→Option β):Option β:=zjH zg xf xh L p0 p1 p2 p3 p4 p5 k_fin
def zjI (ze:yt) (L:Nat) (β:Type) (args:List V) (bor:Bor) (k:KK β):Option β:=match args,bor with
 | [a0,a1,a2,a3,a4,a5],[]=>aG a0 fun p0=>aI .u32 a1 fun p1=>aI .u32 a2 fun p2=>aB a3 fun p3=>aL 1 a4 fun p4=>aL 1 a5 fun p5=>ze β L p0 p1 p2 p3 p4 p5 (fun zE0 zE1=>k (V.tup [(V.agg zE0),(V.sc (.int .i64 zE1))]) [])
 | _,_=>none
theorem zuo (L:Nat) (β:Type) (args:List V) (bor:Bor) (k:KK β) (r:β) (h:zjI ze L β args bor k=some r):zK xP (zQ zg xf xh L) L zaO args bor k=some r:=by
 unfold zjI at h
 split at h
 ·have q:=zfq h; clear h; obtain ⟨p0,rfl,h⟩:=q
  have q:=zaG h; clear h; obtain ⟨p1,rfl,h⟩:=q
  have q:=zaG h; clear h; obtain ⟨p2,rfl,h⟩:=q
  have q:=zmK h; clear h; obtain ⟨p3,rfl,h⟩:=q
  have q:=zaZ h; clear h; obtain ⟨p4,rfl,h⟩:=q
  have q:=zaZ h; clear h; obtain ⟨p5,rfl,h⟩:=q
  exact (zuk zg xf xh L p0 p1 p2 p3 p4 p5 k).trans h
 ·cases h
def yX:CC:=(.seq (.reg [oo 78 (.bin .lss (tq 77) (tq 76))])
 (.seq (.cond (tq 78)
 .skip
 (.seq (.mask (bl 1033017668127738036350 130) (bl 1361129303203922079171984170046661066751 130))
 (.exit 4)))
 (.seq (.block 5 (.seq (.reg [oo 79 (.indexAddrS 1 (tq 75) (tq 77)),
   oo 80 (.load false 1 (tq 79) false),
   oo 26 (.move (tq 80) false)])
 (.seq (.reg [oo 82 (.load true 5 (tq 24) false),
   oo 83 (.move (tq 1) false),
   oo 84 (.move (tq 2) false),
   oo 85 (.move (tq 3) false),
   oo 86 (.move (tq 26) false),
   oo 87 (.move (tq 5) false),
   oo 88 (.call 341 [((tq 82),1),((tq 83),0),((tq 84),0),((tq 85),0),((tq 86),0),((tq 87),0)] []),
   oo 81 (.move (tq 88) true),
   oo 89 (.pull (tq 81) 0),
   oo 90 (.pull (tq 81) 1),
   oo 27 (.alloc true [(.sc (.int .u32 0)),(.sc (.bool false)),(.gs 1 []),(.gs 35 []),(.gs 32 [])]),
   oz (.store 5 (tq 27) (tq 89)),
   oo 28 (.move (tq 90) false)])
 (.seq (.reg [oo 92 (.load true 5 (tq 24) false),
   oo 93 (.move (tq 1) false),
   oo 94 (.move (tq 2) false),
   oo 95 (.move (tq 3) false),
   oo 96 (.move (tq 26) false),
   oo 97 (.move (tq 5) false),
   oo 98 (.call 342 [((tq 92),1),((tq 93),0),((tq 94),0),((tq 95),0),((tq 96),0),((tq 97),0)] []),
   oo 91 (.move (tq 98) true),
   oo 99 (.pull (tq 91) 0),
   oo 100 (.pull (tq 91) 1),
   oo 29 (.alloc true [(.sc (.int .u32 0)),(.sc (.bool false)),(.gs 1 []),(.gs 35 []),(.gs 32 [])]),
   oz (.store 5 (tq 29) (tq 99)),
   oo 30 (.move (tq 100) false)])
 (.seq (.reg [oo 101 (.move (tq 28) false),
   oo 102 (.move (tq 30) false),
   oo 103 (.bin .neq (tq 101) (tq 102)),
   oo 104 (.move (tq 103) false),
   ⟨(some 105),false,(some (104,false)),.load true 5 (tq 27) false⟩,
   ⟨(some 106),false,(some (104,false)),.load true 5 (tq 29) false⟩,
   ⟨(some 107),false,(some (104,false)),.call 343 [((tq 105),1),((tq 106),1)] []⟩,
   ⟨(some 108),false,(some (104,false)),.un .not (tq 107)⟩,
   oo 109 (.pick (tq 104) (.const (.sc (.bool true))) (tq 108))])
 (.cond (tq 109)
 (.seq (.reg [oo 18 (.move (.const (.sc (.bool false))) false)])
 (.seq (.mask (bl 262144 130) (bl 1361129303203921965835188581175175151615 130))
 .ret))
 .skip))))))
 (.reg [oo 110 (.bin .add (tq 77) (.const (.sc (.int .i64 1)))),
   oo 77 (.move (tq 110) false)]))))
def zaV:CC:=(.reg [oo 111 (.bin .add (tq 69) (.const (.sc (.int .i64 1)))),
   oo 69 (.move (tq 111) false)])
def zas:CC:=(.seq (.reg [oo 119 (.bin .lss (tq 118) (tq 117))])
 (.seq (.cond (tq 119)
 .skip
 (.seq (.mask (bl 0 130) (bl 1169720636290725968155350213041719083007 130))
 (.exit 6)))
 (.seq (.block 7 (.seq (.reg [oo 120 (.indexAddrS 1 (tq 116) (tq 118)),
   oo 121 (.load false 1 (tq 120) false),
   oo 32 (.move (tq 121) false)])
 (.seq (.dreg [] [(oo 122 (.load true 5 (tq 20) false),ql 20 [] []),
   (oo 123 (.move (tq 32) false),q0),
   (oo 124 (.call 344 [((tq 122),1),((tq 123),0)] []),qc [20] []),
   (oo 125 (.load true 5 (tq 20) false),ql 20 [] []),
   (oo 126 (.move (tq 32) false),q0),
   (oo 127 (.call 345 [((tq 125),1),((tq 126),0)] []),q0),
   (oo 128 (.bin .neq (tq 124) (tq 127)),q0)])
 (.cond (tq 128)
 (.seq (.reg [oo 18 (.move (.const (.sc (.bool false))) false)])
 (.seq (.mask (bl 262144 130) (bl 1169720636290725968155350213041719345151 130))
 .ret))
 .skip))))
 (.reg [oo 129 (.bin .add (tq 118) (.const (.sc (.int .i64 1)))),
   oo 118 (.move (tq 129) false)]))))
def z6:CC:=(.seq (.reg [oo 70 (.bin .lss (tq 69) (tq 68))])
 (.seq (.cond (tq 70)
 .skip
 (.seq (.mask (bl 1048640 130) (bl 1361129303203921965835188581175175938047 130))
 (.exit 2)))
 (.seq (.block 3 (.seq (.reg [oo 71 (.indexAddrS 5 (tq 67) (tq 69)),
   oo 72 (.load true 5 (tq 71) false),
   oo 24 (.alloc true [(.sc (.int .u32 0)),(.sc (.bool false)),(.gs 1 []),(.gs 35 []),(.gs 32 [])]),
   oz (.store 5 (tq 24) (tq 72))])
 (.seq (.reg [oo 73 (.move (tq 21) false),
   oo 74 (.move (tq 4) false),
   oo 75 (.buildSlice 1 2 [(.sl 1 [])] [(0,1,(tq 73)),(1,1,(tq 74))]),
   oo 76 (.lenS (tq 75)),
   oo 77 (.move (.const (.sc (.int .i64 0))) false)])
 (.block 4 (.loop (bl 265485540708827886780542 130) (bl 1361129303203922079171984170046677843967 130)
 yX)))))
 zaV)))
def zaF:CC:=(.seq (.seq (.reg [oo 49 (.move (tq 22) false),
   oo 50 (.bin .gtr (tq 49) (.const (.sc (.int .i64 0))))])
 (.cond (tq 50)
 .skip
 (.seq (.mask (bl 3146238 130) (bl 1361129467683753853849715406039389569023 130))
 (.exit 0))))
 (.seq (.block 1 (.reg [oo 53 (.move (tq 21) true),
   oo 54 (.move (tq 21) false),
   oo 55 (.lenS (tq 54)),
   oo 56 (.bin .mul (.const (.sc (.int .i64 3))) (tq 55)),
   oo 57 (.move (tq 19) false),
   oo 58 (.call 231 [((tq 57),0),((.const (.sc (.int .i64 3))),0)] []),
   oo 59 (.bin .add (tq 56) (tq 58)),
   oo 60 (.buildSlice 1 1 [(.sc (.int .i64 0))] [(0,1,(tq 59))]),
   oo 61 (.append 1 8 (tq 53) (tq 60)),
   oo 21 (.move (tq 61) true)]))
 (.reg [oo 51 (.move (tq 22) false),
   oo 52 (.bin .sub (tq 51) (.const (.sc (.int .i64 1)))),
   oo 22 (.move (tq 52) false)])))
def zbH:CC:=(.seq (.reg [oo 18 (.move (.const (.sc (.bool true))) false)])
 .ret)
def za1:CC:=(.seq (.seq (.reg [oo 112 (.move (tq 6) false),
   oo 113 (.move (tq 6) false),
   oo 114 (.call 217 [((tq 113),0),((.const (.sc (.int .i64 9))),0)] []),
   oo 115 (.bin .sub (tq 114) (.const (.sc (.int .i64 1)))),
   oo 116 (.buildSlice 1 2 [(.sc (.int .i64 0))] [(0,1,(tq 112)),(1,1,(tq 115))]),
   oo 117 (.lenS (tq 116)),
   oo 118 (.move (.const (.sc (.int .i64 0))) false)])
 (.block 6 (.loop (bl 581537248155900694395415588873699328 130) (bl 1169720636290725968155350213041720131583 130)
 zas)))
 zbH)
def zcj:CC:=(.seq (.seq (.dreg [] [(oo 62 (.load true 5 (tq 20) false),ql 20 [] []),
   (oo 63 (.load true 5 (tq 20) false),ql 20 [] []),
   (oo 64 (.move (tq 7) false),q0),
   (oo 65 (.move (tq 8) false),q0),
   (oo 66 (.call 340 [((tq 63),1),((tq 64),0),((tq 65),0)] []),qc [20] []),
   (oo 67 (.buildSlice 5 2 [(.sc (.int .u32 0)),(.sc (.bool false)),(.sl 1 []),(.sl 35 []),(.sl 32 [])] [(0,5,(tq 62)),(5,5,(tq 66))]),q0),
   (oo 68 (.lenS (tq 67)),q0),
   (oo 69 (.move (.const (.sc (.int .i64 0))) false),q0)])
 (.block 2 (.loop (bl 1033017668127738036350 130) (bl 1361129303203921965835188581175175938047 130)
 z6)))
 za1)
def yK:CF:=⟨130,[.tmp 18],
 (.seq (.reg [oo 18 (.move (.const (.sc (.bool false))) false)])
 (.seq (.seq (.reg [oo 33 (.call 332 [] []),
   oo 34 (.un .not (tq 33))])
 (.cond (tq 34)
 (.seq (.reg [oo 18 (.move (.const (.sc (.bool false))) false)])
 .ret)
 .skip))
 (.seq (.seq (.reg [oo 35 (.move (tq 4) false),
   oo 36 (.lenS (tq 35)),
   oo 37 (.bin .gtr (tq 36) (.const (.sc (.int .i64 60)))),
   oo 38 (.move (tq 37) false),
   ⟨(some 39),false,(some (38,false)),.move (tq 5) false⟩,
   ⟨(some 40),false,(some (38,false)),.lenS (tq 39)⟩,
   ⟨(some 41),false,(some (38,false)),.bin .gtr (tq 40) (.const (.sc (.int .i64 10)))⟩,
   oo 42 (.pick (tq 38) (.const (.sc (.bool true))) (tq 41))])
 (.cond (tq 42)
 (.seq (.reg [oo 18 (.move (.const (.sc (.bool true))) false)])
 .ret)
 .skip))
 (.seq (.reg [oo 43 (.move (tq 0) false),
   oo 44 (.call 225 [((tq 43),0)] []),
   oo 19 (.move (tq 44) false)])
 (.seq (.reg [oo 45 (.move (tq 19) false),
   oo 46 (.call 339 [((tq 45),0)] []),
   oo 20 (.alloc true [(.sc (.int .u32 0)),(.sc (.bool false)),(.gs 1 []),(.gs 35 []),(.gs 32 [])]),
   oz (.store 5 (tq 20) (tq 46))])
 (.seq (.reg [oo 21 (.move (.const (.gs 1 [])) true)])
 (.seq (.seq (.reg [oo 47 (.move (tq 19) false),
   oo 48 (.call 231 [((tq 47),0),((.const (.sc (.int .i64 6))),0)] []),
   oo 22 (.move (tq 48) false)])
 (.block 0 (.loop (bl 7864830 130) (bl 1361129467683753853849715406039393763327 130)
 zaF)))
 zcj)))))))⟩
def zjA:Hint:=⟨[(6,2),(7,0),(11,0),(11,9),(14,2),(18,7),(18,10),(19,7),(19,10)],[],[none,none,none,none,none,some ((bl 7864830 130),(bl 1361129467683753853849715406039393763327 130)),none,some ((bl 3146238 130),(bl 1361129467683753853849715406039389569023 130)),none,none,some ((bl 1033017668127738036350 130),(bl 1361129303203921965835188581175175938047 130)),none,some ((bl 1048640 130),(bl 1361129303203921965835188581175175938047 130)),none,none,some ((bl 265485540708827886780542 130),(bl 1361129303203922079171984170046677843967 130)),none,some ((bl 1033017668127738036350 130),(bl 1361129303203922079171984170046661066751 130)),none,none,some ((bl 262144 130),(bl 1361129303203921965835188581175175151615 130)),none,some ((bl 581537248155900694395415588873699328 130),(bl 1169720636290725968155350213041720131583 130)),none,some ((bl 0 130),(bl 1169720636290725968155350213041719083007 130)),none,none,some ((bl 262144 130),(bl 1169720636290725968155350213041719345151 130)),none],[],[],false,false⟩
def zo:Nat→Sh:=xZ [(80,(.sl 1)),(121,(.int .i64))]
def yo (ya:yh) (xb:xj) (yb:yk) (za:xg) (xa:xi) (yc:zm) (ye:xt) (ze:yt) (zb:xk) (yd:zr) (xd:xq) (L:Nat):CBC:=(xB 345 (zhi xd L) (xB 344 (zhh yd L) (xB 343 (zgg zb L) (xB 342 (zjI ze L) (xB 341 (zjJ ye L) (xB 217 (zfx yc L) (xB 340 (zfp xa L) (xB 231 (zdo za L) (xB 339 (zgs yb L) (xB 225 (zg7 xb L) (xB 332 (zeO ya L) noC)))))))))))
def zbM:St→St:=yT 0 (bl 7864830 130) (bl 1361129467683753853849715406039393763327 130)
def zR:St→St:=yT 0 (bl 1033017668127738036350 130) (bl 1361129303203921965835188581175175938047 130)
def zau:St→St:=yT 0 (bl 265485540708827886780542 130) (bl 1361129303203922079171984170046677843967 130)
def zbs:St→St:=yT 0 (bl 581537248155900694395415588873699328 130) (bl 1169720636290725968155350213041720131583 130)
def zbh (p1 p2:Int) (p3:Bool) (p4 p5:List (List V)) (p6 p7 p8:Int) (p21:List (List V)) (p22:Int) (b20:List V) (zEz:List (List V)) (zEA:Int):St:=⟨(jn 1 ((V.sc (.int .u32 p1))::((V.sc (.int .u32 p2))::((V.sc (.bool p3))::((V.sl 1 p4)::((V.sl 1 p5)::((V.sc (.int .i64 p6))::((V.sc (.int .i64 p7))::((V.sc (.int .i64 p8))::(jn 10 ((V.ptr 44 0)::((V.ptr 20 0)::((V.gs 1 p21)::((V.sc (.int .i64 p22))::(jn 107 []))))))))))))))),(gn 20 ((.live true b20)::(gn 23 ((.live false [(V.sl 1 zEz),(V.sc (.int .i64 zEA))])::(gn 85 [])))))⟩
def zde (p1 p2:Int) (p3:Bool) (p4 p5:List (List V)) (p6 p7 p8:Int) (p21:List (List V)) (b20:List V) (zEz:List (List V)) (zEA:Int):St:=⟨(jn 1 ((V.sc (.int .u32 p1))::((V.sc (.int .u32 p2))::((V.sc (.bool p3))::((V.sl 1 p4)::((V.sl 1 p5)::((V.sc (.int .i64 p6))::((V.sc (.int .i64 p7))::((V.sc (.int .i64 p8))::(jn 11 ((V.ptr 20 0)::((V.gs 1 p21)::(jn 108 []))))))))))))),(gn 20 ((.live true b20)::(gn 23 ((.live false [(V.sl 1 zEz),(V.sc (.int .i64 zEA))])::(gn 85 [])))))⟩
def zY (p1 p2:Int) (p3:Bool) (p4 p5:List (List V)) (p6:Int) (p21 p67:List (List V)) (p68 p69:Int) (b20:List V) (zEz:List (List V)) (zEA:Int):St:=⟨(jn 1 ((V.sc (.int .u32 p1))::((V.sc (.int .u32 p2))::((V.sc (.bool p3))::((V.sl 1 p4)::((V.sl 1 p5)::((V.sc (.int .i64 p6))::(jn 13 ((V.ptr 20 0)::((V.gs 1 p21)::(jn 45 ((V.gs 5 p67)::((V.sc (.int .i64 p68))::((V.sc (.int .i64 p69))::(jn 60 []))))))))))))))),(gn 20 ((.live true b20)::(gn 23 ((.live false [(V.sl 1 zEz),(V.sc (.int .i64 zEA))])::(gn 85 [])))))⟩
def zaa (p1 p2:Int) (p3:Bool) (p4 p5:List (List V)) (p6:Int) (p21 p67:List (List V)) (p68 p69:Int) (p75:List (List V)) (p76 p77:Int) (b20 b24:List V) (zEz:List (List V)) (zEA:Int):St:=⟨(jn 1 ((V.sc (.int .u32 p1))::((V.sc (.int .u32 p2))::((V.sc (.bool p3))::((V.sl 1 p4)::((V.sl 1 p5)::((V.sc (.int .i64 p6))::(jn 13 ((V.ptr 20 0)::((V.gs 1 p21)::(jn 2 ((V.ptr 24 0)::(jn 42 ((V.gs 5 p67)::((V.sc (.int .i64 p68))::((V.sc (.int .i64 p69))::(jn 5 ((V.gs 1 p75)::((V.sc (.int .i64 p76))::((V.sc (.int .i64 p77))::(jn 52 []))))))))))))))))))))),(gn 20 ((.live true b20)::(gn 3 ((.live true b24)::(gn 19 ((.live false [(V.sl 1 zEz),(V.sc (.int .i64 zEA))])::(gn 85 [])))))))⟩
def zbR (p6:Int) (b20:List V) (zEz:List (List V)) (zEA:Int):St:=⟨(jn 6 ((V.sc (.int .i64 p6))::(jn 13 ((V.ptr 20 0)::(jn 109 []))))),(gn 20 ((.live true b20)::(gn 23 ((.live false [(V.sl 1 zEz),(V.sc (.int .i64 zEA))])::(gn 85 [])))))⟩
def zaS (zFd:List (List V)) (zFe zFc:Int) (b20:List V) (zEz:List (List V)) (zEA:Int):St:=⟨(jn 20 ((V.ptr 20 0)::(jn 95 ((V.gs 1 zFd)::((V.sc (.int .i64 zFe))::((V.sc (.int .i64 zFc))::(jn 11 []))))))),(gn 20 ((.live true b20)::(gn 23 ((.live false [(V.sl 1 zEz),(V.sc (.int .i64 zEA))])::(gn 85 [])))))⟩
def xQ (p18:Bool) (zEz:List (List V)) (zEA:Int):St:=⟨(jn 18 ((V.sc (.bool p18))::(jn 111 []))),(gn 44 ((.live false [(V.sl 1 zEz),(V.sc (.int .i64 zEA))])::(gn 85 [])))⟩
def zfm (p1 p2:Int) (p3:Bool) (p4 p5:List (List V)) (p6:Int) (p21 p67:List (List V)) (p68 p69:Int) (b20:List V) (zEz:List (List V)) (zEA:Int):St:=⟨(jn 1 ((V.sc (.int .u32 p1))::((V.sc (.int .u32 p2))::((V.sc (.bool p3))::((V.sl 1 p4)::((V.sl 1 p5)::((V.sc (.int .i64 p6))::(jn 13 ((V.ptr 20 0)::((V.gs 1 p21)::(jn 45 ((V.gs 5 p67)::((V.sc (.int .i64 p68))::((V.sc (.int .i64 p69))::(jn 60 []))))))))))))))),(gn 20 ((.live true b20)::(gn 23 ((.live false [(V.sl 1 zEz),(V.sc (.int .i64 zEA))])::(gn 85 [])))))⟩
def zfi (zEz:List (List V)) (zEA:Int):St:=⟨(jn 130 []),(gn 44 ((.live false [(V.sl 1 zEz),(V.sc (.int .i64 zEA))])::(gn 85 [])))⟩
abbrev zfS (β:Type):Type:=Int→Int→Bool→List (List V)→List (List V)→Int→Int→Int→List (List V)→Int→List V→List (List V)→Int→Option β
abbrev zgn (β:Type):Type:=Int→Int→Bool→List (List V)→List (List V)→Int→Int→Int→List (List V)→List V→List (List V)→Int→Option β
abbrev zcT (β:Type):Type:=Int→Int→Bool→List (List V)→List (List V)→Int→List (List V)→List (List V)→Int→Int→List V→List (List V)→Int→Option β
abbrev zdl (β:Type):Type:=Int→Int→Bool→List (List V)→List (List V)→Int→List (List V)→List (List V)→Int→Int→List (List V)→Int→Int→List V→List V→List (List V)→Int→Option β
abbrev zfd (β:Type):Type:=List (List V)→Int→Int→List V→List (List V)→Int→Option β
abbrev zgd (β:Type):Type:=Int→Int→Bool→List (List V)→List (List V)→Int→List (List V)→List (List V)→Int→Int→List V→List (List V)→Int→Option β
def zhy {β:Type} (ya:yh) (xb:xj) (yb:yk) (za:xg) (xa:xi) (yc:zm) (ye:xt) (ze:yt) (zb:xk) (yd:zr) (xd:xq) (L:Nat) (p0:List (List V)) (p1 p2:Int) (p3:Bool) (p4 p5:List (List V)) (p6 p7 p8:Int) (k_fin:Bool→Option β) (k_hbbbbbbaba:zfS β):Option β :=
 ya β L  (fun v0 =>
 ifb (!v0) (
 k_fin false) (
 ifb (decide (((List.length p4:Nat):Int) > (60:Int))) (
 k_fin true) (
 ifb (decide (((List.length p5:Nat):Int) > (10:Int))) (
 k_fin true) (
 xb β L p0 (fun v1 v2 =>
 yb β L v1 v2 (fun v3 v4 v5 =>
 chk ((List.length v3)=5∧0+5≤5) (
 lt (zc [(V.sc (.int .u32 (0:Int))),(V.sc (.bool false)),(V.gs 1 ([]:List (List V))),(V.gs 35 ([]:List (List V))),(V.gs 32 ([]:List (List V)))] 0 v3) fun r6 =>
 za β L (6:Int) v4 v5 (fun v7 v8 v9 =>
 k_hbbbbbbaba p1 p2 p3 p4 p5 p6 p7 p8 ([]:List (List V)) v7 r6 v8 v9))))))))
theorem zpu {β:Type} (ya:yh) (xb:xj) (yb:yk) (za:xg) (xa:xi) (yc:zm) (ye:xt) (ze:yt) (zb:xk) (yd:zr) (xd:xq) (L:Nat) (p0:List (List V)) (p1 p2:Int) (p3:Bool) (p4 p5:List (List V)) (p6 p7 p8:Int) (k:KK β):zK zo (yo ya xb yb za xa yc ye ze zb yd xd L) L yK [(V.sl 1 p0),(V.sc (.int .u32 p1)),(V.sc (.int .u32 p2)),(V.sc (.bool p3)),(V.sl 1 p4),(V.sl 1 p5),(V.sc (.int .i64 p6)),(V.sc (.int .i64 p7)),(V.sc (.int .i64 p8))] [] k=zhy ya xb yb za xa yc ye ze zb yd xd L p0 p1 p2 p3 p4 p5 p6 p7 p8 (fun p0=>k (V.sc (.bool p0)) []) (fun p1 p2 p3 p4 p5 p6 p7 p8 p21 p22 b20 zEz zEA=>xG (zn zo (yo ya xb yb za xa yc ye ze zb yd xd L) 0 L zaF) zbM L (zbh p1 p2 p3 p4 p5 p6 p7 p8 p21 p22 b20 zEz zEA) (yy 0 (zM (zn zo (yo ya xb yb za xa yc ye ze zb yd xd L) 0 L zcj) (zO 0 (CF.res yK) k)))):=by kernel_rfl
def zbK {β:Type} (ya:yh) (xb:xj) (yb:yk) (za:xg) (xa:xi) (yc:zm) (ye:xt) (ze:yt) (zb:xk) (yd:zr) (xd:xq) (L:Nat) (p1 p2:Int) (p3:Bool) (p4 p5:List (List V)) (p6 p7 p8:Int) (p21:List (List V)) (p22:Int) (b20:List V) (zEz:List (List V)) (zEA:Int) (k_hbbbbbbaba:zfS β) (k_x0:zgn β):Option β :=
 ifb (decide (p22 > (0:Int))) (
 lt (IntKind.wrap .i64 (((3:Int):Int) * ((List.length p21:Nat):Int))) fun x10 =>
 za β L (3:Int) zEz zEA (fun v11 v12 v13 =>
 lt (IntKind.wrap .i64 ((x10:Int)+v11)) fun x14 =>
 chk ((List.length p21+List.length (xc 1 1 [(V.sc (.int .i64 x14))])) * 8≤zj∧List.length p21+List.length (xc 1 1 [(V.sc (.int .i64 x14))])≤zj) (
 lt (p21++(xc 1 1 [(V.sc (.int .i64 x14))])) fun l15 =>
 lt (IntKind.wrap .i64 ((p22:Int) - (1:Int))) fun x16 =>
 k_hbbbbbbaba p1 p2 p3 p4 p5 p6 p7 p8 l15 x16 b20 v12 v13))) (
 k_x0 p1 p2 p3 p4 p5 p6 p7 p8 p21 b20 zEz zEA)
theorem zks {β:Type} (ya:yh) (xb:xj) (yb:yk) (za:xg) (xa:xi) (yc:zm) (ye:xt) (ze:yt) (zb:xk) (yd:zr) (xd:xq) (L:Nat) (p1 p2:Int) (p3:Bool) (p4 p5:List (List V)) (p6 p7 p8:Int) (p21:List (List V)) (p22:Int) (b20:List V) (zEz:List (List V)) (zEA:Int) (X:St→Option β) (K:KT β):zn zo (yo ya xb yb za xa yc ye ze zb yd xd L) 0 L zaF (zbh p1 p2 p3 p4 p5 p6 p7 p8 p21 p22 b20 zEz zEA) (zbw zbM X K)=zbK ya xb yb za xa yc ye ze zb yd xd L p1 p2 p3 p4 p5 p6 p7 p8 p21 p22 b20 zEz zEA (fun p1 p2 p3 p4 p5 p6 p7 p8 p21 p22 b20 zEz zEA=>X (zbh p1 p2 p3 p4 p5 p6 p7 p8 p21 p22 b20 zEz zEA)) (fun p1 p2 p3 p4 p5 p6 p7 p8 p21 b20 zEz zEA=>K (.exit 0) (zde p1 p2 p3 p4 p5 p6 p7 p8 p21 b20 zEz zEA)):=by kernel_rfl
def zcH {β:Type} (ya:yh) (xb:xj) (yb:yk) (za:xg) (xa:xi) (yc:zm) (ye:xt) (ze:yt) (zb:xk) (yd:zr) (xd:xq) (L:Nat) (p1 p2:Int) (p3:Bool) (p4 p5:List (List V)) (p6 p7 p8:Int) (p21:List (List V)) (b20:List V) (zEz:List (List V)) (zEA:Int) (k_hbbbbbbbaba:zcT β):Option β :=
 chk (0+5≤(List.length b20)) (
 chk (0+5≤(List.length b20)) (
 xa β L (List.map V.dem (List.take 5 b20)) p7 p8 (fun v17 =>
 chk ((List.length (List.take 5 b20))=5∧0+5≤10) (
 chk ((List.length v17)=5∧5+5≤(List.length (zc [(V.sc (.int .u32 (0:Int))),(V.sc (.bool false)),(V.sl 1 ([]:List (List V))),(V.sl 35 ([]:List (List V))),(V.sl 32 ([]:List (List V))),(V.sc (.int .u32 (0:Int))),(V.sc (.bool false)),(V.sl 1 ([]:List (List V))),(V.sl 35 ([]:List (List V))),(V.sl 32 ([]:List (List V)))] 0 (List.take 5 b20)))) (
 k_hbbbbbbbaba p1 p2 p3 p4 p5 p6 p21 (xc 5 2 (zc (zc [(V.sc (.int .u32 (0:Int))),(V.sc (.bool false)),(V.sl 1 ([]:List (List V))),(V.sl 35 ([]:List (List V))),(V.sl 32 ([]:List (List V))),(V.sc (.int .u32 (0:Int))),(V.sc (.bool false)),(V.sl 1 ([]:List (List V))),(V.sl 35 ([]:List (List V))),(V.sl 32 ([]:List (List V)))] 0 (List.take 5 b20)) 5 v17)) ((List.length (xc 5 2 (zc (zc [(V.sc (.int .u32 (0:Int))),(V.sc (.bool false)),(V.sl 1 ([]:List (List V))),(V.sl 35 ([]:List (List V))),(V.sl 32 ([]:List (List V))),(V.sc (.int .u32 (0:Int))),(V.sc (.bool false)),(V.sl 1 ([]:List (List V))),(V.sl 35 ([]:List (List V))),(V.sl 32 ([]:List (List V)))] 0 (List.take 5 b20)) 5 v17)):Nat):Int) (0:Int) b20 zEz zEA)))))
theorem zjy {β:Type} (ya:yh) (xb:xj) (yb:yk) (za:xg) (xa:xi) (yc:zm) (ye:xt) (ze:yt) (zb:xk) (yd:zr) (xd:xq) (L:Nat) (p1 p2:Int) (p3:Bool) (p4 p5:List (List V)) (p6 p7 p8:Int) (p21:List (List V)) (b20:List V) (zEz:List (List V)) (zEA:Int) (k:KK β):(yy 0 (zM (zn zo (yo ya xb yb za xa yc ye ze zb yd xd L) 0 L zcj) (zO 0 (CF.res yK) k))) (.exit 0) (zde p1 p2 p3 p4 p5 p6 p7 p8 p21 b20 zEz zEA)=zcH ya xb yb za xa yc ye ze zb yd xd L p1 p2 p3 p4 p5 p6 p7 p8 p21 b20 zEz zEA (fun p1 p2 p3 p4 p5 p6 p21 p67 p68 p69 b20 zEz zEA=>xG (zn zo (yo ya xb yb za xa yc ye ze zb yd xd L) 0 L z6) zR L (zY p1 p2 p3 p4 p5 p6 p21 p67 p68 p69 b20 zEz zEA) (yy 2 (zM (zn zo (yo ya xb yb za xa yc ye ze zb yd xd L) 0 L za1) (zO 0 (CF.res yK) k)))):=by kernel_rfl
def zc8 {β:Type} (ya:yh) (xb:xj) (yb:yk) (za:xg) (xa:xi) (yc:zm) (ye:xt) (ze:yt) (zb:xk) (yd:zr) (xd:xq) (L:Nat) (p1 p2:Int) (p3:Bool) (p4 p5:List (List V)) (p6:Int) (p21 p67:List (List V)) (p68 p69:Int) (b20:List V) (zEz:List (List V)) (zEA:Int) (k_hbbbbbbbabaabbaabba:zdl β) (k_x2:Int→List V→List (List V)→Int→Option β):Option β :=
 ifb (decide (p69 < p68)) (
 idx p67 p69 fun c18 =>
 chk ((List.length (List.take 5 c18))=5∧0+5≤5) (
 lt (zc [(V.sc (.int .u32 (0:Int))),(V.sc (.bool false)),(V.gs 1 ([]:List (List V))),(V.gs 35 ([]:List (List V))),(V.gs 32 ([]:List (List V)))] 0 (List.take 5 c18)) fun r19 =>
 k_hbbbbbbbabaabbaabba p1 p2 p3 p4 p5 p6 p21 p67 p68 p69 (xc 1 2 [(V.sl 1 p21),(V.sl 1 p4)]) ((List.length (xc 1 2 [(V.sl 1 p21),(V.sl 1 p4)]):Nat):Int) (0:Int) b20 r19 zEz zEA)) (
 k_x2 p6 b20 zEz zEA)
theorem zj9 {β:Type} (ya:yh) (xb:xj) (yb:yk) (za:xg) (xa:xi) (yc:zm) (ye:xt) (ze:yt) (zb:xk) (yd:zr) (xd:xq) (L:Nat) (p1 p2:Int) (p3:Bool) (p4 p5:List (List V)) (p6:Int) (p21 p67:List (List V)) (p68 p69:Int) (b20:List V) (zEz:List (List V)) (zEA:Int) (X:St→Option β) (K:KT β):zn zo (yo ya xb yb za xa yc ye ze zb yd xd L) 0 L z6 (zY p1 p2 p3 p4 p5 p6 p21 p67 p68 p69 b20 zEz zEA) (zbw zR X K)=zc8 ya xb yb za xa yc ye ze zb yd xd L p1 p2 p3 p4 p5 p6 p21 p67 p68 p69 b20 zEz zEA (fun p1 p2 p3 p4 p5 p6 p21 p67 p68 p69 p75 p76 p77 b20 b24 zEz zEA=>xG (zn zo (yo ya xb yb za xa yc ye ze zb yd xd L) 0 L yX) zau L (zaa p1 p2 p3 p4 p5 p6 p21 p67 p68 p69 p75 p76 p77 b20 b24 zEz zEA) (yy 4 (yy 3 (zM (zn zo (yo ya xb yb za xa yc ye ze zb yd xd L) 0 L zaV) (zbw zR X K))))) (fun p6 b20 zEz zEA=>K (.exit 2) (zbR p6 b20 zEz zEA)):=by kernel_rfl
def zcy {β:Type} (ya:yh) (xb:xj) (yb:yk) (za:xg) (xa:xi) (yc:zm) (ye:xt) (ze:yt) (zb:xk) (yd:zr) (xd:xq) (L:Nat) (p6:Int) (b20:List V) (zEz:List (List V)) (zEA:Int) (k_hbbbbbbbbaba:zfd β):Option β :=
 yc β L p6 (9:Int) (fun v20 =>
 lt (IntKind.wrap .i64 ((v20:Int) - (1:Int))) fun x21 =>
 k_hbbbbbbbbaba (xc 1 2 [(V.sc (.int .i64 p6)),(V.sc (.int .i64 x21))]) ((List.length (xc 1 2 [(V.sc (.int .i64 p6)),(V.sc (.int .i64 x21))]):Nat):Int) (0:Int) b20 zEz zEA)
theorem ziW {β:Type} (ya:yh) (xb:xj) (yb:yk) (za:xg) (xa:xi) (yc:zm) (ye:xt) (ze:yt) (zb:xk) (yd:zr) (xd:xq) (L:Nat) (p6:Int) (b20:List V) (zEz:List (List V)) (zEA:Int) (k:KK β):(yy 2 (zM (zn zo (yo ya xb yb za xa yc ye ze zb yd xd L) 0 L za1) (zO 0 (CF.res yK) k))) (.exit 2) (zbR p6 b20 zEz zEA)=zcy ya xb yb za xa yc ye ze zb yd xd L p6 b20 zEz zEA (fun zFd zFe zFc b20 zEz zEA=>xG (zn zo (yo ya xb yb za xa yc ye ze zb yd xd L) 0 L zas) zbs L (zaS zFd zFe zFc b20 zEz zEA) (yy 6 (zM (zn zo (yo ya xb yb za xa yc ye ze zb yd xd L) 0 L zbH) (zO 0 (CF.res yK) k)))):=by kernel_rfl
def zbt {β:Type} (ya:yh) (xb:xj) (yb:yk) (za:xg) (xa:xi) (yc:zm) (ye:xt) (ze:yt) (zb:xk) (yd:zr) (xd:xq) (L:Nat) (p1 p2:Int) (p3:Bool) (p4 p5:List (List V)) (p6:Int) (p21 p67:List (List V)) (p68 p69:Int) (p75:List (List V)) (p76 p77:Int) (b20 b24:List V) (zEz:List (List V)) (zEA:Int) (k_ret:Bool→List (List V)→Int→Option β) (k_hbbbbbbbabaabbaabba:zdl β) (k_x4:zgd β):Option β :=
 ifb (decide (p77 < p76)) (
 idx p75 p77 fun c22 =>
 cL 1 c22 0 fun v23 =>
 chk (0+5≤(List.length b24)) (
 ye β L (List.map V.dem (List.take 5 b24)) p1 p2 p3 v23 p5 (fun v24 v25 =>
 chk ((List.length v24)=5∧0+5≤5) (
 lt (zc [(V.sc (.int .u32 (0:Int))),(V.sc (.bool false)),(V.gs 1 ([]:List (List V))),(V.gs 35 ([]:List (List V))),(V.gs 32 ([]:List (List V)))] 0 v24) fun r26 =>
 chk (0+5≤(List.length b24)) (
 ze β L (List.map V.dem (List.take 5 b24)) p1 p2 p3 v23 p5 (fun v27 v28 =>
 chk ((List.length v27)=5∧0+5≤5) (
 lt (zc [(V.sc (.int .u32 (0:Int))),(V.sc (.bool false)),(V.gs 1 ([]:List (List V))),(V.gs 35 ([]:List (List V))),(V.gs 32 ([]:List (List V)))] 0 v27) fun r29 =>
 ifb ((v25:Int) != v28) (
 k_ret false zEz zEA) (
 chk (0+5≤(List.length r26)) (
 chk (0+5≤(List.length r29)) (
 zb β L (List.map V.dem (List.take 5 r26)) (List.map V.dem (List.take 5 r29)) (fun v30 =>
 ifb (!v30) (
 k_ret false zEz zEA) (
 lt (IntKind.wrap .i64 ((p77:Int)+(1:Int))) fun x31 =>
 k_hbbbbbbbabaabbaabba p1 p2 p3 p4 p5 p6 p21 p67 p68 p69 p75 p76 x31 b20 b24 zEz zEA)))))))))))) (
 k_x4 p1 p2 p3 p4 p5 p6 p21 p67 p68 p69 b20 zEz zEA)
theorem zgS {β:Type} (ya:yh) (xb:xj) (yb:yk) (za:xg) (xa:xi) (yc:zm) (ye:xt) (ze:yt) (zb:xk) (yd:zr) (xd:xq) (L:Nat) (p1 p2:Int) (p3:Bool) (p4 p5:List (List V)) (p6:Int) (p21 p67:List (List V)) (p68 p69:Int) (p75:List (List V)) (p76 p77:Int) (b20 b24:List V) (zEz:List (List V)) (zEA:Int) (X:St→Option β) (K:KT β):zn zo (yo ya xb yb za xa yc ye ze zb yd xd L) 0 L yX (zaa p1 p2 p3 p4 p5 p6 p21 p67 p68 p69 p75 p76 p77 b20 b24 zEz zEA) (zbw zau X K)=zbt ya xb yb za xa yc ye ze zb yd xd L p1 p2 p3 p4 p5 p6 p21 p67 p68 p69 p75 p76 p77 b20 b24 zEz zEA (fun p18 zEz zEA=>K .ret (xQ p18 zEz zEA)) (fun p1 p2 p3 p4 p5 p6 p21 p67 p68 p69 p75 p76 p77 b20 b24 zEz zEA=>X (zaa p1 p2 p3 p4 p5 p6 p21 p67 p68 p69 p75 p76 p77 b20 b24 zEz zEA)) (fun p1 p2 p3 p4 p5 p6 p21 p67 p68 p69 b20 zEz zEA=>K (.exit 4) (zfm p1 p2 p3 p4 p5 p6 p21 p67 p68 p69 b20 zEz zEA)):=by kernel_rfl
def zcG {β:Type} (ya:yh) (xb:xj) (yb:yk) (za:xg) (xa:xi) (yc:zm) (ye:xt) (ze:yt) (zb:xk) (yd:zr) (xd:xq) (L:Nat) (zFd:List (List V)) (zFe zFc:Int) (b20:List V) (zEz:List (List V)) (zEA:Int) (k_ret:Bool→List (List V)→Int→Option β) (k_hbbbbbbbbaba:zfd β) (k_x6:List (List V)→Int→Option β):Option β :=
 ifb (decide (zFc < zFe)) (
 idx zFd zFc fun c32 =>
 cI .i64 c32 0 fun v33 =>
 chk (0+5≤(List.length b20)) (
 yd β L (List.map V.dem (List.take 5 b20)) v33 (fun v34 =>
 chk (0+5≤(List.length b20)) (
 xd β L (List.map V.dem (List.take 5 b20)) v33 (fun v35 =>
 ifb ((v34:Int) != v35) (
 k_ret false zEz zEA) (
 lt (IntKind.wrap .i64 ((zFc:Int)+(1:Int))) fun x36 =>
 k_hbbbbbbbbaba zFd zFe x36 b20 zEz zEA)))))) (
 k_x6 zEz zEA)
theorem zjx {β:Type} (ya:yh) (xb:xj) (yb:yk) (za:xg) (xa:xi) (yc:zm) (ye:xt) (ze:yt) (zb:xk) (yd:zr) (xd:xq) (L:Nat) (zFd:List (List V)) (zFe zFc:Int) (b20:List V) (zEz:List (List V)) (zEA:Int) (X:St→Option β) (K:KT β):zn zo (yo ya xb yb za xa yc ye ze zb yd xd L) 0 L zas (zaS zFd zFe zFc b20 zEz zEA) (zbw zbs X K)=zcG ya xb yb za xa yc ye ze zb yd xd L zFd zFe zFc b20 zEz zEA (fun p18 zEz zEA=>K .ret (xQ p18 zEz zEA)) (fun zFd zFe zFc b20 zEz zEA=>X (zaS zFd zFe zFc b20 zEz zEA)) (fun zEz zEA=>K (.exit 6) (zfi zEz zEA)):=by kernel_rfl
def zcM {β:Type} (ya:yh) (xb:xj) (yb:yk) (za:xg) (xa:xi) (yc:zm) (ye:xt) (ze:yt) (zb:xk) (yd:zr) (xd:xq) (L:Nat) (p18:Bool) (zEz:List (List V)) (zEA:Int) (k_ret:Bool→List (List V)→Int→Option β):Option β :=
 k_ret p18 zEz zEA
theorem zfT {β:Type} (ya:yh) (xb:xj) (yb:yk) (za:xg) (xa:xi) (yc:zm) (ye:xt) (ze:yt) (zb:xk) (yd:zr) (xd:xq) (L:Nat) (p18:Bool) (zEz:List (List V)) (zEA:Int) (X:St→Option β) (K:KT β):(yy 4 (yy 3 (zM (zn zo (yo ya xb yb za xa yc ye ze zb yd xd L) 0 L zaV) (zbw zR X K)))) .ret (xQ p18 zEz zEA)=zcM ya xb yb za xa yc ye ze zb yd xd L p18 zEz zEA (fun p18 zEz zEA=>K .ret (xQ p18 zEz zEA)):=by kernel_rfl
def zbb {β:Type} (ya:yh) (xb:xj) (yb:yk) (za:xg) (xa:xi) (yc:zm) (ye:xt) (ze:yt) (zb:xk) (yd:zr) (xd:xq) (L:Nat) (p1 p2:Int) (p3:Bool) (p4 p5:List (List V)) (p6:Int) (p21 p67:List (List V)) (p68 p69:Int) (b20:List V) (zEz:List (List V)) (zEA:Int) (k_hbbbbbbbaba:zcT β):Option β :=
 lt (IntKind.wrap .i64 ((p69:Int)+(1:Int))) fun x37 =>
 k_hbbbbbbbaba p1 p2 p3 p4 p5 p6 p21 p67 p68 x37 b20 zEz zEA
theorem zgk {β:Type} (ya:yh) (xb:xj) (yb:yk) (za:xg) (xa:xi) (yc:zm) (ye:xt) (ze:yt) (zb:xk) (yd:zr) (xd:xq) (L:Nat) (p1 p2:Int) (p3:Bool) (p4 p5:List (List V)) (p6:Int) (p21 p67:List (List V)) (p68 p69:Int) (b20:List V) (zEz:List (List V)) (zEA:Int) (X:St→Option β) (K:KT β):(yy 4 (yy 3 (zM (zn zo (yo ya xb yb za xa yc ye ze zb yd xd L) 0 L zaV) (zbw zR X K)))) (.exit 4) (zfm p1 p2 p3 p4 p5 p6 p21 p67 p68 p69 b20 zEz zEA)=zbb ya xb yb za xa yc ye ze zb yd xd L p1 p2 p3 p4 p5 p6 p21 p67 p68 p69 b20 zEz zEA (fun p1 p2 p3 p4 p5 p6 p21 p67 p68 p69 b20 zEz zEA=>X (zY p1 p2 p3 p4 p5 p6 p21 p67 p68 p69 b20 zEz zEA)):=by kernel_rfl
def zeH {β:Type} (ya:yh) (xb:xj) (yb:yk) (za:xg) (xa:xi) (yc:zm) (ye:xt) (ze:yt) (zb:xk) (yd:zr) (xd:xq) (L:Nat) (p18:Bool) (zEz:List (List V)) (zEA:Int) (k_fin:Bool→Option β):Option β :=
 k_fin p18
theorem zil {β:Type} (ya:yh) (xb:xj) (yb:yk) (za:xg) (xa:xi) (yc:zm) (ye:xt) (ze:yt) (zb:xk) (yd:zr) (xd:xq) (L:Nat) (p18:Bool) (zEz:List (List V)) (zEA:Int) (k:KK β):(yy 6 (zM (zn zo (yo ya xb yb za xa yc ye ze zb yd xd L) 0 L zbH) (zO 0 (CF.res yK) k))) .ret (xQ p18 zEz zEA)=zeH ya xb yb za xa yc ye ze zb yd xd L p18 zEz zEA (fun p0=>k (V.sc (.bool p0)) []):=by kernel_rfl
def zeY {β:Type} (ya:yh) (xb:xj) (yb:yk) (za:xg) (xa:xi) (yc:zm) (ye:xt) (ze:yt) (zb:xk) (yd:zr) (xd:xq) (L:Nat) (zEz:List (List V)) (zEA:Int) (k_fin:Bool→Option β):Option β :=
 k_fin true
theorem ziK {β:Type} (ya:yh) (xb:xj) (yb:yk) (za:xg) (xa:xi) (yc:zm) (ye:xt) (ze:yt) (zb:xk) (yd:zr) (xd:xq) (L:Nat) (zEz:List (List V)) (zEA:Int) (k:KK β):(yy 6 (zM (zn zo (yo ya xb yb za xa yc ye ze zb yd xd L) 0 L zbH) (zO 0 (CF.res yK) k))) (.exit 6) (zfi zEz zEA)=zeY ya xb yb za xa yc ye ze zb yd xd L zEz zEA (fun p0=>k (V.sc (.bool p0)) []):=by kernel_rfl
def zeW {β:Type} (ya:yh) (xb:xj) (yb:yk) (za:xg) (xa:xi) (yc:zm) (ye:xt) (ze:yt) (zb:xk) (yd:zr) (xd:xq) (L:Nat) (p18:Bool) (zEz:List (List V)) (zEA:Int) (k_fin:Bool→Option β):Option β :=
 k_fin p18
theorem ziu {β:Type} (ya:yh) (xb:xj) (yb:yk) (za:xg) (xa:xi) (yc:zm) (ye:xt) (ze:yt) (zb:xk) (yd:zr) (xd:xq) (L:Nat) (p18:Bool) (zEz:List (List V)) (zEA:Int) (k:KK β):(yy 2 (zM (zn zo (yo ya xb yb za xa yc ye ze zb yd xd L) 0 L za1) (zO 0 (CF.res yK) k))) .ret (xQ p18 zEz zEA)=zeW ya xb yb za xa yc ye ze zb yd xd L p18 zEz zEA (fun p0=>k (V.sc (.bool p0)) []):=by kernel_rfl
def zag {β:Type} (ya:yh) (xb:xj) (yb:yk) (za:xg) (xa:xi) (yc:zm) (ye:xt) (ze:yt) (zb:xk) (yd:zr) (xd:xq) (L:Nat) (k_x0:zgn β):Nat→Int→Int→Bool→List (List V)→List (List V)→Int→Int→Int→List (List V)→Int→List V→List (List V)→Int→Option β
 | 0,_,_,_,_,_,_,_,_,_,_,_,_,_=>none
 | n+1,p1,p2,p3,p4,p5,p6,p7,p8,p21,p22,b20,zEz,zEA=>zbK ya xb yb za xa yc ye ze zb yd xd L p1 p2 p3 p4 p5 p6 p7 p8 p21 p22 b20 zEz zEA (fun p1 p2 p3 p4 p5 p6 p7 p8 p21 p22 b20 zEz zEA=>zag ya xb yb za xa yc ye ze zb yd xd L k_x0 n p1 p2 p3 p4 p5 p6 p7 p8 p21 p22 b20 zEz zEA) k_x0
theorem zfe {β:Type} (ya:yh) (xb:xj) (yb:yk) (za:xg) (xa:xi) (yc:zm) (ye:xt) (ze:yt) (zb:xk) (yd:zr) (xd:xq) (L:Nat) (K:KT β):∀ (n:Nat) (p1 p2:Int) (p3:Bool) (p4 p5:List (List V)) (p6 p7 p8:Int) (p21:List (List V)) (p22:Int) (b20:List V) (zEz:List (List V)) (zEA:Int),xG (zn zo (yo ya xb yb za xa yc ye ze zb yd xd L) 0 L zaF) zbM n (zbh p1 p2 p3 p4 p5 p6 p7 p8 p21 p22 b20 zEz zEA) K=zag ya xb yb za xa yc ye ze zb yd xd L (fun p1 p2 p3 p4 p5 p6 p7 p8 p21 b20 zEz zEA=>K (.exit 0) (zde p1 p2 p3 p4 p5 p6 p7 p8 p21 b20 zEz zEA)) n p1 p2 p3 p4 p5 p6 p7 p8 p21 p22 b20 zEz zEA:=by
 intro n
 induction n with
 | zero=>intros; rfl
 | succ n ih =>
  intro p1 p2 p3 p4 p5 p6 p7 p8 p21 p22 b20 zEz zEA
  refine (zks ya xb yb za xa yc ye ze zb yd xd L p1 p2 p3 p4 p5 p6 p7 p8 p21 p22 b20 zEz zEA (fun σ=>xG (zn zo (yo ya xb yb za xa yc ye ze zb yd xd L) 0 L zaF) zbM n σ K) K).trans ?_
  simp only [ih]
  rfl
def xY {β:Type} (ya:yh) (xb:xj) (yb:yk) (za:xg) (xa:xi) (yc:zm) (ye:xt) (ze:yt) (zb:xk) (yd:zr) (xd:xq) (L:Nat) (k_ret:Bool→List (List V)→Int→Option β) (k_x4:zgd β):Nat→Int→Int→Bool→List (List V)→List (List V)→Int→List (List V)→List (List V)→Int→Int→List (List V)→Int→Int→List V→List V→List (List V)→Int→Option β
 | 0,_,_,_,_,_,_,_,_,_,_,_,_,_,_,_,_,_=>none
 | n+1,p1,p2,p3,p4,p5,p6,p21,p67,p68,p69,p75,p76,p77,b20,b24,zEz,zEA=>zbt ya xb yb za xa yc ye ze zb yd xd L p1 p2 p3 p4 p5 p6 p21 p67 p68 p69 p75 p76 p77 b20 b24 zEz zEA k_ret (fun p1 p2 p3 p4 p5 p6 p21 p67 p68 p69 p75 p76 p77 b20 b24 zEz zEA=>xY ya xb yb za xa yc ye ze zb yd xd L k_ret k_x4 n p1 p2 p3 p4 p5 p6 p21 p67 p68 p69 p75 p76 p77 b20 b24 zEz zEA) k_x4
theorem zcW {β:Type} (ya:yh) (xb:xj) (yb:yk) (za:xg) (xa:xi) (yc:zm) (ye:xt) (ze:yt) (zb:xk) (yd:zr) (xd:xq) (L:Nat) (K:KT β):∀ (n:Nat) (p1 p2:Int) (p3:Bool) (p4 p5:List (List V)) (p6:Int) (p21 p67:List (List V)) (p68 p69:Int) (p75:List (List V)) (p76 p77:Int) (b20 b24:List V) (zEz:List (List V)) (zEA:Int),xG (zn zo (yo ya xb yb za xa yc ye ze zb yd xd L) 0 L yX) zau n (zaa p1 p2 p3 p4 p5 p6 p21 p67 p68 p69 p75 p76 p77 b20 b24 zEz zEA) K=xY ya xb yb za xa yc ye ze zb yd xd L (fun p18 zEz zEA=>K .ret (xQ p18 zEz zEA)) (fun p1 p2 p3 p4 p5 p6 p21 p67 p68 p69 b20 zEz zEA=>K (.exit 4) (zfm p1 p2 p3 p4 p5 p6 p21 p67 p68 p69 b20 zEz zEA)) n p1 p2 p3 p4 p5 p6 p21 p67 p68 p69 p75 p76 p77 b20 b24 zEz zEA:=by
 intro n
 induction n with
 | zero=>intros; rfl
 | succ n ih =>
  intro p1 p2 p3 p4 p5 p6 p21 p67 p68 p69 p75 p76 p77 b20 b24 zEz zEA
  refine (zgS ya xb yb za xa yc ye ze zb yd xd L p1 p2 p3 p4 p5 p6 p21 p67 p68 p69 p75 p76 p77 b20 b24 zEz zEA (fun σ=>xG (zn zo (yo ya xb yb za xa yc ye ze zb yd xd L) 0 L yX) zau n σ K) K).trans ?_
  simp only [ih]
  rfl
def zbp {β:Type} (ya:yh) (xb:xj) (yb:yk) (za:xg) (xa:xi) (yc:zm) (ye:xt) (ze:yt) (zb:xk) (yd:zr) (xd:xq) (L:Nat) (p1 p2:Int) (p3:Bool) (p4 p5:List (List V)) (p6:Int) (p21 p67:List (List V)) (p68 p69:Int) (b20:List V) (zEz:List (List V)) (zEA:Int) (k_x2:Int→List V→List (List V)→Int→Option β) (k_ret:Bool→List (List V)→Int→Option β) (k_hbbbbbbbaba:zcT β):Option β :=
 zc8 ya xb yb za xa yc ye ze zb yd xd L p1 p2 p3 p4 p5 p6 p21 p67 p68 p69 b20 zEz zEA (fun p1 p2 p3 p4 p5 p6 p21 p67 p68 p69 p75 p76 p77 b20 b24 zEz zEA=>xY ya xb yb za xa yc ye ze zb yd xd L (fun p18 zEz zEA=>zcM ya xb yb za xa yc ye ze zb yd xd L p18 zEz zEA k_ret) (fun p1 p2 p3 p4 p5 p6 p21 p67 p68 p69 b20 zEz zEA=>zbb ya xb yb za xa yc ye ze zb yd xd L p1 p2 p3 p4 p5 p6 p21 p67 p68 p69 b20 zEz zEA k_hbbbbbbbaba) L p1 p2 p3 p4 p5 p6 p21 p67 p68 p69 p75 p76 p77 b20 b24 zEz zEA) k_x2
theorem zjp {β:Type} (ya:yh) (xb:xj) (yb:yk) (za:xg) (xa:xi) (yc:zm) (ye:xt) (ze:yt) (zb:xk) (yd:zr) (xd:xq) (L:Nat) (p1 p2:Int) (p3:Bool) (p4 p5:List (List V)) (p6:Int) (p21 p67:List (List V)) (p68 p69:Int) (b20:List V) (zEz:List (List V)) (zEA:Int) (X:St→Option β) (K:KT β):zn zo (yo ya xb yb za xa yc ye ze zb yd xd L) 0 L z6 (zY p1 p2 p3 p4 p5 p6 p21 p67 p68 p69 b20 zEz zEA) (zbw zR X K)=zbp ya xb yb za xa yc ye ze zb yd xd L p1 p2 p3 p4 p5 p6 p21 p67 p68 p69 b20 zEz zEA (fun p6 b20 zEz zEA=>K (.exit 2) (zbR p6 b20 zEz zEA)) (fun p18 zEz zEA=>K .ret (xQ p18 zEz zEA)) (fun p1 p2 p3 p4 p5 p6 p21 p67 p68 p69 b20 zEz zEA=>X (zY p1 p2 p3 p4 p5 p6 p21 p67 p68 p69 b20 zEz zEA)):=by
 refine (zj9 ya xb yb za xa yc ye ze zb yd xd L p1 p2 p3 p4 p5 p6 p21 p67 p68 p69 b20 zEz zEA X K).trans ?_
 unfold zbp
 first
  | (simp only [zcW,zfT,zgk]; done)
  | (simp only [zcW]; rfl)
def zaH {β:Type} (ya:yh) (xb:xj) (yb:yk) (za:xg) (xa:xi) (yc:zm) (ye:xt) (ze:yt) (zb:xk) (yd:zr) (xd:xq) (L:Nat) (k_x2:Int→List V→List (List V)→Int→Option β) (k_ret:Bool→List (List V)→Int→Option β):Nat→Int→Int→Bool→List (List V)→List (List V)→Int→List (List V)→List (List V)→Int→Int→List V→List (List V)→Int→Option β
 | 0,_,_,_,_,_,_,_,_,_,_,_,_,_=>none
 | n+1,p1,p2,p3,p4,p5,p6,p21,p67,p68,p69,b20,zEz,zEA=>zbp ya xb yb za xa yc ye ze zb yd xd L p1 p2 p3 p4 p5 p6 p21 p67 p68 p69 b20 zEz zEA k_x2 k_ret (fun p1 p2 p3 p4 p5 p6 p21 p67 p68 p69 b20 zEz zEA=>zaH ya xb yb za xa yc ye ze zb yd xd L k_x2 k_ret n p1 p2 p3 p4 p5 p6 p21 p67 p68 p69 b20 zEz zEA)
theorem zeT {β:Type} (ya:yh) (xb:xj) (yb:yk) (za:xg) (xa:xi) (yc:zm) (ye:xt) (ze:yt) (zb:xk) (yd:zr) (xd:xq) (L:Nat) (K:KT β):∀ (n:Nat) (p1 p2:Int) (p3:Bool) (p4 p5:List (List V)) (p6:Int) (p21 p67:List (List V)) (p68 p69:Int) (b20:List V) (zEz:List (List V)) (zEA:Int),xG (zn zo (yo ya xb yb za xa yc ye ze zb yd xd L) 0 L z6) zR n (zY p1 p2 p3 p4 p5 p6 p21 p67 p68 p69 b20 zEz zEA) K=zaH ya xb yb za xa yc ye ze zb yd xd L (fun p6 b20 zEz zEA=>K (.exit 2) (zbR p6 b20 zEz zEA)) (fun p18 zEz zEA=>K .ret (xQ p18 zEz zEA)) n p1 p2 p3 p4 p5 p6 p21 p67 p68 p69 b20 zEz zEA:=by
 intro n
 induction n with
 | zero=>intros; rfl
 | succ n ih =>
  intro p1 p2 p3 p4 p5 p6 p21 p67 p68 p69 b20 zEz zEA
  refine (zjp ya xb yb za xa yc ye ze zb yd xd L p1 p2 p3 p4 p5 p6 p21 p67 p68 p69 b20 zEz zEA (fun σ=>xG (zn zo (yo ya xb yb za xa yc ye ze zb yd xd L) 0 L z6) zR n σ K) K).trans ?_
  simp only [ih]
  rfl
def zax {β:Type} (ya:yh) (xb:xj) (yb:yk) (za:xg) (xa:xi) (yc:zm) (ye:xt) (ze:yt) (zb:xk) (yd:zr) (xd:xq) (L:Nat) (k_ret:Bool→List (List V)→Int→Option β) (k_x6:List (List V)→Int→Option β):Nat→List (List V)→Int→Int→List V→List (List V)→Int→Option β
 | 0,_,_,_,_,_,_=>none
 | n+1,zFd,zFe,zFc,b20,zEz,zEA=>zcG ya xb yb za xa yc ye ze zb yd xd L zFd zFe zFc b20 zEz zEA k_ret (fun zFd zFe zFc b20 zEz zEA=>zax ya xb yb za xa yc ye ze zb yd xd L k_ret k_x6 n zFd zFe zFc b20 zEz zEA) k_x6
theorem zeE {β:Type} (ya:yh) (xb:xj) (yb:yk) (za:xg) (xa:xi) (yc:zm) (ye:xt) (ze:yt) (zb:xk) (yd:zr) (xd:xq) (L:Nat) (K:KT β):∀ (n:Nat) (zFd:List (List V)) (zFe zFc:Int) (b20:List V) (zEz:List (List V)) (zEA:Int),xG (zn zo (yo ya xb yb za xa yc ye ze zb yd xd L) 0 L zas) zbs n (zaS zFd zFe zFc b20 zEz zEA) K=zax ya xb yb za xa yc ye ze zb yd xd L (fun p18 zEz zEA=>K .ret (xQ p18 zEz zEA)) (fun zEz zEA=>K (.exit 6) (zfi zEz zEA)) n zFd zFe zFc b20 zEz zEA:=by
 intro n
 induction n with
 | zero=>intros; rfl
 | succ n ih =>
  intro zFd zFe zFc b20 zEz zEA
  refine (zjx ya xb yb za xa yc ye ze zb yd xd L zFd zFe zFc b20 zEz zEA (fun σ=>xG (zn zo (yo ya xb yb za xa yc ye ze zb yd xd L) 0 L zas) zbs n σ K) K).trans ?_
  simp only [ih]
  rfl
def za5 {β:Type} (ya:yh) (xb:xj) (yb:yk) (za:xg) (xa:xi) (yc:zm) (ye:xt) (ze:yt) (zb:xk) (yd:zr) (xd:xq) (L:Nat) (p6:Int) (b20:List V) (zEz:List (List V)) (zEA:Int) (k_fin:Bool→Option β):Option β :=
 zcy ya xb yb za xa yc ye ze zb yd xd L p6 b20 zEz zEA (fun zFd zFe zFc b20 zEz zEA=>zax ya xb yb za xa yc ye ze zb yd xd L (fun p18 zEz zEA=>zeH ya xb yb za xa yc ye ze zb yd xd L p18 zEz zEA k_fin) (fun zEz zEA=>zeY ya xb yb za xa yc ye ze zb yd xd L zEz zEA k_fin) L zFd zFe zFc b20 zEz zEA)
theorem ziG {β:Type} (ya:yh) (xb:xj) (yb:yk) (za:xg) (xa:xi) (yc:zm) (ye:xt) (ze:yt) (zb:xk) (yd:zr) (xd:xq) (L:Nat) (p6:Int) (b20:List V) (zEz:List (List V)) (zEA:Int) (k:KK β):(yy 2 (zM (zn zo (yo ya xb yb za xa yc ye ze zb yd xd L) 0 L za1) (zO 0 (CF.res yK) k))) (.exit 2) (zbR p6 b20 zEz zEA)=za5 ya xb yb za xa yc ye ze zb yd xd L p6 b20 zEz zEA (fun p0=>k (V.sc (.bool p0)) []):=by
 refine (ziW ya xb yb za xa yc ye ze zb yd xd L p6 b20 zEz zEA k).trans ?_
 unfold za5
 first
  | (simp only [zeE,zil,ziK]; done)
  | (simp only [zeE]; rfl)
def zbg {β:Type} (ya:yh) (xb:xj) (yb:yk) (za:xg) (xa:xi) (yc:zm) (ye:xt) (ze:yt) (zb:xk) (yd:zr) (xd:xq) (L:Nat) (p1 p2:Int) (p3:Bool) (p4 p5:List (List V)) (p6 p7 p8:Int) (p21:List (List V)) (b20:List V) (zEz:List (List V)) (zEA:Int) (k_fin:Bool→Option β):Option β :=
 zcH ya xb yb za xa yc ye ze zb yd xd L p1 p2 p3 p4 p5 p6 p7 p8 p21 b20 zEz zEA (fun p1 p2 p3 p4 p5 p6 p21 p67 p68 p69 b20 zEz zEA=>zaH ya xb yb za xa yc ye ze zb yd xd L (fun p6 b20 zEz zEA=>za5 ya xb yb za xa yc ye ze zb yd xd L p6 b20 zEz zEA k_fin) (fun p18 zEz zEA=>zeW ya xb yb za xa yc ye ze zb yd xd L p18 zEz zEA k_fin) L p1 p2 p3 p4 p5 p6 p21 p67 p68 p69 b20 zEz zEA)
theorem zji {β:Type} (ya:yh) (xb:xj) (yb:yk) (za:xg) (xa:xi) (yc:zm) (ye:xt) (ze:yt) (zb:xk) (yd:zr) (xd:xq) (L:Nat) (p1 p2:Int) (p3:Bool) (p4 p5:List (List V)) (p6 p7 p8:Int) (p21:List (List V)) (b20:List V) (zEz:List (List V)) (zEA:Int) (k:KK β):(yy 0 (zM (zn zo (yo ya xb yb za xa yc ye ze zb yd xd L) 0 L zcj) (zO 0 (CF.res yK) k))) (.exit 0) (zde p1 p2 p3 p4 p5 p6 p7 p8 p21 b20 zEz zEA)=zbg ya xb yb za xa yc ye ze zb yd xd L p1 p2 p3 p4 p5 p6 p7 p8 p21 b20 zEz zEA (fun p0=>k (V.sc (.bool p0)) []):=by
 refine (zjy ya xb yb za xa yc ye ze zb yd xd L p1 p2 p3 p4 p5 p6 p7 p8 p21 b20 zEz zEA k).trans ?_
 unfold zbg
 first
  | (simp only [zeT,ziG,ziu]; done)
  | (simp only [zeT]; rfl)
def ze5 {β:Type} (ya:yh) (xb:xj) (yb:yk) (za:xg) (xa:xi) (yc:zm) (ye:xt) (ze:yt) (zb:xk) (yd:zr) (xd:xq) (L:Nat) (p0:List (List V)) (p1 p2:Int) (p3:Bool) (p4 p5:List (List V)) (p6 p7 p8:Int) (k_fin:Bool→Option β):Option β :=
 zhy ya xb yb za xa yc ye ze zb yd xd L p0 p1 p2 p3 p4 p5 p6 p7 p8 k_fin (fun p1 p2 p3 p4 p5 p6 p7 p8 p21 p22 b20 zEz zEA=>zag ya xb yb za xa yc ye ze zb yd xd L (fun p1 p2 p3 p4 p5 p6 p7 p8 p21 b20 zEz zEA=>zbg ya xb yb za xa yc ye ze zb yd xd L p1 p2 p3 p4 p5 p6 p7 p8 p21 b20 zEz zEA k_fin) L p1 p2 p3 p4 p5 p6 p7 p8 p21 p22 b20 zEz zEA)
theorem zpf {β:Type} (ya:yh) (xb:xj) (yb:yk) (za:xg) (xa:xi) (yc:zm) (ye:xt) (ze:yt) (zb:xk) (yd:zr) (xd:xq) (L:Nat) (p0:List (List V)) (p1 p2:Int) (p3:Bool) (p4 p5:List (List V)) (p6 p7 p8:Int) (k:KK β):zK zo (yo ya xb yb za xa yc ye ze zb yd xd L) L yK [(V.sl 1 p0),(V.sc (.int .u32 p1)),(V.sc (.int .u32 p2)),(V.sc (.bool p3)),(V.sl 1 p4),(V.sl 1 p5),(V.sc (.int .i64 p6)),(V.sc (.int .i64 p7)),(V.sc (.int .i64 p8))] [] k=ze5 ya xb yb za xa yc ye ze zb yd xd L p0 p1 p2 p3 p4 p5 p6 p7 p8 (fun p0=>k (V.sc (.bool p0)) []):=by
 refine (zpu ya xb yb za xa yc ye ze zb yd xd L p0 p1 p2 p3 p4 p5 p6 p7 p8 k).trans ?_
 unfold ze5
 first
  | (simp only [zfe,zji]; done)
  | (simp only [zfe]; rfl)
abbrev zrv:=∀ (β:Type),Nat→List (List V)→Int→Int→Bool→List (List V)→List (List V)→Int→Int→Int→(Bool→Option β)→Option β
def zaI (β:Type) (L:Nat) (p0:List (List V)) (p1 p2:Int) (p3:Bool) (p4 p5:List (List V)) (p6 p7 p8:Int) (k_fin:Bool→Option β):Option β:=ze5 ya xb yb za xa yc ye ze zb yd xd L p0 p1 p2 p3 p4 p5 p6 p7 p8 k_fin
def ze8 (zaI:zrv) (L:Nat) (β:Type) (args:List V) (bor:Bor) (k:KK β):Option β:=match args,bor with
 | [a0,a1,a2,a3,a4,a5,a6,a7,a8],[]=>aL 1 a0 fun p0=>aI .u32 a1 fun p1=>aI .u32 a2 fun p2=>aB a3 fun p3=>aL 1 a4 fun p4=>aL 1 a5 fun p5=>aI .i64 a6 fun p6=>aI .i64 a7 fun p7=>aI .i64 a8 fun p8=>zaI β L p0 p1 p2 p3 p4 p5 p6 p7 p8 (fun p0=>k (V.sc (.bool p0)) [])
 | _,_=>none
theorem zpI (L:Nat) (β:Type) (args:List V) (bor:Bor) (k:KK β) (r:β) (h:ze8 zaI L β args bor k=some r):zK zo (yo ya xb yb za xa yc ye ze zb yd xd L) L yK args bor k=some r:=by
 unfold ze8 at h
 split at h
 ·have q:=zaZ h; clear h; obtain ⟨p0,rfl,h⟩:=q
  have q:=zaG h; clear h; obtain ⟨p1,rfl,h⟩:=q
  have q:=zaG h; clear h; obtain ⟨p2,rfl,h⟩:=q
  have q:=zmK h; clear h; obtain ⟨p3,rfl,h⟩:=q
  have q:=zaZ h; clear h; obtain ⟨p4,rfl,h⟩:=q
  have q:=zaZ h; clear h; obtain ⟨p5,rfl,h⟩:=q
  have q:=zaG h; clear h; obtain ⟨p6,rfl,h⟩:=q
  have q:=zaG h; clear h; obtain ⟨p7,rfl,h⟩:=q
  have q:=zaG h; clear h; obtain ⟨p8,rfl,h⟩:=q
  exact (zpf ya xb yb za xa yc ye ze zb yd xd L p0 p1 p2 p3 p4 p5 p6 p7 p8 k).trans h
 ·cases h
def gls:List (Nat × List V):=[]
def fg:List (Nat × Nat):=[(3,325),(4,326),(5,327),(6,328),(7,329),(8,330),(9,331),(10,332),(11,333),(12,217),(13,334),(14,335),(15,336),(16,337),(17,338),(18,225),(19,339),(20,231),(21,340),(22,341),(23,342),(24,343),(25,344),(26,345),(27,346),(28,347),(29,348),(30,349),(31,350),(32,351),(33,352),(34,353),(35,247),(36,354),(37,274),(38,355),(39,356),(40,357),(41,358),(42,359),(43,360),(44,361),(45,362),(46,319),(47,363),(48,248),(49,364),(50,365),(51,366),(52,367),(53,368),(54,369),(55,370),(56,371),(57,372),(58,373),(59,254)]
def rows:List Row:=[⟨13,334,zo9,zea⟩,⟨15,336,zoX,zc1⟩,⟨17,338,zlu,zbn⟩,⟨10,332,zpc,zjP⟩,⟨18,225,zrc,zmg⟩,⟨35,247,zls,zf1⟩,⟨12,217,zrd,zmd⟩,⟨20,231,zlC,zf8⟩,⟨19,339,zoZ,zbE⟩,⟨38,355,znp,zhI⟩,⟨21,340,zoy,ziP⟩,⟨54,369,zmA,zg2⟩,⟨39,356,znX,zU⟩,⟨58,373,zno,zoP⟩,⟨57,372,zcU,zao⟩,⟨47,363,zo5,zmW⟩,⟨59,254,zdG,zeg⟩,⟨48,248,zc5,zds⟩,⟨25,344,znU,ziD⟩,⟨43,360,zhc,zcL⟩,⟨55,370,zdN,zaK⟩,⟨56,371,zdO,zaL⟩,⟨41,358,znm,zhM⟩,⟨42,359,znT,ziI⟩,⟨27,346,zpe,zrf⟩,⟨50,365,zqk,zdP⟩,⟨49,364,zoY,zc6⟩,⟨45,362,zod,yU⟩,⟨26,345,zov,ziN⟩,⟨46,319,zoq,ziB⟩,⟨28,347,zo3,zq7⟩,⟨33,352,zkj,zaJ⟩,⟨24,343,zoQ,zc4⟩,⟨7,329,zkc,zlz⟩,⟨51,366,zdv,zd2⟩,⟨29,348,zoc,zqb⟩,⟨30,349,zox,zpY⟩,⟨53,368,zof,zql⟩,⟨52,367,zcA,zc0⟩,⟨31,350,zqa,zsI⟩,⟨32,351,zp2,zrU⟩,⟨8,330,zjw,zk5⟩,⟨34,353,zq4,ztn⟩,⟨36,354,zpS,zr0⟩,⟨9,331,zlf,zmo⟩,⟨40,357,zkV,za0⟩,⟨44,361,zgy,zcw⟩,⟨22,341,zog,zdr⟩,⟨23,342,zn7,zaO⟩,⟨6,328,zjA,yK⟩]
theorem zxd:xX Try.prog (zP fg gls) zo9 13=some zea:=by kernel_rfl
theorem zw7:xX Try.prog (zP fg gls) zoX 15=some zc1:=by kernel_rfl
theorem zs8:xX Try.prog (zP fg gls) zlu 17=some zbn:=by kernel_rfl
theorem zxb:xX Try.prog (zP fg gls) zpc 10=some zjP:=by kernel_rfl
theorem zyX:xX Try.prog (zP fg gls) zrc 18=some zmg:=by kernel_rfl
theorem zs2:xX Try.prog (zP fg gls) zls 35=some zf1:=by kernel_rfl
theorem zyW:xX Try.prog (zP fg gls) zrd 12=some zmd:=by kernel_rfl
theorem ztf:xX Try.prog (zP fg gls) zlC 20=some zf8:=by kernel_rfl
theorem zxl:xX Try.prog (zP fg gls) zoZ 19=some zbE:=by kernel_rfl
theorem zux:xX Try.prog (zP fg gls) znp 38=some zhI:=by kernel_rfl
theorem zvS:xX Try.prog (zP fg gls) zoy 21=some ziP:=by kernel_rfl
theorem zun:xX Try.prog (zP fg gls) zmA 54=some zg2:=by kernel_rfl
theorem zvV:xX Try.prog (zP fg gls) znX 39=some zU:=by kernel_rfl
theorem zu9:xX Try.prog (zP fg gls) zno 58=some zoP:=by kernel_rfl
theorem zhB:xX Try.prog (zP fg gls) zcU 57=some zao:=by kernel_rfl
theorem zw2:xX Try.prog (zP fg gls) zo5 47=some zmW:=by kernel_rfl
theorem zjg:xX Try.prog (zP fg gls) zdG 59=some zeg:=by kernel_rfl
theorem zhZ:xX Try.prog (zP fg gls) zc5 48=some zds:=by kernel_rfl
theorem zvL:xX Try.prog (zP fg gls) znU 25=some ziD:=by kernel_rfl
theorem znV:xX Try.prog (zP fg gls) zhc 43=some zcL:=by kernel_rfl
theorem zi5:xX Try.prog (zP fg gls) zdN 55=some zaK:=by kernel_rfl
theorem zjc:xX Try.prog (zP fg gls) zdO 56=some zaL:=by kernel_rfl
theorem zuT:xX Try.prog (zP fg gls) znm 41=some zhM:=by kernel_rfl
theorem zwc:xX Try.prog (zP fg gls) znT 42=some ziI:=by kernel_rfl
theorem zw9:xX Try.prog (zP fg gls) zpe 27=some zrf:=by kernel_rfl
theorem zxQ:xX Try.prog (zP fg gls) zqk 50=some zdP:=by kernel_rfl
theorem zw1:xX Try.prog (zP fg gls) zoY 49=some zc6:=by kernel_rfl
theorem zvO:xX Try.prog (zP fg gls) zod 45=some yU:=by kernel_rfl
theorem zwd:xX Try.prog (zP fg gls) zov 26=some ziN:=by kernel_rfl
theorem zvZ:xX Try.prog (zP fg gls) zoq 46=some ziB:=by kernel_rfl
theorem zxc:xX Try.prog (zP fg gls) zo3 28=some zq7:=by kernel_rfl
theorem zrB:xX Try.prog (zP fg gls) zkj 33=some zaJ:=by kernel_rfl
theorem zwZ:xX Try.prog (zP fg gls) zoQ 24=some zc4:=by kernel_rfl
theorem zrx:xX Try.prog (zP fg gls) zkc 7=some zlz:=by kernel_rfl
theorem ziC:xX Try.prog (zP fg gls) zdv 51=some zd2:=by kernel_rfl
theorem zvR:xX Try.prog (zP fg gls) zoc 29=some zqb:=by kernel_rfl
theorem zwp:xX Try.prog (zP fg gls) zox 30=some zpY:=by kernel_rfl
theorem zv4:xX Try.prog (zP fg gls) zof 53=some zql:=by kernel_rfl
theorem zhn:xX Try.prog (zP fg gls) zcA 52=some zc0:=by kernel_rfl
theorem zxB:xX Try.prog (zP fg gls) zqa 31=some zsI:=by kernel_rfl
theorem zyl:xX Try.prog (zP fg gls) zp2 32=some zrU:=by kernel_rfl
theorem zqL:xX Try.prog (zP fg gls) zjw 8=some zk5:=by kernel_rfl
theorem zyH:xX Try.prog (zP fg gls) zq4 34=some ztn:=by kernel_rfl
theorem zxW:xX Try.prog (zP fg gls) zpS 36=some zr0:=by kernel_rfl
theorem zsD:xX Try.prog (zP fg gls) zlf 9=some zmo:=by kernel_rfl
theorem zr6:xX Try.prog (zP fg gls) zkV 40=some za0:=by kernel_rfl
theorem znG:xX Try.prog (zP fg gls) zgy 44=some zcw:=by kernel_rfl
theorem zwo:xX Try.prog (zP fg gls) zog 22=some zdr:=by kernel_rfl
theorem zvU:xX Try.prog (zP fg gls) zn7 23=some zaO:=by kernel_rfl
theorem zqZ:xX Try.prog (zP fg gls) zjA 6=some yK:=by kernel_rfl
theorem zCG:∀ r ∈ rows,(r.f,r.g) ∈ fg∧zgH Try.prog r.f=true∧xX Try.prog (zP fg gls) r.h r.f=some r.c:=by
 intro r hr
 simp only [rows,List.mem_cons,List.not_mem_nil,or_false] at hr
 rcases hr with rfl | rfl | rfl | rfl | rfl | rfl | rfl | rfl | rfl | rfl | rfl | rfl | rfl | rfl | rfl | rfl | rfl | rfl | rfl | rfl | rfl | rfl | rfl | rfl | rfl | rfl | rfl | rfl | rfl | rfl | rfl | rfl | rfl | rfl | rfl | rfl | rfl | rfl | rfl | rfl | rfl | rfl | rfl | rfl | rfl | rfl | rfl | rfl | rfl | rfl
 ·exact ⟨of_decide_eq_true (by kernel_rfl),by kernel_rfl,zxd⟩
 ·exact ⟨of_decide_eq_true (by kernel_rfl),by kernel_rfl,zw7⟩
 ·exact ⟨of_decide_eq_true (by kernel_rfl),by kernel_rfl,zs8⟩
 ·exact ⟨of_decide_eq_true (by kernel_rfl),by kernel_rfl,zxb⟩
 ·exact ⟨of_decide_eq_true (by kernel_rfl),by kernel_rfl,zyX⟩
 ·exact ⟨of_decide_eq_true (by kernel_rfl),by kernel_rfl,zs2⟩
 ·exact ⟨of_decide_eq_true (by kernel_rfl),by kernel_rfl,zyW⟩
 ·exact ⟨of_decide_eq_true (by kernel_rfl),by kernel_rfl,ztf⟩
 ·exact ⟨of_decide_eq_true (by kernel_rfl),by kernel_rfl,zxl⟩
 ·exact ⟨of_decide_eq_true (by kernel_rfl),by kernel_rfl,zux⟩
 ·exact ⟨of_decide_eq_true (by kernel_rfl),by kernel_rfl,zvS⟩
 ·exact ⟨of_decide_eq_true (by kernel_rfl),by kernel_rfl,zun⟩
 ·exact ⟨of_decide_eq_true (by kernel_rfl),by kernel_rfl,zvV⟩
 ·exact ⟨of_decide_eq_true (by kernel_rfl),by kernel_rfl,zu9⟩
 ·exact ⟨of_decide_eq_true (by kernel_rfl),by kernel_rfl,zhB⟩
 ·exact ⟨of_decide_eq_true (by kernel_rfl),by kernel_rfl,zw2⟩
 ·exact ⟨of_decide_eq_true (by kernel_rfl),by kernel_rfl,zjg⟩
 ·exact ⟨of_decide_eq_true (by kernel_rfl),by kernel_rfl,zhZ⟩
 ·exact ⟨of_decide_eq_true (by kernel_rfl),by kernel_rfl,zvL⟩
 ·exact ⟨of_decide_eq_true (by kernel_rfl),by kernel_rfl,znV⟩
 ·exact ⟨of_decide_eq_true (by kernel_rfl),by kernel_rfl,zi5⟩
 ·exact ⟨of_decide_eq_true (by kernel_rfl),by kernel_rfl,zjc⟩
 ·exact ⟨of_decide_eq_true (by kernel_rfl),by kernel_rfl,zuT⟩
 ·exact ⟨of_decide_eq_true (by kernel_rfl),by kernel_rfl,zwc⟩
 ·exact ⟨of_decide_eq_true (by kernel_rfl),by kernel_rfl,zw9⟩
 ·exact ⟨of_decide_eq_true (by kernel_rfl),by kernel_rfl,zxQ⟩
 ·exact ⟨of_decide_eq_true (by kernel_rfl),by kernel_rfl,zw1⟩
 ·exact ⟨of_decide_eq_true (by kernel_rfl),by kernel_rfl,zvO⟩
 ·exact ⟨of_decide_eq_true (by kernel_rfl),by kernel_rfl,zwd⟩
 ·exact ⟨of_decide_eq_true (by kernel_rfl),by kernel_rfl,zvZ⟩
 ·exact ⟨of_decide_eq_true (by kernel_rfl),by kernel_rfl,zxc⟩
 ·exact ⟨of_decide_eq_true (by kernel_rfl),by kernel_rfl,zrB⟩
 ·exact ⟨of_decide_eq_true (by kernel_rfl),by kernel_rfl,zwZ⟩
 ·exact ⟨of_decide_eq_true (by kernel_rfl),by kernel_rfl,zrx⟩
 ·exact ⟨of_decide_eq_true (by kernel_rfl),by kernel_rfl,ziC⟩
 ·exact ⟨of_decide_eq_true (by kernel_rfl),by kernel_rfl,zvR⟩
 ·exact ⟨of_decide_eq_true (by kernel_rfl),by kernel_rfl,zwp⟩
 ·exact ⟨of_decide_eq_true (by kernel_rfl),by kernel_rfl,zv4⟩
 ·exact ⟨of_decide_eq_true (by kernel_rfl),by kernel_rfl,zhn⟩
 ·exact ⟨of_decide_eq_true (by kernel_rfl),by kernel_rfl,zxB⟩
 ·exact ⟨of_decide_eq_true (by kernel_rfl),by kernel_rfl,zyl⟩
 ·exact ⟨of_decide_eq_true (by kernel_rfl),by kernel_rfl,zqL⟩
 ·exact ⟨of_decide_eq_true (by kernel_rfl),by kernel_rfl,zyH⟩
 ·exact ⟨of_decide_eq_true (by kernel_rfl),by kernel_rfl,zxW⟩
 ·exact ⟨of_decide_eq_true (by kernel_rfl),by kernel_rfl,zsD⟩
 ·exact ⟨of_decide_eq_true (by kernel_rfl),by kernel_rfl,zr6⟩
 ·exact ⟨of_decide_eq_true (by kernel_rfl),by kernel_rfl,znG⟩
 ·exact ⟨of_decide_eq_true (by kernel_rfl),by kernel_rfl,zwo⟩
 ·exact ⟨of_decide_eq_true (by kernel_rfl),by kernel_rfl,zvU⟩
 ·exact ⟨of_decide_eq_true (by kernel_rfl),by kernel_rfl,zqZ⟩
theorem zDO:Try.prog.follows .mixedOrders=true:=by kernel_rfl
theorem zDU:zBX fg=true:=by kernel_rfl
theorem zDY:zgB Try.prog (zP fg gls) zqH:=zCD (by kernel_rfl)
theorem zDK (L d:Nat):zgB Try.prog (zP fg gls) (evF (zay rows) zqH L d):=zCL zDO zDU zDY zCG L d
theorem zvQ (L:Nat):FOk (zay rows) L 334 (zlk zal L) 1:=zan (D:=0) (by kernel_rfl) fun m hm=>⟨zbD,zbG L,zak,zu3 L⟩
theorem zwb (L:Nat):FOk (zay rows) L 336 (zkB zaj L) 1:=zan (D:=0) (by kernel_rfl) fun m hm=>⟨za8,zba L,zak,zuH L⟩
theorem zmp (L:Nat):FOk (zay rows) L 338 (zeK yj L) 1:=zan (D:=0) (by kernel_rfl) fun m hm=>⟨z9,y8 L,zak,zrs L⟩
theorem zv1 (L:Nat):FOk (zay rows) L 332 (zeO ya L) 2:=zan (D:=1) (by kernel_rfl) fun m hm=>⟨zmT,zni zal zaj yj L,(yR (yR (yR zak (zvQ L m (by omega))) (zwb L m (by omega))) (zmp L m (by omega))),zvH L⟩
theorem zxM (L:Nat):FOk (zay rows) L 225 (zg7 xb L) 1:=zan (D:=0) (by kernel_rfl) fun m hm=>⟨zpp,zpx L,zak,zxe L⟩
theorem zss (L:Nat):FOk (zay rows) L 247 (zeL yl L) 1:=zan (D:=0) (by kernel_rfl) fun m hm=>⟨ziZ,zjh L,zak,zrz L⟩
theorem zn0 (L:Nat):FOk (zay rows) L 217 (zfx yc L) 1:=zan (D:=0) (by kernel_rfl) fun m hm=>⟨zpw,zpo L,zak,zxo L⟩
theorem zmt (L:Nat):FOk (zay rows) L 231 (zdo za L) 2:=zan (D:=1) (by kernel_rfl) fun m hm=>⟨zjj,zi7 yl yc L,(yR (yR zak (zss L m (by omega))) (zn0 L m (by omega))),zrm L⟩
theorem zwg (L:Nat):FOk (zay rows) L 339 (zgs yb L) 3:=zan (D:=2) (by kernel_rfl) fun m hm=>⟨xV,zV za L,(yR zak (zmt L m (by omega))),zvd L⟩
theorem zop (L:Nat):FOk (zay rows) L 355 (zcm xf L) 1:=zan (D:=0) (by kernel_rfl) fun m hm=>⟨zkt,zk4 L,zak,ztj L⟩
theorem zuS (L:Nat):FOk (zay rows) L 340 (zfp xa L) 2:=zan (D:=1) (by kernel_rfl) fun m hm=>⟨zlM,zl5 xf yc L,(yR (yR zak (zop L m (by omega))) (zn0 L m (by omega))),zuc L⟩
theorem zs4 (L:Nat):FOk (zay rows) L 369 (zhL xe L) 1:=zan (D:=0) (by kernel_rfl) fun m hm=>⟨zjZ,zj5 L,zak,zsg L⟩
theorem zu6 (L:Nat):FOk (zay rows) L 356 (zd9 ym L) 2:=zan (D:=1) (by kernel_rfl) fun m hm=>⟨xC,yD xe L,(yR zak (zs4 L m (by omega))),ztT L⟩
theorem zvA (L:Nat):FOk (zay rows) L 344 (zhh yd L) 1:=zan (D:=0) (by kernel_rfl) fun m hm=>⟨zlV,zlT L,zak,ztP L⟩
theorem zhO (L:Nat):FOk (zay rows) L 360 (zbT yg L) 1:=zan (D:=0) (by kernel_rfl) fun m hm=>⟨ze1,zeM L,zak,znd L⟩
theorem ziM (L:Nat):FOk (zay rows) L 370 (zaR yq L) 1:=zan (D:=0) (by kernel_rfl) fun m hm=>⟨zbW,zbX L,zak,zig L⟩
theorem ziH (L:Nat):FOk (zay rows) L 371 (zaW zq L) 1:=zan (D:=0) (by kernel_rfl) fun m hm=>⟨zbZ,zbU L,zak,zir L⟩
theorem ztN (L:Nat):FOk (zay rows) L 358 (zdn zl L) 2:=zan (D:=1) (by kernel_rfl) fun m hm=>⟨zkx,zlg yg yq zq L,(yR (yR (yR zak (zhO L m (by omega))) (ziM L m (by omega))) (ziH L m (by omega))),ztc L⟩
theorem zuB (L:Nat):FOk (zay rows) L 359 (zhj xn L) 1:=zan (D:=0) (by kernel_rfl) fun m hm=>⟨zlS,zlL L,zak,ztO L⟩
theorem zxf (L:Nat):FOk (zay rows) L 365 (zhq zf L) 1:=zan (D:=0) (by kernel_rfl) fun m hm=>⟨zby,zbx L,zak,zwa L⟩
theorem zwm (L:Nat):FOk (zay rows) L 364 (zgo zd L) 1:=zan (D:=0) (by kernel_rfl) fun m hm=>⟨zbd,zbe L,zak,zuW L⟩
theorem zu8 (L:Nat):FOk (zay rows) L 362 (zd8 zg L) 2:=zan (D:=1) (by kernel_rfl) fun m hm=>⟨xD,zD zf zd L,(yR (yR zak (zxf L m (by omega))) (zwm L m (by omega))),ztW L⟩
theorem zuA (L:Nat):FOk (zay rows) L 345 (zhi xd L) 1:=zan (D:=0) (by kernel_rfl) fun m hm=>⟨zlU,zma L,zak,zud L⟩
theorem zuG (L:Nat):FOk (zay rows) L 319 (zho xh L) 1:=zan (D:=0) (by kernel_rfl) fun m hm=>⟨zl2,zlO L,zak,ztM L⟩
theorem zqM (L:Nat):FOk (zay rows) L 352 (zdK yf L) 1:=zan (D:=0) (by kernel_rfl) fun m hm=>⟨zW,xW L,zak,zpT L⟩
theorem zwq (L:Nat):FOk (zay rows) L 343 (zgg zb L) 2:=zan (D:=1) (by kernel_rfl) fun m hm=>⟨zbf,zbc yj yf L,(yR (yR zak (zmp L m (by omega))) (zqM L m (by omega))),zu5 L⟩
theorem zrC (L:Nat):FOk (zay rows) L 357 (zf7 xm L) 1:=zan (D:=0) (by kernel_rfl) fun m hm=>⟨y4,y5 L,zak,zqE L⟩
theorem zm3 (L:Nat):FOk (zay rows) L 361 (zcN zh L) 1:=zan (D:=0) (by kernel_rfl) fun m hm=>⟨zex,zev L,zak,zmz L⟩
theorem zvz (L:Nat):FOk (zay rows) L 341 (zjJ ye L) 3:=zan (D:=2) (by kernel_rfl) fun m hm=>⟨zbm,zbl ym xm zl xn yg zh L,(yR (yR (yR (yR (yR (yR zak (zu6 L m (by omega))) (zrC L m (by omega))) (ztN L m (by omega))) (zuB L m (by omega))) (zhO L m (by omega))) (zm3 L m (by omega))),ztX L⟩
theorem zvE (L:Nat):FOk (zay rows) L 342 (zjI ze L) 3:=zan (D:=2) (by kernel_rfl) fun m hm=>⟨xP,zQ zg xf xh L,(yR (yR (yR zak (zu8 L m (by omega))) (zop L m (by omega))) (zuG L m (by omega))),zuo L⟩
theorem zpV (L:Nat):FOk (zay rows) L 328 (ze8 zaI L) 4:=zan (D:=3) (by kernel_rfl) fun m hm=>⟨zo,yo ya xb yb za xa yc ye ze zb yd xd L,(yR (yR (yR (yR (yR (yR (yR (yR (yR (yR (yR zak (zv1 L m (by omega))) (zxM L m (by omega))) (zwg L m (by omega))) (zmt L m (by omega))) (zuS L m (by omega))) (zn0 L m (by omega))) (zvz L m (by omega))) (zvE L m (by omega))) (zwq L m (by omega))) (zvA L m (by omega))) (zuA L m (by omega))),zpI L⟩
end
section
open Go.ChangeShapes Go.WideShapes Go.RowKit Go.Deep
set_option linter.unusedVariables false
set_option linter.unusedSimpArgs false
inductive CT where
 | int (k:IntKind)
 | bool
 | str
 | sl (cs:List CT)
inductive HasC:CT→V→Prop
 | int (k:IntKind) (n:Int) (h:(Lit.int k n).wf=true):HasC (.int k) (.sc (.int k n))
 | bool (b:Bool):HasC .bool (.sc (.bool b))
 | str (s:ByteArray) (h:s.size≤maxLen):HasC .str (.sc (.string s))
 | sl (cs:List CT) (es:List (List V)) (hl:es.length≤maxLen) (h0:∀ e ∈ es,e.length=cs.length) (h:∀ e ∈ es,∀ (i:Nat) (c:V) (ct:CT),e[i]?=some c→cs[i]?=some ct→HasC ct c):HasC (.sl cs) (.sl cs.length es)
def HasRow (cts:List CT) (vs:List V):Prop:=vs.length=cts.length∧∀ (i:Nat) (c:V) (ct:CT),vs[i]?=some c→cts[i]?=some ct→HasC ct c
def zsX (f:TypeId→Option (List CT)) (size:TypeId→Nat):List Field→Nat→Option (List CT)
 | [],_=>some []
 | x::xs,off=>do
  let a ← f x.type
  if x.offset=off∧size x.type=a.length then
   let b ← zsX f size xs (off+a.length)
   some (a++b)
  else none
def znL (P:Program):Nat→TypeId→Option (List CT)
 | 0,_=>none
 | d+1,t=>match P.underlying t with
  | some .bool=>some [.bool]
  | some (.int k)=>some [.int k]
  | some .string=>some [.str]
  | some (.slice e)=>do
   let c ← znL P d e
   if P.cellsOf e=c.length∧0 < c.length then some [.sl c] else none
  | some (.array n e)=>do
   let c ← znL P d e
   if P.cellsOf e=c.length∧P.cellsOf t=n * c.length then some (List.replicate n c).flatten else none
  | some (.struct fs)=>do
   let c ← zsX (znL P d) P.cellsOf fs.toList 0
   if P.cellsOf t=c.length then some c else none
  | _=>none
section
variable {H:Type} {enc:TypeId × Value→H} {P:Program} {w:World} {base:Nat} {spare:Nat→Bool} {held:Bool} {ren:Rn}
def RdC (ren:Rn) (w:World) (cts:List CT) (cs:List Value) (vs:List V):Prop :=
 cs.length=cts.length∧vs.length=cts.length∧∀ (i:Nat) (u:Value) (v:V) (ct:CT),cs[i]?=some u→vs[i]?=some v→cts[i]?=some ct→u.oneCell'=true∧RepP ren w zj0 v u∧HasC ct v
theorem RdC.one {ct:CT} {u:Value} {v:V} (h1:u.oneCell'=true) (h2:RepP ren w zj0 v u) (h3:HasC ct v):RdC ren w [ct] [u] [v]:=by
 refine ⟨rfl,rfl,fun i u' v' ct' hu hv hc=>?_⟩
 cases i with
 | zero=>simp at hu hv hc; subst hu; subst hv; subst hc; exact ⟨h1,h2,h3⟩
 | succ i=>simp at hu
theorem RdC.nil:RdC ren w [] [] []:=⟨rfl,rfl,fun i u v ct h=>by simp at h⟩
theorem RdC.app {c1 c2:List CT} {a1 a2:List Value} {b1 b2:List V} (h1:RdC ren w c1 a1 b1) (h2:RdC ren w c2 a2 b2):RdC ren w (c1++c2) (a1++a2) (b1++b2):=by
 obtain ⟨l1,m1,q1⟩:=h1
 obtain ⟨l2,m2,q2⟩:=h2
 refine ⟨by simp [l1,l2],by simp [m1,m2],fun i u v ct hu hv hc=>?_⟩
 by_cases hi:i < c1.length
 ·rw [List.getElem?_append_left (by omega)] at hu hv hc
  exact q1 i u v ct hu hv hc
 ·rw [List.getElem?_append_right (by omega)] at hu hv hc
  rw [l1] at hu; rw [m1] at hv
  exact q2 _ u v ct hu hv hc
theorem RdC.row {cts:List CT} {cs:List Value} {vs:List V} (h:RdC ren w cts cs vs):HasRow cts vs:=by
 refine ⟨h.2.1,fun i c ct hc ht=>?_⟩
 have hlt:i < cs.length:=by rw [h.1,← h.2.1]; exact (List.getElem?_eq_some_iff.1 hc).1
 exact (h.2.2 i _ c ct (List.getElem?_eq_getElem hlt) hc ht).2.2
theorem zsd {f:TypeId→Option (List CT)} {size:TypeId→Nat} {cs:List Value} (rd:∀ (t:TypeId) (cts:List CT),f t=some cts→∀ x ∈ ([]:List Nat),True) :
  ∀ (fs:List Field) (off:Nat) (cts:List CT),zsX f size fs off=some cts→(∀ x ∈ fs,∀ a,f x.type=some a→∃ vs,RdC ren w a ((cs.drop x.offset).take (size x.type)) vs)→∃ vs,RdC ren w cts ((cs.drop off).take cts.length) vs
 | [],off,cts,h,_=>by
  cases h
  exact ⟨[],by simpa using RdC.nil⟩
 | x::xs,off,cts,h,H=>by
  simp only [zsX,Option.bind_eq_bind,Option.bind_eq_some_iff] at h
  obtain ⟨a,ha,h⟩:=h
  split at h
  ·rename_i hc
   simp only [Option.bind_eq_some_iff,Option.some.injEq] at h
   obtain ⟨b,hb,rfl⟩:=h
   obtain ⟨vs1,r1⟩:=H x (by simp) a ha
   obtain ⟨vs2,r2⟩:=zsd rd xs _ b hb (fun y hy=>H y (by simp [hy]))
   refine ⟨vs1++vs2,?_⟩
   have e:(cs.drop off).take (a++b).length=(cs.drop x.offset).take (size x.type)++(cs.drop (off+a.length)).take b.length:=by
    rw [hc.1,hc.2,List.length_append,List.take_add,List.drop_drop]
   rw [e]
   exact r1.app r2
  ·cases h
theorem ztD {cs:List Value} {c:List CT}:∀ (n m:Nat),(∀ i,i < n→∃ vs,RdC ren w c ((cs.drop ((m+i) * c.length)).take c.length) vs)→∃ vs,RdC ren w (List.replicate n c).flatten ((cs.drop (m * c.length)).take (n * c.length)) vs
 | 0,m,H=>⟨[],by simpa using RdC.nil⟩
 | n+1,m,H=>by
  obtain ⟨vs1,r1⟩:=H 0 (by omega)
  obtain ⟨vs2,r2⟩:=ztD n (m+1) (fun i hi=>by
   obtain ⟨vs,r⟩:=H (i+1) (by omega)
   exact ⟨vs,by rw [show m+1+i=m+(i+1) by omega]; exact r⟩)
  refine ⟨vs1++vs2,?_⟩
  have e:(cs.drop (m * c.length)).take ((n+1) * c.length)=(cs.drop ((m+0) * c.length)).take c.length++(cs.drop ((m+1) * c.length)).take (n * c.length):=by
   rw [Nat.add_zero,Nat.add_mul n,Nat.one_mul,Nat.add_comm (n * c.length),List.take_add,List.drop_drop,show (m+1) * c.length=m * c.length+c.length by rw [Nat.add_mul,Nat.one_mul]]
   rw [show m+0=m from rfl]
  rw [e,List.replicate_succ,List.flatten_cons]
  exact r1.app r2
theorem zyo {α:Type} {n:Nat}:∀ (es:List (List α)),(∀ e ∈ es,e.length=n)→0 < n→∀ (i:Nat),es.flatten[i]?=(es[i / n]?).bind (fun e=>e[i % n]?)
 | [],_,_,i=>by simp
 | e::es,h,hn,i=>by
  have he:=h e (by simp)
  rw [List.flatten_cons]
  by_cases hi:i < n
  ·rw [List.getElem?_append_left (by omega),Nat.div_eq_of_lt hi,Nat.mod_eq_of_lt hi]; simp
  ·rw [List.getElem?_append_right (by omega),zyo es (fun x hx=>h x (by simp [hx])) hn,he]
   obtain ⟨j,rfl⟩:∃ j,i=j+n:=⟨i - n,by omega⟩
   rw [Nat.add_sub_cancel,Nat.add_div_right _ hn,Nat.add_mod_right]
   simp
theorem zqG:∀ (d:Nat) (t:TypeId) (cts:List CT),znL P d t=some cts→∀ (fuel:Nat) (cs:List Value) (x:DataW H × List MemPlace),DataW.trod enc P w base spare held fuel t cs=some x→∃ vs,RdC ren w cts cs vs
 | 0,t,cts,h,fuel,cs,x,hx=>by cases h
 | d+1,t,cts,h,fuel,cs,x,hx=>by
  unfold znL at h
  split at h
  ·rename_i ht
   cases h
   obtain ⟨b,rfl,_⟩:=DataW.trod_bool ht hx
   exact ⟨[.sc (.bool b)],.one rfl (.sc _ rfl) (.bool b)⟩
  ·rename_i k ht
   cases h
   obtain ⟨n,rfl,_,hw⟩:=DataW.trod_int ht hx
   exact ⟨[.sc (.int k n)],.one rfl (.sc _ rfl) (.int k n hw)⟩
  ·rename_i ht
   cases h
   obtain ⟨s,rfl,_,hw⟩:=DataW.trod_string ht hx
   exact ⟨[.sc (.string s)],.one rfl (.sc _ rfl) (.str s hw)⟩
  ·rename_i e ht
   simp only [Option.bind_eq_bind,Option.bind_eq_some_iff] at h
   obtain ⟨c,hc,h⟩:=h
   split at h
   ·rename_i hsz
    obtain ⟨hsz,hpos⟩:=hsz
    cases h
    rcases open_slice ht hx with ⟨rfl,_⟩ | ⟨a,len,cap,m,n,D,Pl,rfl,_,hl,hm,hmm,_,hi⟩
    ·refine ⟨[.sl c.length []],.one rfl (.sl _ [] none 0 (fun _=>undef) (Nat.le_refl _) (by simp) 0 0 (by simp) (by simp) (by simp) (by simp)) (.sl c [] (by simp) (by simp) (by simp))⟩
    ·have hlm:len≤m:=by rw [hmm]; split <;> omega
     have each:∀ i,i < len→∃ (us:List Value) (vs:List V),RdC ren w c us vs∧∀ j,j < c.length→w.cell? ((a.add (i * c.length)).add j)=us[j]?:=by
      intro i hil
      obtain ⟨cs',h1,h2⟩:=hi i (by omega)
      rw [hsz] at h1
      obtain ⟨_,hcl,hat⟩:=World.cells?_some h1
      obtain ⟨vs,r⟩:=zqG d e c hc _ _ _ h2
      exact ⟨cs',vs,r,hat⟩
     have hex:∃ (us:Nat→List Value) (vs:Nat→List V),∀ i,i < len→RdC ren w c (us i) (vs i)∧∀ j,j < c.length→w.cell? ((a.add (i * c.length)).add j)=(us i)[j]?:=by
      have:∀ i,∃ p:List Value × List V,i < len→RdC ren w c p.1 p.2∧∀ j,j < c.length→w.cell? ((a.add (i * c.length)).add j)=p.1[j]?:=by
       intro i
       by_cases hil:i < len
       ·obtain ⟨us,vs,q⟩:=each i hil; exact ⟨(us,vs),fun _=>q⟩
       ·exact ⟨([],[]),fun h=>absurd h hil⟩
      refine ⟨fun i=>(Classical.choose (this i)).1,fun i=>(Classical.choose (this i)).2,fun i hil=>Classical.choose_spec (this i) hil⟩
     obtain ⟨us,vs,hrow⟩:=hex
     have hget:∀ i,i < len→((List.range len).map vs)[i]?=some (vs i):=fun i hil=>by simp [hil]
     have hsz2:∀ e ∈ (List.range len).map vs,e.length=c.length:=by
      intro e he
      obtain ⟨i,hil,rfl⟩:=List.mem_map.1 he
      exact (hrow i (List.mem_range.1 hil)).1.2.1
     have cell:∀ (i:Nat) (v:V),((List.range len).map vs).flatten[i]?=some v→0 < c.length∧i / c.length < len∧(vs (i / c.length))[i % c.length]?=some v∧∃ u,(us (i / c.length))[i % c.length]?=some u∧u.oneCell'=true∧RepP ren w zj0 v u∧w.cell? ((a.add (i / c.length * c.length)).add (i % c.length))=some u:=by
      intro i v hv
      have hpos:0 < c.length:=by
       rcases Nat.eq_zero_or_pos c.length with h0 | h0
       ·have:((List.range len).map vs).flatten=[]:=by
         rw [List.flatten_eq_nil_iff]
         intro l hl'
         exact List.length_eq_zero_iff.1 ((hsz2 l hl').trans h0)
        rw [this] at hv; simp at hv
       ·exact h0
      rw [zyo _ hsz2 hpos] at hv
      have hlt:i / c.length < len:=by
       cases hq:((List.range len).map vs)[i / c.length]? with
       | none=>rw [hq] at hv; simp at hv
       | some e=>have:=(List.getElem?_eq_some_iff.1 hq).1; simpa using this
      rw [hget _ hlt] at hv
      have hv:(vs (i / c.length))[i % c.length]?=some v:=hv
      have hr:=hrow _ hlt
      have hm:=Nat.mod_lt i hpos
      have hu:(us (i / c.length))[i % c.length]?=some ((us (i / c.length))[i % c.length]'(by rw [hr.1.1]; exact hm)):=List.getElem?_eq_getElem _
      obtain ⟨q1,q2,q3⟩:=hr.1.2.2 _ _ _ _ hu hv (List.getElem?_eq_getElem hm)
      exact ⟨hpos,hlt,hv,_,hu,q1,q2,by rw [hr.2 _ hm]; exact hu⟩
     have spot:((List.range len).map vs).flatten≠[]→a.spot=none:=by
      intro hne
      have hl0:0 < ((List.range len).map vs).flatten.length:=List.length_pos_iff.2 hne
      obtain ⟨_,_,_,u,_,_,_,hcell⟩:=cell 0 _ (List.getElem?_eq_getElem hl0)
      have hcell:w.cell? a=some u:=by simpa [Addr.add] using hcell
      unfold World.cell? at hcell
      split at hcell
      ·split at hcell
       ·cases hcell
       ·rename_i hs; simpa using hs
      ·cases hcell
     have addr:((List.range len).map vs).flatten≠[]→a=⟨a.block,a.off,none⟩:=by
      intro hne
      have:=spot hne
      cases a; simp_all
     have addto:∀ i v,((List.range len).map vs).flatten[i]?=some v→(a.add (i / c.length * c.length)).add (i % c.length)=⟨a.block,a.off+i,none⟩:=by
      intro i v hv
      have hne:((List.range len).map vs).flatten≠[]:=by intro h0; rw [h0] at hv; simp at hv
      rw [addr hne,zdm,zdm]
      have:=Nat.div_add_mod i c.length
      rw [Nat.mul_comm] at this
      show (⟨a.block,a.off+i / c.length * c.length+i % c.length,none⟩:Addr)=⟨a.block,a.off+i,none⟩
      congr 1; omega
     have hcap:len≤maxLen:=by omega
     have hlen:((List.range len).map vs).length=len:=by simp
     have rp:RepP ren w zj0 (.sl c.length ((List.range len).map vs)) (.slice (some a) ((List.range len).map vs).length cap):=by
      by_cases hne:((List.range len).map vs).flatten=[]
      ·
       have:(List.range len).map vs=[]:=by
        cases hes:(List.range len).map vs with
        | nil=>rfl
        | cons e es =>
         have h1:=hsz2 e (by rw [hes]; simp)
         rw [hes,List.flatten_cons,List.append_eq_nil_iff] at hne
         rw [hne.1] at h1
         simp at h1; omega
       rw [this]
       exact .sl _ [] (some a) cap (fun _=>undef) (Nat.zero_le _) (by simp) 0 0 (by simp) (by simp) (by simp) (by simp)
      ·refine .sl _ _ (some a) cap (fun i=>(w.cell? ⟨a.block,a.off+i,none⟩).getD undef) (by rw [hlen]; exact hl) hsz2 a.block a.off (fun _=>by rw [← addr hne]) (fun i v hv=>?_) (fun i v hv=>?_) (fun i v hv=>?_) <;>
        (obtain ⟨hpos,hlt,hv',u,hu,q1,q2,hcell⟩:=cell i v hv
         rw [addto i v hv] at hcell
         simp only [hcell,Option.getD_some])
       ·exact ⟨fun h=>h,trivial⟩
       ·exact q1
       ·exact q2
     refine ⟨[.sl c.length ((List.range len).map vs)],.one rfl (by rw [hlen] at rp; exact rp) (.sl c _ (by rw [hlen]; exact hcap) hsz2 (fun e he i v ct hv hct=>?_))⟩
     obtain ⟨q,hq,rfl⟩:=List.mem_map.1 he
     exact (hrow q (List.mem_range.1 hq)).1.row.2 i v ct hv hct
   ·cases h
  ·rename_i n e ht
   simp only [Option.bind_eq_bind,Option.bind_eq_some_iff] at h
   obtain ⟨c,hc,h⟩:=h
   split at h
   ·rename_i hsz
    cases h
    obtain ⟨xs,m,_,_,hl,hxl,hi⟩:=DataW.trod_array ht hx
    have:=ztD (ren:=ren) (w:=w) (cs:=cs) (c:=c) n 0 (fun i hin=>by
     have:=hi i hin
     rw [List.getElem?_eq_getElem (by omega)] at this
     rw [hsz.1] at this
     obtain ⟨vs,r⟩:=zqG d e c hc _ _ _ this
     exact ⟨vs,by rw [Nat.zero_add]; exact r⟩)
    rw [Nat.zero_mul,List.drop_zero,List.take_of_length_le (by omega)] at this
    exact this
   ·cases h
  ·rename_i fs ht
   simp only [Option.bind_eq_bind,Option.bind_eq_some_iff] at h
   obtain ⟨c,hc,h⟩:=h
   split at h
   ·rename_i hsz
    cases h
    obtain ⟨xs,m,_,_,hl,hxl,hi⟩:=DataW.trod_struct ht hx
    have:=zsd (ren:=ren) (w:=w) (cs:=cs) (fun _ _ _ _ h=>by cases h) fs.toList 0 cts hc (fun y hy a ha=>by
     obtain ⟨i,hil,rfl⟩:=List.getElem_of_mem hy
     have hil':i < fs.size:=by simpa using hil
     have:=hi i fs[i] (Array.getElem?_eq_getElem hil')
     rw [List.getElem?_eq_getElem (by omega)] at this
     exact zqG d _ a ha _ _ _ (by simpa using this))
    rw [List.drop_zero,List.take_of_length_le (by omega)] at this
    exact this
   ·cases h
  ·cases h
theorem zv6 {r:Reach} {b0:Nat} {t:TypeId} {v:Value} {dd:DataW H} {p:List MemPlace} {ct:CT} {d:Nat} (hv1:v.cells=#[v]) (h:DataW.Trod enc P w base spare held t v dd p) (hc:znL P d t=some [ct]) :
  ∃ x,HasC ct x∧RepP ren w zj0 x v:=by
 obtain ⟨fuel,hf⟩:=h
 obtain ⟨vs,rd⟩:=zqG (ren:=ren) d t [ct] hc _ _ _ hf
 rw [hv1] at rd
 have hl:vs.length=1:=rd.2.1
 obtain ⟨x,rfl⟩:∃ x,vs=[x]:=by
  match vs,hl with
  | [x],_=>exact ⟨x,rfl⟩
 obtain ⟨q1,q2,q3⟩:=rd.2.2 0 v x ct rfl rfl rfl
 exact ⟨x,q3,q2⟩
theorem HasC.int_inv {k:IntKind} {v:V} (h:HasC (.int k) v):∃ n,v=.sc (.int k n)∧(Lit.int k n).wf=true:=by
 cases h with | int _ n h=>exact ⟨n,rfl,h⟩
theorem HasC.sl_inv {cs:List CT} {v:V} (h:HasC (.sl cs) v):∃ es,v=.sl cs.length es∧es.length≤maxLen∧∀ e ∈ es,HasRow cs e:=by
 cases h with | sl _ es hl h0 h=>exact ⟨es,rfl,hl,fun e he=>⟨h0 e he,h e he⟩⟩
end
def zs0:V→Bor→Option Bool:=fun v _=>match v with
 | .sc (.bool true)=>some true
 | _=>none
theorem zAA {v:V} {b:Bor} (h:zs0 v b=some true):v=.sc (.bool true):=by
 unfold zs0 at h
 split at h
 ·rfl
 ·cases h
end
section
set_option linter.unusedVariables false
set_option linter.unusedSimpArgs false
section
variable {β:Type}
theorem yw {α:Type} (a:α) (k:α→Option β):lt a k=k a:=Eq.trans rfl rfl
theorem zp {p:Prop} {inst:Decidable p} (h:p) (k:Option β):@chk β p inst k=k:=(zfr p k).trans (if_pos h)
theorem zsZ {inst:Decidable True} (k:Option β):@chk β True inst k=k:=(zfr True k).trans (if_pos trivial)
theorem xT (a b:Option β):ifb true a b=a:=rfl
theorem yE (a b:Option β):ifb false a b=b:=rfl
theorem zp9 {p:Prop} {inst:Decidable p} (a b:Option β):ifb (@decide p inst) a b=if p then a else b:=by
 by_cases h:p <;> simp [ifb,h]
theorem xA {p:Prop} {inst:Decidable p} (h:p) (a b:Option β):ifb (@decide p inst) a b=a:=by rw [zp9,if_pos h]
theorem zz {p:Prop} {inst:Decidable p} (h:¬ p) (a b:Option β):ifb (@decide p inst) a b=b:=by rw [zp9,if_neg h]
theorem zaC {x y:Int} (h:x=y) (a b:Option β):ifb (x == y) a b=a:=by subst h; simp [ifb]
theorem zJ {x y:Int} (h:x≠y) (a b:Option β):ifb (x == y) a b=b:=by rw [beq_eq_false_iff_ne.2 h]; rfl
theorem zaE {kd:IntKind} {cs:List V} {off:Nat} {n:Int} (h:cs[off]?=some (.sc (.int kd n))) (k:Int→Option β):cI kd cs off k=k n:=by
 simp [cI,zej,h,aI,zsZ]
theorem zCM {cs:List V} {off:Nat} {b:Bool} (h:cs[off]?=some (.sc (.bool b))) (k:Bool→Option β):cB cs off k=k b:=by
 simp [cB,zej,h,aB]
theorem zsO {sz:Nat} {cs:List V} {off:Nat} {es:List (List V)} (h:cs[off]?=some (.sl sz es)) (k:List (List V)→Option β):cL sz cs off k=k es:=by
 simp [cL,zej,h,aL,zsZ]
theorem zt3 {sz:Nat} {cs:List V} {off:Nat} {es:List (List V)} (h:cs[off]?=some (.sl sz es)) (k:List (List V)→Option β):cLd sz cs off k=k es:=by
 simp [cLd,zej,h,aLd,zsZ]
theorem zjY {es:List (List V)} {j:Int} {c:List V} (h0:0≤j) (h:es[j.toNat]?=some c) (k:List V→Option β):idx es j k=k c:=by
 simp [idx,h0,h,zsZ]
theorem zT {es:List (List V)} {j:Nat} {c:List V} (h:es[j]?=some c) (k:List V→Option β):idx es (j:Int) k=k c :=
 zjY (Int.natCast_nonneg j) (by simpa using h) k
end
theorem zeR {n:Int} (h1:-9223372036854775808≤n) (h2:n≤9223372036854775807):IntKind.wrap .i64 n=n:=IntWalk.i64_in _ ⟨h1,h2⟩
theorem zA2 {k:IntKind} {n:Int} (hk:k.signed=false) (h1:0≤n) (h2:n < 2 ^ k.bits):IntKind.wrap k n=n:=by
 unfold IntKind.wrap
 simp only [hk,Bool.false_and,Bool.false_eq_true,if_false]
 exact Int.emod_eq_of_lt h1 h2
theorem zoe {n:Int} (h1:0≤n) (h2:n≤18446744073709551615):IntKind.wrap .u64 n=n:=zA2 rfl h1 (Int.lt_of_le_of_lt h2 (by decide))
theorem zuj {n:Int} (h1:0≤n) (h2:n≤4294967295):IntKind.wrap .u32 n=n:=zA2 rfl h1 (Int.lt_of_le_of_lt h2 (by decide))
theorem zC6 {n:Int} (h:(Lit.int .u64 n).wf=true):0≤n∧n≤18446744073709551615:=by
 simpa [Lit.wf,IntKind.min,IntKind.max,IntKind.signed,IntKind.bits] using h
theorem zAL {n:Int} (h:(Lit.int .u32 n).wf=true):0≤n∧n≤4294967295:=by
 simpa [Lit.wf,IntKind.min,IntKind.max,IntKind.signed,IntKind.bits] using h
def zC (k:IntKind) (l:List Int):List (List V):=l.map fun n=>[.sc (.int k n)]
theorem zE (k:IntKind) (l:List Int):(zC k l).length=l.length:=by simp [zC]
theorem zdp (k:IntKind) {l:List Int} {i:Nat} (h:i < l.length):(zC k l)[i]?=some [.sc (.int k l[i])]:=by simp [zC,h]
theorem zAE (k:IntKind) (l:List Int) (i:Nat):(zC k l).drop i=zC k (l.drop i):=by simp [zC,List.map_drop]
theorem zBc (k:IntKind) (l:List Int) (i:Nat):(zC k l).take i=zC k (l.take i):=by simp [zC,List.map_take]
theorem zlX (k:IntKind) (l m:List Int):zC k l++zC k m=zC k (l++m):=by simp [zC]
theorem HasRow.int1 {k:IntKind} {e:List V} (h:HasRow [.int k] e):∃ n,e=[.sc (.int k n)]∧(Lit.int k n).wf=true:=by
 obtain ⟨h1,h2⟩:=h
 match e,h1 with
 | [v],_ =>
  obtain ⟨n,rfl,hn⟩:=(h2 0 v _ rfl rfl).int_inv
  exact ⟨n,rfl,hn⟩
theorem zsV {k:IntKind}:∀ {es:List (List V)},(∀ e ∈ es,HasRow [.int k] e)→∃ l:List Int,es=zC k l∧∀ n ∈ l,(Lit.int k n).wf=true
 | [],_=>⟨[],rfl,by simp⟩
 | e::es,h=>by
  obtain ⟨n,rfl,hn⟩:=(h e (by simp)).int1
  obtain ⟨l,rfl,hl⟩:=zsV (es:=es) (fun x hx=>h x (by simp [hx]))
  exact ⟨n::l,rfl,by simpa [hn] using hl⟩
def row (k:IntKind) (l:List Int):List V:=l.map fun n=>.sc (.int k n)
theorem zgt (k:IntKind) (l:List Int):(row k l).length=l.length:=by simp [row]
theorem zvy (k:IntKind):∀ (n:Nat) (l:List Int),n≤l.length→xc 1 n (row k l)=zC k (l.take n)
 | 0,l,_=>by simp [xc,zC]
 | n+1,[],h=>by simp at h
 | n+1,x::l,h=>by
  have:=zvy k n l (by simpa using h)
  simp only [row] at this
  simp [xc,row,zC,this]
theorem zBk (k:IntKind) (l:List Int) (i:Nat):(row k l).drop i=row k (l.drop i):=by simp [row,List.map_drop]
end
end Go.Proofs.Ytpbbfpfmdckclaa
