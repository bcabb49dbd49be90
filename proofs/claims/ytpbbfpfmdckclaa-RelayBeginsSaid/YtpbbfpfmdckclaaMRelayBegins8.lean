/- Part 8 of the proof of RelayBegins: an abstract machine over plain values, its soundness, and the functions of the program on plain values. -/
import Derived.Test.YtpbbfpfmdckclaaRows
import Derived.Test.YtpbbfpfmdckclaaMRelayBegins7
namespace Go.Proofs.Ytpbbfpfmdckclaa
section
set_option maxRecDepth 100000
set_option linter.unusedVariables false
set_option linter.unusedSimpArgs false
def zb8:CC:=(.seq (.seq (.reg [oo 41 (.move (tq 10) false),
   oo 42 (.bin .geq (tq 41) (.const (.sc (.int .i64 0)))),
   oo 43 (.move (tq 42) false),
   ⟨(some 44),false,(some (43,true)),.move (tq 10) false⟩,
   ⟨(some 45),false,(some (43,true)),.move (tq 7) false⟩,
   ⟨(some 46),false,(some (43,true)),.bin .lss (tq 44) (tq 45)⟩,
   oo 47 (.pick (tq 43) (tq 46) (.const (.sc (.bool false)))),
   oo 48 (.move (tq 47) false),
   ⟨(some 49),false,(some (48,true)),.move (tq 8) false⟩,
   ⟨(some 50),false,(some (48,true)),.move (tq 10) false⟩,
   ⟨(some 51),false,(some (48,true)),.indexAddrS 1 (tq 49) (tq 50)⟩,
   ⟨(some 52),false,(some (48,true)),.load false 1 (tq 51) false⟩,
   ⟨(some 53),false,(some (48,true)),.un .not (tq 52)⟩,
   oo 54 (.pick (tq 48) (tq 53) (.const (.sc (.bool false))))])
 (.cond (tq 54)
 .skip
 (.seq (.mask (bl 512 71) (bl 2305843009213693950975 71))
 (.exit 0))))
 (.seq (.block 1 (.seq (.reg [oo 59 (.move (tq 8) false),
   oo 60 (.move (tq 10) false),
   oo 61 (.indexAddrS 1 (tq 59) (tq 60)),
   oz (.store 1 (tq 61) (.const (.sc (.bool true))))])
 (.seq (.reg [oo 62 (.move (tq 9) true),
   oo 63 (.move (tq 10) false),
   oo 64 (.buildSlice 1 1 [(.sc (.int .i64 0))] [(0,1,(tq 63))]),
   oo 65 (.append 1 8 (tq 62) (tq 64)),
   oo 9 (.move (tq 65) true)])
 (.seq (.reg [oo 66 (.move (tq 1) false),
   oo 67 (.move (tq 10) false),
   oo 68 (.indexAddrS 1 (tq 66) (tq 67)),
   oo 69 (.load false 1 (tq 68) false)])
 (.cond (tq 69)
 (.seq (.mask (bl 512 71) (bl 2305843009213693950975 71))
 (.exit 0))
 .skip)))))
 (.reg [oo 55 (.move (tq 0) false),
   oo 56 (.move (tq 10) false),
   oo 57 (.indexAddrS 1 (tq 55) (tq 56)),
   oo 58 (.load false 1 (tq 57) false),
   oo 10 (.move (tq 58) false)])))
def zhE:CC:=(.seq (.reg [oo 70 (.move (tq 9) true),
   oo 6 (.move (tq 70) true)])
 .ret)
def zea:CF:=⟨71,[.tmp 6],
 (.seq (.reg [oo 6 (.move (.const (.gs 1 [])) true)])
 (.seq (.reg [oo 11 (.move (tq 0) false),
   oo 12 (.lenS (tq 11)),
   oo 7 (.move (tq 12) false)])
 (.seq (.seq (.reg [oo 13 (.move (tq 7) false),
   oo 14 (.move (tq 1) false),
   oo 15 (.lenS (tq 14)),
   oo 16 (.bin .neq (tq 13) (tq 15)),
   oo 17 (.move (tq 16) false),
   ⟨(some 18),false,(some (17,false)),.move (tq 7) false⟩,
   ⟨(some 19),false,(some (17,false)),.bin .gtr (tq 18) (.const (.sc (.int .i64 64)))⟩,
   oo 20 (.pick (tq 17) (.const (.sc (.bool true))) (tq 19)),
   oo 21 (.move (tq 20) false),
   ⟨(some 22),false,(some (21,false)),.move (tq 2) false⟩,
   ⟨(some 23),false,(some (21,false)),.bin .lss (tq 22) (.const (.sc (.int .i64 0)))⟩,
   oo 24 (.pick (tq 21) (.const (.sc (.bool true))) (tq 23)),
   oo 25 (.move (tq 24) false),
   ⟨(some 26),false,(some (25,false)),.move (tq 2) false⟩,
   ⟨(some 27),false,(some (25,false)),.move (tq 7) false⟩,
   ⟨(some 28),false,(some (25,false)),.bin .geq (tq 26) (tq 27)⟩,
   oo 29 (.pick (tq 25) (.const (.sc (.bool true))) (tq 28))])
 (.cond (tq 29)
 (.seq (.reg [oo 6 (.move (.const (.gs 1 [])) true)])
 .ret)
 .skip))
 (.seq (.reg [oo 30 (.move (tq 7) false),
   ⟨(some 31),true,none,.makeSlice 1 1 [(.sc (.bool false))] (tq 30) (tq 30)⟩,
   oo 8 (.move (tq 31) false)])
 (.seq (.reg [oo 32 (.move (tq 8) false),
   oo 33 (.move (tq 2) false),
   oo 34 (.indexAddrS 1 (tq 32) (tq 33)),
   oz (.store 1 (tq 34) (.const (.sc (.bool true))))])
 (.seq (.reg [oo 35 (.move (tq 2) false),
   oo 36 (.buildSlice 1 1 [(.sc (.int .i64 0))] [(0,1,(tq 35))]),
   oo 9 (.move (tq 36) true)])
 (.seq (.seq (.reg [oo 37 (.move (tq 0) false),
   oo 38 (.move (tq 2) false),
   oo 39 (.indexAddrS 1 (tq 37) (tq 38)),
   oo 40 (.load false 1 (tq 39) false),
   oo 10 (.move (tq 40) false)])
 (.block 0 (.loop (bl 1923 71) (bl 2305843009213693951999 71)
 zb8)))
 zhE)))))))⟩
def zo9:Hint:=⟨[(0,0),(3,0),(6,2),(11,0),(11,4),(13,0),(13,1)],[(4,1)],[none,none,none,some ((bl 1923 71),(bl 2305843009213693951999 71)),none,some ((bl 512 71),(bl 2305843009213693950975 71)),none,none,some ((bl 512 71),(bl 2305843009213693950975 71)),none],[],[],false,false⟩
def zbD:Nat→Sh:=xZ [(40,(.int .i64)),(52,.bool),(69,.bool),(58,(.int .i64))]
def zbG (L:Nat):CBC:=noC
def zdV:St→St:=yT 0 (bl 1923 71) (bl 2305843009213693951999 71)
def zcF (p0 p1:List (List V)) (p7:Int) (p8l:Nat) (p9:List (List V)) (p10:Int) (b31:List V):St:=⟨((V.sl 1 p0)::((V.sl 1 p1)::(jn 5 ((V.sc (.int .i64 p7))::((V.own 31 0 p8l 1)::((V.gs 1 p9)::((V.sc (.int .i64 p10))::(jn 60 [])))))))),(gn 31 ((.live true b31)::(gn 39 [])))⟩
def zjT (p9:List (List V)) (b31:List V):St:=⟨(jn 9 ((V.gs 1 p9)::(jn 61 []))),(gn 31 ((.live true b31)::(gn 39 [])))⟩
abbrev zjk (β:Type):Type:=List (List V)→List (List V)→Int→Nat→List (List V)→Int→List V→Option β
def zsa {β:Type} (L:Nat) (p0 p1:List (List V)) (p2:Int) (k_fin:List (List V)→Option β) (k_hbbbbbbaba:zjk β):Option β :=
 ifb ((((List.length p0:Nat):Int):Int) != ((List.length p1:Nat):Int)) (
 k_fin ([]:List (List V))) (
 ifb (decide (((List.length p0:Nat):Int) > (64:Int))) (
 k_fin ([]:List (List V))) (
 ifb (decide (p2 < (0:Int))) (
 k_fin ([]:List (List V))) (
 ifb (decide (p2 ≥ ((List.length p0:Nat):Int))) (
 k_fin ([]:List (List V))) (
 chk (0≤((List.length p0:Nat):Int)∧((List.length p0:Nat):Int)≤((List.length p0:Nat):Int)∧(Int.toNat ((List.length p0:Nat):Int)) * 1≤zj∧((List.length p0:Nat):Int)≤zj) (
 chk (0≤p2∧p2 < (((Int.toNat ((List.length p0:Nat):Int)):Nat):Int)) (
 chk (1=1∧(0+((Int.toNat p2) * 1))+1≤(List.length (List.flatten (List.replicate (Int.toNat ((List.length p0:Nat):Int)) [(V.sc (.bool false))])))) (
 lt (zc (List.flatten (List.replicate (Int.toNat ((List.length p0:Nat):Int)) [(V.sc (.bool false))])) (0+((Int.toNat p2) * 1)) [(V.sc (.bool true))]) fun r0 =>
 idx p0 p2 fun c1 =>
 cI .i64 c1 0 fun v2 =>
 k_hbbbbbbaba p0 p1 ((List.length p0:Nat):Int) (Int.toNat ((List.length p0:Nat):Int)) (xc 1 1 [(V.sc (.int .i64 p2))]) v2 r0)))))))
theorem zvo {β:Type} (L:Nat) (p0 p1:List (List V)) (p2:Int) (k:KK β):zK zbD (zbG L) L zea [(V.sl 1 p0),(V.sl 1 p1),(V.sc (.int .i64 p2))] [] k=zsa L p0 p1 p2 (fun p0=>k (V.gs 1 p0) []) (fun p0 p1 p7 p8l p9 p10 b31=>xG (zn zbD (zbG L) 0 L zb8) zdV L (zcF p0 p1 p7 p8l p9 p10 b31) (yy 0 (zM (zn zbD (zbG L) 0 L zhE) (zO 0 (CF.res zea) k)))):=by kernel_rfl
def zkb {β:Type} (L:Nat) (p0 p1:List (List V)) (p7:Int) (p8l:Nat) (p9:List (List V)) (p10:Int) (b31:List V) (k_x0:List (List V)→List V→Option β) (k_hbbbbbbaba:zjk β):Option β :=
 ifb (decide (p10 ≥ (0:Int))) (
 ifb (decide (p10 < p7)) (
 chk (0≤p10∧p10 < ((p8l:Nat):Int)) (
 cB b31 (0+((Int.toNat p10) * 1)) fun v3 =>
 ifb (!v3) (
 chk (0≤p10∧p10 < ((p8l:Nat):Int)) (
 chk (1=1∧(0+((Int.toNat p10) * 1))+1≤(List.length b31)) (
 lt (zc b31 (0+((Int.toNat p10) * 1)) [(V.sc (.bool true))]) fun r4 =>
 chk ((List.length p9+List.length (xc 1 1 [(V.sc (.int .i64 p10))])) * 8≤zj∧List.length p9+List.length (xc 1 1 [(V.sc (.int .i64 p10))])≤zj) (
 lt (p9++(xc 1 1 [(V.sc (.int .i64 p10))])) fun l5 =>
 idx p1 p10 fun c6 =>
 cB c6 0 fun v7 =>
 ifb v7 (
 k_x0 l5 r4) (
 idx p0 p10 fun c8 =>
 cI .i64 c8 0 fun v9 =>
 k_hbbbbbbaba p0 p1 p7 p8l l5 v9 r4))))) (
 k_x0 p9 b31))) (
 k_x0 p9 b31)) (
 k_x0 p9 b31)
theorem zol {β:Type} (L:Nat) (p0 p1:List (List V)) (p7:Int) (p8l:Nat) (p9:List (List V)) (p10:Int) (b31:List V) (X:St→Option β) (K:KT β):zn zbD (zbG L) 0 L zb8 (zcF p0 p1 p7 p8l p9 p10 b31) (zbw zdV X K)=zkb L p0 p1 p7 p8l p9 p10 b31 (fun p9 b31=>K (.exit 0) (zjT p9 b31)) (fun p0 p1 p7 p8l p9 p10 b31=>X (zcF p0 p1 p7 p8l p9 p10 b31)):=by kernel_rfl
def ziS {β:Type} (L:Nat) (p9:List (List V)) (b31:List V) (k_fin:List (List V)→Option β):Option β :=
 k_fin p9
theorem zmS {β:Type} (L:Nat) (p9:List (List V)) (b31:List V) (k:KK β):(yy 0 (zM (zn zbD (zbG L) 0 L zhE) (zO 0 (CF.res zea) k))) (.exit 0) (zjT p9 b31)=ziS L p9 b31 (fun p0=>k (V.gs 1 p0) []):=by kernel_rfl
def zgj {β:Type} (L:Nat) (k_x0:List (List V)→List V→Option β):Nat→List (List V)→List (List V)→Int→Nat→List (List V)→Int→List V→Option β
 | 0,_,_,_,_,_,_,_=>none
 | n+1,p0,p1,p7,p8l,p9,p10,b31=>zkb L p0 p1 p7 p8l p9 p10 b31 k_x0 (fun p0 p1 p7 p8l p9 p10 b31=>zgj L k_x0 n p0 p1 p7 p8l p9 p10 b31)
theorem zia {β:Type} (L:Nat) (K:KT β):∀ (n:Nat) (p0 p1:List (List V)) (p7:Int) (p8l:Nat) (p9:List (List V)) (p10:Int) (b31:List V),xG (zn zbD (zbG L) 0 L zb8) zdV n (zcF p0 p1 p7 p8l p9 p10 b31) K=zgj L (fun p9 b31=>K (.exit 0) (zjT p9 b31)) n p0 p1 p7 p8l p9 p10 b31:=by
 intro n
 induction n with
 | zero=>intros; rfl
 | succ n ih =>
  intro p0 p1 p7 p8l p9 p10 b31
  refine (zol L p0 p1 p7 p8l p9 p10 b31 (fun σ=>xG (zn zbD (zbG L) 0 L zb8) zdV n σ K) K).trans ?_
  simp only [ih]
  rfl
def zn8 {β:Type} (L:Nat) (p0 p1:List (List V)) (p2:Int) (k_fin:List (List V)→Option β):Option β :=
 zsa L p0 p1 p2 k_fin (fun p0 p1 p7 p8l p9 p10 b31=>zgj L (fun p9 b31=>ziS L p9 b31 k_fin) L p0 p1 p7 p8l p9 p10 b31)
theorem zvr {β:Type} (L:Nat) (p0 p1:List (List V)) (p2:Int) (k:KK β):zK zbD (zbG L) L zea [(V.sl 1 p0),(V.sl 1 p1),(V.sc (.int .i64 p2))] [] k=zn8 L p0 p1 p2 (fun p0=>k (V.gs 1 p0) []):=by
 refine (zvo L p0 p1 p2 k).trans ?_
 unfold zn8
 first
  | (simp only [zia,zmS]; done)
  | (simp only [zia]; rfl)
abbrev zkI:=∀ (β:Type),Nat→List (List V)→List (List V)→Int→(List (List V)→Option β)→Option β
def zal (β:Type) (L:Nat) (p0 p1:List (List V)) (p2:Int) (k_fin:List (List V)→Option β):Option β:=zn8 L p0 p1 p2 k_fin
def zlk (zal:zkI) (L:Nat) (β:Type) (args:List V) (bor:Bor) (k:KK β):Option β:=match args,bor with
 | [a0,a1,a2],[]=>aL 1 a0 fun p0=>aL 1 a1 fun p1=>aI .i64 a2 fun p2=>zal β L p0 p1 p2 (fun p0=>k (V.gs 1 p0) [])
 | _,_=>none
theorem zu3 (L:Nat) (β:Type) (args:List V) (bor:Bor) (k:KK β) (r:β) (h:zlk zal L β args bor k=some r):zK zbD (zbG L) L zea args bor k=some r:=by
 unfold zlk at h
 split at h
 ·have q:=zaZ h; clear h; obtain ⟨p0,rfl,h⟩:=q
  have q:=zaZ h; clear h; obtain ⟨p1,rfl,h⟩:=q
  have q:=zaG h; clear h; obtain ⟨p2,rfl,h⟩:=q
  exact (zvr L p0 p1 p2 k).trans h
 ·cases h
def zee:CC:=(.seq (.reg [oo 11 (.bin .lss (tq 10) (tq 9))])
 (.seq (.cond (tq 11)
 .skip
 (.seq (.mask (bl 0 40) (bl 1099494850319 40))
 (.exit 0)))
 (.seq (.block 1 (.seq (.reg [oo 12 (.move (tq 10) false),
   oo 13 (.indexAddrS 1 (tq 8) (tq 10)),
   oo 14 (.load false 1 (tq 13) false),
   oo 6 (.move (tq 12) false),
   oo 7 (.move (tq 14) false)])
 (.seq (.reg [oo 15 (.move (tq 6) false),
   oo 16 (.bin .gtr (tq 15) (.const (.sc (.int .i64 0)))),
   oo 17 (.move (tq 16) false),
   ⟨(some 18),false,(some (17,true)),.move (tq 7) false⟩,
   ⟨(some 19),false,(some (17,true)),.bin .geq (tq 18) (.const (.sc (.int .i64 0)))⟩,
   oo 20 (.pick (tq 17) (tq 19) (.const (.sc (.bool false)))),
   oo 21 (.move (tq 20) false),
   ⟨(some 22),false,(some (21,true)),.move (tq 7) false⟩,
   ⟨(some 23),false,(some (21,true)),.move (tq 1) false⟩,
   ⟨(some 24),false,(some (21,true)),.lenS (tq 23)⟩,
   ⟨(some 25),false,(some (21,true)),.bin .lss (tq 22) (tq 24)⟩,
   oo 26 (.pick (tq 21) (tq 25) (.const (.sc (.bool false)))),
   oo 27 (.move (tq 26) false),
   ⟨(some 28),false,(some (27,true)),.move (tq 1) false⟩,
   ⟨(some 29),false,(some (27,true)),.move (tq 7) false⟩,
   ⟨(some 30),false,(some (27,true)),.indexAddrS 1 (tq 28) (tq 29)⟩,
   ⟨(some 31),false,(some (27,true)),.load false 1 (tq 30) false⟩,
   oo 32 (.pick (tq 27) (tq 31) (.const (.sc (.bool false))))])
 (.cond (tq 32)
 (.seq (.dreg [] [(oo 33 (.move (tq 6) false),q0),
   (oo 34 (.move (tq 0) false),q0),
   (oo 35 (.move (tq 6) false),q0),
   (oo 36 (.bin .sub (tq 35) (.const (.sc (.int .i64 1)))),q0),
   (oo 37 (.indexAddrS 1 (tq 34) (tq 36)),q0),
   (oo 38 (.load false 1 (tq 37) false),q0),
   (oo 4 (.move (tq 33) false),q0),
   (oo 5 (.move (tq 38) false),q0)])
 (.seq (.mask (bl 48 40) (bl 1099494850367 40))
 .ret))
 .skip))))
 (.reg [oo 39 (.bin .add (tq 10) (.const (.sc (.int .i64 1)))),
   oo 10 (.move (tq 39) false)]))))
def ziA:CC:=(.seq (.reg [oo 4 (.move (.const (.sc (.int .i64 (-1)))) false),
   oo 5 (.move (.const (.sc (.int .i64 (-1)))) false)])
 .ret)
def zc1:CF:=⟨40,[.tmp 4,.tmp 5],
 (.seq (.reg [oo 4 (.move (.const (.sc (.int .i64 0))) false),
   oo 5 (.move (.const (.sc (.int .i64 0))) false)])
 (.seq (.seq (.reg [oo 8 (.move (tq 0) false),
   oo 9 (.lenS (tq 8)),
   oo 10 (.move (.const (.sc (.int .i64 0))) false)])
 (.block 0 (.loop (bl 1795 40) (bl 1099494850319 40)
 zee)))
 ziA))⟩
def zoX:Hint:=⟨[],[],[none,some ((bl 1795 40),(bl 1099494850319 40)),none,some ((bl 0 40),(bl 1099494850319 40)),none,none,some ((bl 48 40),(bl 1099494850367 40)),none],[],[],false,false⟩
def za8:Nat→Sh:=xZ [(14,(.int .i64)),(31,.bool),(38,(.int .i64))]
def zba (L:Nat):CBC:=noC
def zg5:St→St:=yT 0 (bl 1795 40) (bl 1099494850319 40)
def ze9 (p0 p1 p8:List (List V)) (p9 p10:Int):St:=⟨((V.sl 1 p0)::((V.sl 1 p1)::(jn 6 ((V.sl 1 p8)::((V.sc (.int .i64 p9))::((V.sc (.int .i64 p10))::(jn 29 []))))))),(gn 40 [])⟩
def zi9 (p4 p5:Int):St:=⟨(jn 4 ((V.sc (.int .i64 p4))::((V.sc (.int .i64 p5))::(jn 34 [])))),(gn 40 [])⟩
def zj6:St:=⟨(jn 40 []),(gn 40 [])⟩
abbrev znk (β:Type):Type:=List (List V)→List (List V)→List (List V)→Int→Int→Option β
def zsv {β:Type} (L:Nat) (p0 p1:List (List V)) (k_hbaba:znk β):Option β :=
 k_hbaba p0 p1 p0 ((List.length p0:Nat):Int) (0:Int)
theorem zvJ {β:Type} (L:Nat) (p0 p1:List (List V)) (k:KK β):zK za8 (zba L) L zc1 [(V.sl 1 p0),(V.sl 1 p1)] [] k=zsv L p0 p1 (fun p0 p1 p8 p9 p10=>xG (zn za8 (zba L) 0 L zee) zg5 L (ze9 p0 p1 p8 p9 p10) (yy 0 (zM (zn za8 (zba L) 0 L ziA) (zO 0 (CF.res zc1) k)))):=by kernel_rfl
def zn9 {β:Type} (L:Nat) (p0 p1 p8:List (List V)) (p9 p10:Int) (k_ret:Int→Int→Option β) (k_hbaba:znk β) (k_x0:Option β):Option β :=
 ifb (decide (p10 < p9)) (
 idx p8 p10 fun c0 =>
 cI .i64 c0 0 fun v1 =>
 ifb (decide (p10 > (0:Int))) (
 ifb (decide (v1 ≥ (0:Int))) (
 ifb (decide (v1 < ((List.length p1:Nat):Int))) (
 idx p1 v1 fun c2 =>
 cB c2 0 fun v3 =>
 ifb v3 (
 lt (IntKind.wrap .i64 ((p10:Int) - (1:Int))) fun x4 =>
 idx p0 x4 fun c5 =>
 cI .i64 c5 0 fun v6 =>
 k_ret p10 v6) (
 lt (IntKind.wrap .i64 ((p10:Int)+(1:Int))) fun x7 =>
 k_hbaba p0 p1 p8 p9 x7)) (
 lt (IntKind.wrap .i64 ((p10:Int)+(1:Int))) fun x8 =>
 k_hbaba p0 p1 p8 p9 x8)) (
 lt (IntKind.wrap .i64 ((p10:Int)+(1:Int))) fun x9 =>
 k_hbaba p0 p1 p8 p9 x9)) (
 lt (IntKind.wrap .i64 ((p10:Int)+(1:Int))) fun x10 =>
 k_hbaba p0 p1 p8 p9 x10)) (
 k_x0)
theorem zru {β:Type} (L:Nat) (p0 p1 p8:List (List V)) (p9 p10:Int) (X:St→Option β) (K:KT β):zn za8 (zba L) 0 L zee (ze9 p0 p1 p8 p9 p10) (zbw zg5 X K)=zn9 L p0 p1 p8 p9 p10 (fun p4 p5=>K .ret (zi9 p4 p5)) (fun p0 p1 p8 p9 p10=>X (ze9 p0 p1 p8 p9 p10)) (K (.exit 0) (zj6)):=by kernel_rfl
def zly {β:Type} (L:Nat) (p4 p5:Int) (k_fin:Int→Int→Option β):Option β :=
 k_fin p4 p5
theorem zpv {β:Type} (L:Nat) (p4 p5:Int) (k:KK β):(yy 0 (zM (zn za8 (zba L) 0 L ziA) (zO 0 (CF.res zc1) k))) .ret (zi9 p4 p5)=zly L p4 p5 (fun zE0 zE1=>k (V.tup [(V.sc (.int .i64 zE0)),(V.sc (.int .i64 zE1))]) []):=by kernel_rfl
def zmJ {β:Type} (L:Nat) (k_fin:Int→Int→Option β):Option β :=
 k_fin (-1:Int) (-1:Int)
theorem zqo {β:Type} (L:Nat) (k:KK β):(yy 0 (zM (zn za8 (zba L) 0 L ziA) (zO 0 (CF.res zc1) k))) (.exit 0) (zj6)=zmJ L (fun zE0 zE1=>k (V.tup [(V.sc (.int .i64 zE0)),(V.sc (.int .i64 zE1))]) []):=by kernel_rfl
def zjX {β:Type} (L:Nat) (k_ret:Int→Int→Option β) (k_x0:Option β):Nat→List (List V)→List (List V)→List (List V)→Int→Int→Option β
 | 0,_,_,_,_,_=>none
 | n+1,p0,p1,p8,p9,p10=>zn9 L p0 p1 p8 p9 p10 k_ret (fun p0 p1 p8 p9 p10=>zjX L k_ret k_x0 n p0 p1 p8 p9 p10) k_x0
theorem zlA {β:Type} (L:Nat) (K:KT β):∀ (n:Nat) (p0 p1 p8:List (List V)) (p9 p10:Int),xG (zn za8 (zba L) 0 L zee) zg5 n (ze9 p0 p1 p8 p9 p10) K=zjX L (fun p4 p5=>K .ret (zi9 p4 p5)) (K (.exit 0) (zj6)) n p0 p1 p8 p9 p10:=by
 intro n
 induction n with
 | zero=>intros; rfl
 | succ n ih =>
  intro p0 p1 p8 p9 p10
  refine (zru L p0 p1 p8 p9 p10 (fun σ=>xG (zn za8 (zba L) 0 L zee) zg5 n σ K) K).trans ?_
  simp only [ih]
  rfl
def zoj {β:Type} (L:Nat) (p0 p1:List (List V)) (k_fin:Int→Int→Option β):Option β :=
 zsv L p0 p1 (fun p0 p1 p8 p9 p10=>zjX L (fun p4 p5=>zly L p4 p5 k_fin) (zmJ L k_fin) L p0 p1 p8 p9 p10)
theorem zuK {β:Type} (L:Nat) (p0 p1:List (List V)) (k:KK β):zK za8 (zba L) L zc1 [(V.sl 1 p0),(V.sl 1 p1)] [] k=zoj L p0 p1 (fun zE0 zE1=>k (V.tup [(V.sc (.int .i64 zE0)),(V.sc (.int .i64 zE1))]) []):=by
 refine (zvJ L p0 p1 k).trans ?_
 unfold zoj
 first
  | (simp only [zlA,zpv,zqo]; done)
  | (simp only [zlA]; rfl)
abbrev zkZ:=∀ (β:Type),Nat→List (List V)→List (List V)→(Int→Int→Option β)→Option β
def zaj (β:Type) (L:Nat) (p0 p1:List (List V)) (k_fin:Int→Int→Option β):Option β:=zoj L p0 p1 k_fin
def zkB (zaj:zkZ) (L:Nat) (β:Type) (args:List V) (bor:Bor) (k:KK β):Option β:=match args,bor with
 | [a0,a1],[]=>aL 1 a0 fun p0=>aL 1 a1 fun p1=>zaj β L p0 p1 (fun zE0 zE1=>k (V.tup [(V.sc (.int .i64 zE0)),(V.sc (.int .i64 zE1))]) [])
 | _,_=>none
theorem zuH (L:Nat) (β:Type) (args:List V) (bor:Bor) (k:KK β) (r:β) (h:zkB zaj L β args bor k=some r):zK za8 (zba L) L zc1 args bor k=some r:=by
 unfold zkB at h
 split at h
 ·have q:=zaZ h; clear h; obtain ⟨p0,rfl,h⟩:=q
  have q:=zaZ h; clear h; obtain ⟨p1,rfl,h⟩:=q
  exact (zuK L p0 p1 k).trans h
 ·cases h
def zb7:CC:=(.seq (.seq (.reg [oo 11 (.move (tq 5) false),
   oo 12 (.move (tq 0) false),
   oo 13 (.lenS (tq 12)),
   oo 14 (.bin .lss (tq 11) (tq 13))])
 (.cond (tq 14)
 .skip
 (.seq (.mask (bl 0 26) (bl 67100623 26))
 (.exit 0))))
 (.seq (.block 1 (.seq (.dreg [] [(oo 17 (.move (tq 0) false),q0),
   (oo 18 (.move (tq 5) false),q0),
   (oo 19 (.indexAddrS 1 (tq 17) (tq 18)),q0),
   (oo 20 (.load false 1 (tq 19) false),qc [] []),
   (oo 21 (.move (tq 1) false),q0),
   (oo 22 (.move (tq 5) false),q0),
   (oo 23 (.indexAddrS 1 (tq 21) (tq 22)),q0),
   (oo 24 (.load false 1 (tq 23) false),qc [] []),
   (oo 25 (.bin .neq (tq 20) (tq 24)),q0)])
 (.cond (tq 25)
 (.seq (.reg [oo 4 (.move (.const (.sc (.bool false))) false)])
 (.seq (.mask (bl 16 26) (bl 67100639 26))
 .ret))
 .skip)))
 (.reg [oo 15 (.move (tq 5) false),
   oo 16 (.bin .add (tq 15) (.const (.sc (.int .i64 1)))),
   oo 5 (.move (tq 16) false)])))
def ze7:CC:=(.seq (.reg [oo 4 (.move (.const (.sc (.bool true))) false)])
 .ret)
def zbn:CF:=⟨26,[.tmp 4],
 (.seq (.reg [oo 4 (.move (.const (.sc (.bool false))) false)])
 (.seq (.seq (.reg [oo 6 (.move (tq 0) false),
   oo 7 (.lenS (tq 6)),
   oo 8 (.move (tq 1) false),
   oo 9 (.lenS (tq 8)),
   oo 10 (.bin .neq (tq 7) (tq 9))])
 (.cond (tq 10)
 (.seq (.reg [oo 4 (.move (.const (.sc (.bool false))) false)])
 .ret)
 .skip))
 (.seq (.seq (.reg [oo 5 (.move (.const (.sc (.int .i64 0))) false)])
 (.block 0 (.loop (bl 35 26) (bl 67100655 26)
 zb7)))
 ze7)))⟩
def zlu:Hint:=⟨[],[],[none,none,none,some ((bl 35 26),(bl 67100655 26)),none,some ((bl 0 26),(bl 67100623 26)),none,none,some ((bl 16 26),(bl 67100639 26)),none],[],[],false,false⟩
def z9:Nat→Sh:=xZ [(20,(.int .i64)),(24,(.int .i64))]
def y8 (L:Nat):CBC:=noC
def zdT:St→St:=yT 0 (bl 35 26) (bl 67100655 26)
def zcX (p0 p1:List (List V)) (p5:Int):St:=⟨((V.sl 1 p0)::((V.sl 1 p1)::(jn 3 ((V.sc (.int .i64 p5))::(jn 20 []))))),(gn 26 [])⟩
def zgq (p4:Bool):St:=⟨(jn 4 ((V.sc (.bool p4))::(jn 21 []))),(gn 26 [])⟩
def zg3:St:=⟨(jn 26 []),(gn 26 [])⟩
def zjW {β:Type} (L:Nat) (p0 p1:List (List V)) (k_fin:Bool→Option β) (k_hbbaba:List (List V)→List (List V)→Int→Option β):Option β :=
 ifb ((((List.length p0:Nat):Int):Int) != ((List.length p1:Nat):Int)) (
 k_fin false) (
 k_hbbaba p0 p1 (0:Int))
theorem zrq {β:Type} (L:Nat) (p0 p1:List (List V)) (k:KK β):zK z9 (y8 L) L zbn [(V.sl 1 p0),(V.sl 1 p1)] [] k=zjW L p0 p1 (fun p0=>k (V.sc (.bool p0)) []) (fun p0 p1 p5=>xG (zn z9 (y8 L) 0 L zb7) zdT L (zcX p0 p1 p5) (yy 0 (zM (zn z9 (y8 L) 0 L ze7) (zO 0 (CF.res zbn) k)))):=by kernel_rfl
def zgm {β:Type} (L:Nat) (p0 p1:List (List V)) (p5:Int) (k_ret:Bool→Option β) (k_hbbaba:List (List V)→List (List V)→Int→Option β) (k_x0:Option β):Option β :=
 ifb (decide (p5 < ((List.length p0:Nat):Int))) (
 idx p0 p5 fun c0 =>
 cI .i64 c0 0 fun v1 =>
 idx p1 p5 fun c2 =>
 cI .i64 c2 0 fun v3 =>
 ifb ((v1:Int) != v3) (
 k_ret false) (
 lt (IntKind.wrap .i64 ((p5:Int)+(1:Int))) fun x4 =>
 k_hbbaba p0 p1 x4)) (
 k_x0)
theorem zow {β:Type} (L:Nat) (p0 p1:List (List V)) (p5:Int) (X:St→Option β) (K:KT β):zn z9 (y8 L) 0 L zb7 (zcX p0 p1 p5) (zbw zdT X K)=zgm L p0 p1 p5 (fun p4=>K .ret (zgq p4)) (fun p0 p1 p5=>X (zcX p0 p1 p5)) (K (.exit 0) (zg3)):=by kernel_rfl
def zih {β:Type} (L:Nat) (p4:Bool) (k_fin:Bool→Option β):Option β :=
 k_fin p4
theorem zmw {β:Type} (L:Nat) (p4:Bool) (k:KK β):(yy 0 (zM (zn z9 (y8 L) 0 L ze7) (zO 0 (CF.res zbn) k))) .ret (zgq p4)=zih L p4 (fun p0=>k (V.sc (.bool p0)) []):=by kernel_rfl
def ziT {β:Type} (L:Nat) (k_fin:Bool→Option β):Option β :=
 k_fin true
theorem zm0 {β:Type} (L:Nat) (k:KK β):(yy 0 (zM (zn z9 (y8 L) 0 L ze7) (zO 0 (CF.res zbn) k))) (.exit 0) (zg3)=ziT L (fun p0=>k (V.sc (.bool p0)) []):=by kernel_rfl
def zcr {β:Type} (L:Nat) (k_ret:Bool→Option β) (k_x0:Option β):Nat→List (List V)→List (List V)→Int→Option β
 | 0,_,_,_=>none
 | n+1,p0,p1,p5=>zgm L p0 p1 p5 k_ret (fun p0 p1 p5=>zcr L k_ret k_x0 n p0 p1 p5) k_x0
theorem zis {β:Type} (L:Nat) (K:KT β):∀ (n:Nat) (p0 p1:List (List V)) (p5:Int),xG (zn z9 (y8 L) 0 L zb7) zdT n (zcX p0 p1 p5) K=zcr L (fun p4=>K .ret (zgq p4)) (K (.exit 0) (zg3)) n p0 p1 p5:=by
 intro n
 induction n with
 | zero=>intros; rfl
 | succ n ih =>
  intro p0 p1 p5
  refine (zow L p0 p1 p5 (fun σ=>xG (zn z9 (y8 L) 0 L zb7) zdT n σ K) K).trans ?_
  simp only [ih]
  rfl
def zgY {β:Type} (L:Nat) (p0 p1:List (List V)) (k_fin:Bool→Option β):Option β :=
 zjW L p0 p1 k_fin (fun p0 p1 p5=>zcr L (fun p4=>zih L p4 k_fin) (ziT L k_fin) L p0 p1 p5)
theorem zrA {β:Type} (L:Nat) (p0 p1:List (List V)) (k:KK β):zK z9 (y8 L) L zbn [(V.sl 1 p0),(V.sl 1 p1)] [] k=zgY L p0 p1 (fun p0=>k (V.sc (.bool p0)) []):=by
 refine (zrq L p0 p1 k).trans ?_
 unfold zgY
 first
  | (simp only [zis,zmw,zm0]; done)
  | (simp only [zis]; rfl)
abbrev yN:=∀ (β:Type),Nat→List (List V)→List (List V)→(Bool→Option β)→Option β
def yj (β:Type) (L:Nat) (p0 p1:List (List V)) (k_fin:Bool→Option β):Option β:=zgY L p0 p1 k_fin
def zeK (yj:yN) (L:Nat) (β:Type) (args:List V) (bor:Bor) (k:KK β):Option β:=match args,bor with
 | [a0,a1],[]=>aL 1 a0 fun p0=>aL 1 a1 fun p1=>yj β L p0 p1 (fun p0=>k (V.sc (.bool p0)) [])
 | _,_=>none
theorem zrs (L:Nat) (β:Type) (args:List V) (bor:Bor) (k:KK β) (r:β) (h:zeK yj L β args bor k=some r):zK z9 (y8 L) L zbn args bor k=some r:=by
 unfold zeK at h
 split at h
 ·have q:=zaZ h; clear h; obtain ⟨p0,rfl,h⟩:=q
  have q:=zaZ h; clear h; obtain ⟨p1,rfl,h⟩:=q
  exact (zrA L p0 p1 k).trans h
 ·cases h
def zjP:CF:=⟨24,[.tmp 0],
 (.seq (.reg [oo 0 (.move (.const (.sc (.bool false))) false)])
 (.seq (.reg [oo 4 (.buildSlice 1 4 [(.sc (.int .i64 0))] [(0,1,(.const (.sc (.int .i64 1)))),(1,1,(.const (.sc (.int .i64 2)))),(2,1,(.const (.sc (.int .i64 3)))),(3,1,(.const (.sc (.int .i64 (-1)))))]),
   oo 5 (.makeSlice 1 1 [(.sc (.bool false))] (.const (.sc (.int .i64 4))) (.const (.sc (.int .i64 4)))),
   oo 6 (.call 334 [((tq 4),0),((tq 5),0),((.const (.sc (.int .i64 0))),0)] []),
   oo 1 (.move (tq 6) false)])
 (.seq (.reg [oo 8 (.move (tq 1) false),
   oo 9 (.buildSlice 1 4 [(.sc (.bool false))] [(0,1,(.const (.sc (.bool false)))),(1,1,(.const (.sc (.bool false)))),(2,1,(.const (.sc (.bool true)))),(3,1,(.const (.sc (.bool false))))]),
   oo 10 (.call 336 [((tq 8),0),((tq 9),0)] []),
   oo 7 (.move (tq 10) true),
   oo 11 (.pull (tq 7) 0),
   oo 12 (.pull (tq 7) 1),
   oo 2 (.move (tq 11) false),
   oo 3 (.move (tq 12) false)])
 (.seq (.reg [oo 13 (.move (tq 1) false),
   oo 14 (.buildSlice 1 4 [(.sc (.int .i64 0))] [(0,1,(.const (.sc (.int .i64 0)))),(1,1,(.const (.sc (.int .i64 1)))),(2,1,(.const (.sc (.int .i64 2)))),(3,1,(.const (.sc (.int .i64 3))))]),
   oo 15 (.call 338 [((tq 13),0),((tq 14),0)] []),
   oo 16 (.move (tq 15) false),
   ⟨(some 17),false,(some (16,true)),.move (tq 2) false⟩,
   ⟨(some 18),false,(some (16,true)),.bin .eql (tq 17) (.const (.sc (.int .i64 2)))⟩,
   oo 19 (.pick (tq 16) (tq 18) (.const (.sc (.bool false)))),
   oo 20 (.move (tq 19) false),
   ⟨(some 21),false,(some (20,true)),.move (tq 3) false⟩,
   ⟨(some 22),false,(some (20,true)),.bin .eql (tq 21) (.const (.sc (.int .i64 1)))⟩,
   oo 23 (.pick (tq 20) (tq 22) (.const (.sc (.bool false)))),
   oo 0 (.move (tq 23) false)])
 .ret))))⟩
def zpc:Hint:=⟨[(2,3)],[],[none],[],[],false,false⟩
def zmT:Nat→Sh:=xZ []
def zni (zal:zkI) (zaj:zkZ) (yj:yN) (L:Nat):CBC:=(xB 338 (zeK yj L) (xB 336 (zkB zaj L) (xB 334 (zlk zal L) noC)))
def zr8 {β:Type} (zal:zkI) (zaj:zkZ) (yj:yN) (L:Nat) (k_fin:Bool→Option β):Option β :=
 zal β L (xc 1 4 [(V.sc (.int .i64 (1:Int))),(V.sc (.int .i64 (2:Int))),(V.sc (.int .i64 (3:Int))),(V.sc (.int .i64 (-1:Int)))]) (List.replicate 4 [(V.sc (.bool false))]) (0:Int) (fun v0 =>
 zaj β L v0 (xc 1 4 [(V.sc (.bool false)),(V.sc (.bool false)),(V.sc (.bool true)),(V.sc (.bool false))]) (fun v1 v2 =>
 yj β L v0 (xc 1 4 [(V.sc (.int .i64 (0:Int))),(V.sc (.int .i64 (1:Int))),(V.sc (.int .i64 (2:Int))),(V.sc (.int .i64 (3:Int)))]) (fun v3 =>
 ifb v3 (
 ifb ((v1:Int) == (2:Int)) (
 k_fin ((v2:Int) == (1:Int))) (
 k_fin false)) (
 k_fin false))))
theorem zuL {β:Type} (zal:zkI) (zaj:zkZ) (yj:yN) (L:Nat) (k:KK β):zK zmT (zni zal zaj yj L) L zjP [] [] k=zr8 zal zaj yj L (fun p0=>k (V.sc (.bool p0)) []):=by kernel_rfl
abbrev yh:=∀ (β:Type),Nat→(Bool→Option β)→Option β
def ya (β:Type) (L:Nat) (k_fin:Bool→Option β):Option β:=zr8 zal zaj yj L k_fin
def zeO (ya:yh) (L:Nat) (β:Type) (args:List V) (bor:Bor) (k:KK β):Option β:=match args,bor with
 | [],[]=>ya β L (fun p0=>k (V.sc (.bool p0)) [])
 | _,_=>none
theorem zvH (L:Nat) (β:Type) (args:List V) (bor:Bor) (k:KK β) (r:β) (h:zeO ya L β args bor k=some r):zK zmT (zni zal zaj yj L) L zjP args bor k=some r:=by
 unfold zeO at h
 split at h
 ·exact (zuL zal zaj yj L k).trans h
 ·cases h
def zmg:CF:=⟨6,[.tmp 2],
 (.seq (.reg [oo 2 (.move (.const (.sc (.pointer none))) false)])
 (.seq (.reg [oo 3 (.move (tq 0) false),
   oo 4 (.build [(.sl 1 []),(.sc (.int .i64 0))] [(0,1,(tq 3))]),
   oo 5 (.box false (tq 4)),
   oo 2 (.move (tq 5) false)])
 .ret))⟩
def zrc:Hint:=⟨[],[],[none],[],[],false,false⟩
def zpp:Nat→Sh:=xZ []
def zpx (L:Nat):CBC:=noC
def zq3 {β:Type} (L:Nat) (p0:List (List V)) (k_fin:List (List V)→Int→Option β):Option β :=
 k_fin p0 (0:Int)
theorem zxa {β:Type} (L:Nat) (p0:List (List V)) (k:KK β):zK zpp (zpx L) L zmg [(V.sl 1 p0)] [] k=zq3 L p0 (fun zE0 zE1=>k (V.bx false [(V.sl 1 zE0),(V.sc (.int .i64 zE1))]) []):=by kernel_rfl
abbrev xj:=∀ (β:Type),Nat→List (List V)→(List (List V)→Int→Option β)→Option β
def xb (β:Type) (L:Nat) (p0:List (List V)) (k_fin:List (List V)→Int→Option β):Option β:=zq3 L p0 k_fin
def zg7 (xb:xj) (L:Nat) (β:Type) (args:List V) (bor:Bor) (k:KK β):Option β:=match args,bor with
 | [a0],[]=>aL 1 a0 fun p0=>xb β L p0 (fun zE0 zE1=>k (V.bx false [(V.sl 1 zE0),(V.sc (.int .i64 zE1))]) [])
 | _,_=>none
theorem zxe (L:Nat) (β:Type) (args:List V) (bor:Bor) (k:KK β) (r:β) (h:zg7 xb L β args bor k=some r):zK zpp (zpx L) L zmg args bor k=some r:=by
 unfold zg7 at h
 split at h
 ·have q:=zaZ h; clear h; obtain ⟨p0,rfl,h⟩:=q
  exact (zxa L p0 k).trans h
 ·cases h
def zf1:CF:=⟨13,[.tmp 2],
 (.seq (.reg [oo 2 (.move (.const (.sc (.bool false))) false)])
 (.seq (.dreg [] [(oo 3 (.move (tq 0) false),q0),
   (oo 4 (.nilCheck (tq 3)),q0),
   (oo 5 (.fieldAddr 1 (tq 4)),q0),
   (oo 6 (.load false 1 (tq 5) false),ql 0 [] []),
   (oo 7 (.move (tq 0) false),q0),
   (oo 8 (.nilCheck (tq 7)),q0),
   (oo 9 (.fieldAddr 0 (tq 8)),q0),
   (oo 10 (.load false 1 (tq 9) false),ql 0 [] []),
   (oo 11 (.lenS (tq 10)),q0),
   (oo 12 (.bin .lss (tq 6) (tq 11)),q0),
   (oo 2 (.move (tq 12) false),q0)])
 .ret))⟩
def zls:Hint:=⟨[],[],[none],[],[],false,false⟩
def ziZ:Nat→Sh:=xZ []
def zjh (L:Nat):CBC:=noC
def zgR {β:Type} (L:Nat) (zEG:List (List V)) (zEH:Int) (k_fin:Bool→List (List V)→Int→Option β):Option β :=
 k_fin (decide (zEH < ((List.length zEG:Nat):Int))) zEG zEH
theorem zrw {β:Type} (L:Nat) (zEG:List (List V)) (zEH:Int) (k:KK β):zK ziZ (zjh L) L zf1 [(V.ptr 0 0)] [(.live false [(V.sl 1 zEG),(V.sc (.int .i64 zEH))])] k=zgR L zEG zEH (fun p0 zEG zEH=>k (V.sc (.bool p0)) [(.live false [(V.sl 1 zEG),(V.sc (.int .i64 zEH))])]):=by kernel_rfl
abbrev yH:=∀ (β:Type),Nat→List (List V)→Int→(Bool→List (List V)→Int→Option β)→Option β
def yl (β:Type) (L:Nat) (zEG:List (List V)) (zEH:Int) (k_fin:Bool→List (List V)→Int→Option β):Option β:=zgR L zEG zEH k_fin
def zeL (yl:yH) (L:Nat) (β:Type) (args:List V) (bor:Bor) (k:KK β):Option β:=match args,bor with
 | [a0],[(.live false [w0_0,w0_1])]=>aP 0 0 a0 (aL 1 w0_0 fun zEG=>aI .i64 w0_1 fun zEH=>yl β L zEG zEH (fun p0 zEG zEH=>k (V.sc (.bool p0)) [(.live false [(V.sl 1 zEG),(V.sc (.int .i64 zEH))])]))
 | _,_=>none
theorem zrz (L:Nat) (β:Type) (args:List V) (bor:Bor) (k:KK β) (r:β) (h:zeL yl L β args bor k=some r):zK ziZ (zjh L) L zf1 args bor k=some r:=by
 unfold zeL at h
 split at h
 ·have q:=zvf h; clear h; obtain ⟨rfl,h⟩:=q
  have q:=zaZ h; clear h; obtain ⟨zEG,rfl,h⟩:=q
  have q:=zaG h; clear h; obtain ⟨zEH,rfl,h⟩:=q
  exact (zrw L zEG zEH k).trans h
 ·cases h
def zmd:CF:=⟨15,[.tmp 4],
 (.seq (.reg [oo 4 (.move (.const (.sc (.int .i64 0))) false)])
 (.seq (.reg [oo 6 (.move (tq 0) false),
   oo 7 (.move (tq 1) false),
   oo 8 (.bin .rem (tq 6) (tq 7)),
   oo 5 (.move (tq 8) false)])
 (.seq (.seq (.reg [oo 9 (.move (tq 5) false),
   oo 10 (.bin .lss (tq 9) (.const (.sc (.int .i64 0))))])
 (.cond (tq 10)
 (.reg [oo 11 (.move (tq 5) false),
   oo 12 (.move (tq 1) false),
   oo 13 (.bin .add (tq 11) (tq 12)),
   oo 5 (.move (tq 13) false)])
 .skip))
 (.seq (.reg [oo 14 (.move (tq 5) false),
   oo 4 (.move (tq 14) false)])
 .ret))))⟩
def zrd:Hint:=⟨[],[],[none,none],[],[],false,false⟩
def zpw:Nat→Sh:=xZ []
def zpo (L:Nat):CBC:=noC
def znw {β:Type} (L:Nat) (p0 p1:Int) (k_fin:Int→Option β):Option β :=
 chk (p1≠0) (
 lt (Int.tmod p0 p1) fun x0 =>
 ifb (decide (x0 < (0:Int))) (
 lt (IntKind.wrap .i64 ((x0:Int)+p1)) fun x1 =>
 k_fin x1) (
 k_fin x0))
theorem zwY {β:Type} (L:Nat) (p0 p1:Int) (k:KK β):zK zpw (zpo L) L zmd [(V.sc (.int .i64 p0)),(V.sc (.int .i64 p1))] [] k=znw L p0 p1 (fun p0=>k (V.sc (.int .i64 p0)) []):=by kernel_rfl
abbrev zm:=∀ (β:Type),Nat→Int→Int→(Int→Option β)→Option β
def yc (β:Type) (L:Nat) (p0 p1:Int) (k_fin:Int→Option β):Option β:=znw L p0 p1 k_fin
def zfx (yc:zm) (L:Nat) (β:Type) (args:List V) (bor:Bor) (k:KK β):Option β:=match args,bor with
 | [a0,a1],[]=>aI .i64 a0 fun p0=>aI .i64 a1 fun p1=>yc β L p0 p1 (fun p0=>k (V.sc (.int .i64 p0)) [])
 | _,_=>none
theorem zxo (L:Nat) (β:Type) (args:List V) (bor:Bor) (k:KK β) (r:β) (h:zfx yc L β args bor k=some r):zK zpw (zpo L) L zmd args bor k=some r:=by
 unfold zfx at h
 split at h
 ·have q:=zaG h; clear h; obtain ⟨p0,rfl,h⟩:=q
  have q:=zaG h; clear h; obtain ⟨p1,rfl,h⟩:=q
  exact (zwY L p0 p1 k).trans h
 ·cases h
def zf8:CF:=⟨28,[.tmp 4],
 (.seq (.reg [oo 4 (.move (.const (.sc (.int .i64 0))) false)])
 (.seq (.seq (.reg [oo 5 (.move (tq 0) false),
   oo 6 (.call 247 [((tq 5),0)] []),
   oo 7 (.un .not (tq 6))])
 (.cond (tq 7)
 (.seq (.reg [oo 4 (.move (.const (.sc (.int .i64 0))) false)])
 .ret)
 .skip))
 (.seq (.reg [oo 8 (.move (tq 0) false),
   oo 9 (.nilCheck (tq 8)),
   oo 10 (.fieldAddr 1 (tq 9)),
   oo 11 (.load false 1 (tq 10) false),
   oo 12 (.bin .add (tq 11) (.const (.sc (.int .i64 1)))),
   oo 13 (.nilCheck (tq 8)),
   oo 14 (.fieldAddr 1 (tq 13)),
   oz (.store 1 (tq 14) (tq 12))])
 (.seq (.dreg [] [(oo 15 (.move (tq 0) false),q0),
   (oo 16 (.nilCheck (tq 15)),q0),
   (oo 17 (.fieldAddr 0 (tq 16)),q0),
   (oo 18 (.load false 1 (tq 17) false),ql 0 [] []),
   (oo 19 (.move (tq 0) false),q0),
   (oo 20 (.nilCheck (tq 19)),q0),
   (oo 21 (.fieldAddr 1 (tq 20)),q0),
   (oo 22 (.load false 1 (tq 21) false),ql 0 [] []),
   (oo 23 (.bin .sub (tq 22) (.const (.sc (.int .i64 1)))),q0),
   (oo 24 (.indexAddrS 1 (tq 18) (tq 23)),q0),
   (oo 25 (.load false 1 (tq 24) false),q0),
   (oo 26 (.move (tq 1) false),q0),
   (oo 27 (.call 217 [((tq 25),0),((tq 26),0)] []),q0),
   (oo 4 (.move (tq 27) false),q0)])
 .ret))))⟩
def zlC:Hint:=⟨[],[],[none,none,none],[],[],false,false⟩
def zjj:Nat→Sh:=xZ [(25,(.int .i64))]
def zi7 (yl:yH) (yc:zm) (L:Nat):CBC:=(xB 217 (zfx yc L) (xB 247 (zeL yl L) noC))
def zgQ {β:Type} (yl:yH) (yc:zm) (L:Nat) (p1:Int) (zEG:List (List V)) (zEH:Int) (k_fin:Int→List (List V)→Int→Option β):Option β :=
 yl β L zEG zEH (fun v0 v1 v2 =>
 ifb (!v0) (
 k_fin (0:Int) v1 v2) (
 lt (IntKind.wrap .i64 ((v2:Int)+(1:Int))) fun x3 =>
 lt (IntKind.wrap .i64 ((x3:Int) - (1:Int))) fun x4 =>
 idx v1 x4 fun c5 =>
 cI .i64 c5 0 fun v6 =>
 yc β L v6 p1 (fun v7 =>
 k_fin v7 v1 x3)))
theorem zrn {β:Type} (yl:yH) (yc:zm) (L:Nat) (p1:Int) (zEG:List (List V)) (zEH:Int) (k:KK β):zK zjj (zi7 yl yc L) L zf8 [(V.ptr 0 0),(V.sc (.int .i64 p1))] [(.live false [(V.sl 1 zEG),(V.sc (.int .i64 zEH))])] k=zgQ yl yc L p1 zEG zEH (fun p0 zEG zEH=>k (V.sc (.int .i64 p0)) [(.live false [(V.sl 1 zEG),(V.sc (.int .i64 zEH))])]):=by kernel_rfl
abbrev xg:=∀ (β:Type),Nat→Int→List (List V)→Int→(Int→List (List V)→Int→Option β)→Option β
def za (β:Type) (L:Nat) (p1:Int) (zEG:List (List V)) (zEH:Int) (k_fin:Int→List (List V)→Int→Option β):Option β:=zgQ yl yc L p1 zEG zEH k_fin
def zdo (za:xg) (L:Nat) (β:Type) (args:List V) (bor:Bor) (k:KK β):Option β:=match args,bor with
 | [a0,a1],[(.live false [w0_0,w0_1])]=>aP 0 0 a0 (aI .i64 a1 fun p1=>aL 1 w0_0 fun zEG=>aI .i64 w0_1 fun zEH=>za β L p1 zEG zEH (fun p0 zEG zEH=>k (V.sc (.int .i64 p0)) [(.live false [(V.sl 1 zEG),(V.sc (.int .i64 zEH))])]))
 | _,_=>none
theorem zrm (L:Nat) (β:Type) (args:List V) (bor:Bor) (k:KK β) (r:β) (h:zdo za L β args bor k=some r):zK zjj (zi7 yl yc L) L zf8 args bor k=some r:=by
 unfold zdo at h
 split at h
 ·have q:=zvf h; clear h; obtain ⟨rfl,h⟩:=q
  have q:=zaG h; clear h; obtain ⟨p1,rfl,h⟩:=q
  have q:=zaZ h; clear h; obtain ⟨zEG,rfl,h⟩:=q
  have q:=zaG h; clear h; obtain ⟨zEH,rfl,h⟩:=q
  exact (zrn yl yc L p1 zEG zEH k).trans h
 ·cases h
def zdh:CC:=(.seq (.seq (.reg [oo 32 (.move (tq 5) false),
   oo 33 (.bin .lss (tq 32) (.const (.sc (.int .i64 8))))])
 (.cond (tq 33)
 .skip
 (.seq (.mask (bl 12 67) (bl 119501746176346029983 67))
 (.exit 2))))
 (.seq (.block 3 (.seq (.reg [oo 36 (.move (tq 5) false),
   oo 37 (.conv .u8 (tq 36)),
   oo 38 (.build (rp 32 (.sc (.int .u8 0)) []) [(0,1,(tq 37))]),
   oo 6 (.alloc true (rp 32 (.sc (.int .u8 0)) [])),
   oz (.store 32 (tq 6) (tq 38))])
 (.seq (.reg [oo 39 (.move (tq 0) false),
   oo 40 (.call 231 [((tq 39),0),((.const (.sc (.int .i64 3))),0)] [])])
 (.block 4 (.seq (.reg [oo 42 (.bin .eql (tq 40) (.const (.sc (.int .i64 0)))),
   oo 41 (.move (tq 42) false)])
 (.cond (tq 41)
 (.dreg [] [(oo 43 (.fieldAddr 3 (tq 3)),q0),
   (oo 44 (.load false 1 (tq 43) true),ql 3 [6] [55]),
   (oo 45 (.load true 32 (tq 6) false),ql 6 [3] []),
   (oo 46 (.move (tq 0) false),q0),
   (oo 47 (.call 231 [((tq 46),0),((.const (.sc (.int .i64 5))),0)] []),qc [3,6] []),
   (oo 48 (.bin .sub (tq 47) (.const (.sc (.int .i64 1)))),q0),
   (oo 49 (.move (tq 0) false),q0),
   (oo 50 (.call 231 [((tq 49),0),((.const (.sc (.int .i64 5))),0)] []),qc [3,6] []),
   (oo 51 (.move (tq 0) false),q0),
   (oo 52 (.call 231 [((tq 51),0),((.const (.sc (.int .i64 50))),0)] []),qc [3,6] []),
   (oo 53 (.conv .u32 (tq 52)),q0),
   (oo 54 (.build (rp 32 (.sc (.int .u8 0)) (rp 2 (.sc (.int .i64 0)) (rp 1 (.sc (.int .u32 0)) []))) [(0,32,(tq 45)),(32,1,(tq 48)),(33,1,(tq 50)),(34,1,(tq 53))]),q0),
   (oo 55 (.buildSlice 35 1 (rp 32 (.sc (.int .u8 0)) (rp 2 (.sc (.int .i64 0)) (rp 1 (.sc (.int .u32 0)) []))) [(0,35,(tq 54))]),qn [3] []),
   (oo 56 (.append 35 56 (tq 44) (tq 55)),q0),
   (oo 57 (.fieldAddr 3 (tq 3)),q0),
   (oz (.store 1 (tq 57) (tq 56)),q0)])
 (.seq (.reg [oo 59 (.bin .eql (tq 40) (.const (.sc (.int .i64 1)))),
   oo 58 (.move (tq 59) false)])
 (.cond (tq 58)
 (.reg [oo 60 (.fieldAddr 4 (tq 3)),
   oo 61 (.load false 1 (tq 60) true),
   oo 62 (.load true 32 (tq 6) false),
   oo 63 (.buildSlice 32 1 (rp 32 (.sc (.int .u8 0)) []) [(0,32,(tq 62))]),
   oo 64 (.append 32 32 (tq 61) (tq 63)),
   oo 65 (.fieldAddr 4 (tq 3)),
   oz (.store 1 (tq 65) (tq 64))])
 .skip))))))))
 (.reg [oo 34 (.move (tq 5) false),
   oo 35 (.bin .add (tq 34) (.const (.sc (.int .i64 1)))),
   oo 5 (.move (tq 35) false)])))
def zdJ:CC:=(.seq (.seq (.reg [oo 16 (.move (tq 4) false),
   oo 17 (.bin .gtr (tq 16) (.const (.sc (.int .i64 0))))])
 (.cond (tq 17)
 .skip
 (.seq (.mask (bl 13 67) (bl 147573952587914805167 67))
 (.exit 0))))
 (.seq (.block 1 (.dreg [] [(oo 20 (.fieldAddr 2 (tq 3)),q0),
   (oo 21 (.load false 1 (tq 20) true),ql 3 [] [29]),
   (oo 22 (.fieldAddr 2 (tq 3)),q0),
   (oo 23 (.load false 1 (tq 22) false),ql 3 [] []),
   (oo 24 (.lenS (tq 23)),q0),
   (oo 25 (.bin .mul (.const (.sc (.int .i64 3))) (tq 24)),q0),
   (oo 26 (.move (tq 0) false),q0),
   (oo 27 (.call 231 [((tq 26),0),((.const (.sc (.int .i64 3))),0)] []),qc [3] []),
   (oo 28 (.bin .add (tq 25) (tq 27)),q0),
   (oo 29 (.buildSlice 1 1 [(.sc (.int .i64 0))] [(0,1,(tq 28))]),qn [3] []),
   (oo 30 (.append 1 8 (tq 21) (tq 29)),q0),
   (oo 31 (.fieldAddr 2 (tq 3)),q0),
   (oz (.store 1 (tq 31) (tq 30)),q0)]))
 (.reg [oo 18 (.move (tq 4) false),
   oo 19 (.bin .sub (tq 18) (.const (.sc (.int .i64 1)))),
   oo 4 (.move (tq 19) false)])))
def zjV:CC:=(.seq (.reg [oo 66 (.load true 5 (tq 3) false),
   oz (.store 5 (tq 2) (tq 66))])
 .ret)
def zhS:CC:=(.seq (.seq (.reg [oo 5 (.move (.const (.sc (.int .i64 0))) false)])
 (.block 2 (.loop (bl 45 67) (bl 119501746176346030015 67)
 zdh)))
 zjV)
def zbE:CF:=⟨67,[.cell 2 true 5],
 (.seq (.reg [oo 2 (.alloc true [(.sc (.int .u32 0)),(.sc (.bool false)),(.gs 1 []),(.gs 35 []),(.gs 32 [])])])
 (.seq (.reg [oo 7 (.move (tq 0) false),
   oo 8 (.call 231 [((tq 7),0),((.const (.sc (.int .i64 99))),0)] []),
   oo 9 (.conv .u32 (tq 8)),
   oo 10 (.move (tq 0) false),
   oo 11 (.call 231 [((tq 10),0),((.const (.sc (.int .i64 3))),0)] []),
   oo 12 (.bin .eql (tq 11) (.const (.sc (.int .i64 0)))),
   oo 13 (.buildSt [(.sc (.int .u32 0)),(.sc (.bool false)),(.gs 1 []),(.gs 35 []),(.gs 32 [])] [(0,1,(tq 9)),(1,1,(tq 12))]),
   oo 3 (.alloc false [(.sc (.int .u32 0)),(.sc (.bool false)),(.gs 1 []),(.gs 35 []),(.gs 32 [])]),
   oz (.store 5 (tq 3) (tq 13))])
 (.seq (.seq (.reg [oo 14 (.move (tq 0) false),
   oo 15 (.call 231 [((tq 14),0),((.const (.sc (.int .i64 3))),0)] []),
   oo 4 (.move (tq 15) false)])
 (.block 0 (.loop (bl 29 67) (bl 147573952587914805183 67)
 zdJ)))
 zhS)))⟩
def zoZ:Hint:=⟨[(0,0),(1,6),(5,1),(12,1),(14,1)],[],[none,some ((bl 29 67),(bl 147573952587914805183 67)),none,some ((bl 13 67),(bl 147573952587914805167 67)),none,none,some ((bl 45 67),(bl 119501746176346030015 67)),none,some ((bl 12 67),(bl 119501746176346029983 67)),none,none,none,none,none],[],[],false,false⟩
def xV:Nat→Sh:=xZ []
def zV (za:xg) (L:Nat):CBC:=(xB 231 (zdo za L) noC)
def zf4:St→St:=yT 1 (bl 29 67) (bl 147573952587914805183 67)
def zfF:St→St:=yT 1 (bl 45 67) (bl 119501746176346030015 67)
def zep (p4:Int) (zEG:List (List V)) (zEH zET:Int) (zEU:Bool) (zEV zEW zEX:List (List V)) (zEL:Int) (zEM:Bool) (zEI zEJ zEK:List (List V)):St:=⟨((V.ptr 0 0)::(jn 1 ((V.ptr 3 0)::((V.ptr 4 0)::((V.sc (.int .i64 p4))::(jn 62 [])))))),((.live false [(V.sl 1 zEG),(V.sc (.int .i64 zEH))])::(gn 2 ((.live true [(V.sc (.int .u32 zET)),(V.sc (.bool zEU)),(V.gs 1 zEV),(V.gs 35 zEW),(V.gs 32 zEX)])::((.live false [(V.sc (.int .u32 zEL)),(V.sc (.bool zEM)),(V.gs 1 zEI),(V.gs 35 zEJ),(V.gs 32 zEK)])::(gn 63 [])))))⟩
def zgF (zEG:List (List V)) (zEH zET:Int) (zEU:Bool) (zEV zEW zEX:List (List V)) (zEL:Int) (zEM:Bool) (zEI zEJ zEK:List (List V)):St:=⟨((V.ptr 0 0)::(jn 1 ((V.ptr 3 0)::((V.ptr 4 0)::(jn 63 []))))),((.live false [(V.sl 1 zEG),(V.sc (.int .i64 zEH))])::(gn 2 ((.live true [(V.sc (.int .u32 zET)),(V.sc (.bool zEU)),(V.gs 1 zEV),(V.gs 35 zEW),(V.gs 32 zEX)])::((.live false [(V.sc (.int .u32 zEL)),(V.sc (.bool zEM)),(V.gs 1 zEI),(V.gs 35 zEJ),(V.gs 32 zEK)])::(gn 63 [])))))⟩
def zdS (p5:Int) (zEG:List (List V)) (zEH zET:Int) (zEU:Bool) (zEV zEW zEX:List (List V)) (zEL:Int) (zEM:Bool) (zEI zEJ zEK:List (List V)):St:=⟨((V.ptr 0 0)::(jn 1 ((V.ptr 3 0)::((V.ptr 4 0)::(jn 1 ((V.sc (.int .i64 p5))::(jn 61 []))))))),((.live false [(V.sl 1 zEG),(V.sc (.int .i64 zEH))])::(gn 2 ((.live true [(V.sc (.int .u32 zET)),(V.sc (.bool zEU)),(V.gs 1 zEV),(V.gs 35 zEW),(V.gs 32 zEX)])::((.live false [(V.sc (.int .u32 zEL)),(V.sc (.bool zEM)),(V.gs 1 zEI),(V.gs 35 zEJ),(V.gs 32 zEK)])::(gn 63 [])))))⟩
def zjU (zEG:List (List V)) (zEH zET:Int) (zEU:Bool) (zEV zEW zEX:List (List V)) (zEL:Int) (zEM:Bool) (zEI zEJ zEK:List (List V)):St:=⟨(jn 2 ((V.ptr 3 0)::((V.ptr 4 0)::(jn 63 [])))),((.live false [(V.sl 1 zEG),(V.sc (.int .i64 zEH))])::(gn 2 ((.live true [(V.sc (.int .u32 zET)),(V.sc (.bool zEU)),(V.gs 1 zEV),(V.gs 35 zEW),(V.gs 32 zEX)])::((.live false [(V.sc (.int .u32 zEL)),(V.sc (.bool zEM)),(V.gs 1 zEI),(V.gs 35 zEJ),(V.gs 32 zEK)])::(gn 63 [])))))⟩
abbrev zmG (β:Type):Type:=Int→List (List V)→Int→Int→Bool→List (List V)→List (List V)→List (List V)→Int→Bool→List (List V)→List (List V)→List (List V)→Option β
abbrev zl3 (β:Type):Type:=List (List V)→Int→Int→Bool→List (List V)→List (List V)→List (List V)→Int→Bool→List (List V)→List (List V)→List (List V)→Option β
abbrev zlw (β:Type):Type:=Int→List (List V)→Int→Int→Bool→List (List V)→List (List V)→List (List V)→Int→Bool→List (List V)→List (List V)→List (List V)→Option β
abbrev zlE (β:Type):Type:=List (List V)→Int→Int→Bool→List (List V)→List (List V)→List (List V)→Int→Bool→List (List V)→List (List V)→List (List V)→Option β
def zoh {β:Type} (za:xg) (L:Nat) (zEG:List (List V)) (zEH:Int) (k_hbbaba:zmG β):Option β :=
 za β L (99:Int) zEG zEH (fun v0 v1 v2 =>
 lt (IntKind.wrap .u32 v0) fun x3 =>
 za β L (3:Int) v1 v2 (fun v4 v5 v6 =>
 za β L (3:Int) v5 v6 (fun v7 v8 v9 =>
 k_hbbaba v7 v8 v9 (0:Int) false ([]:List (List V)) ([]:List (List V)) ([]:List (List V)) x3 ((v4:Int) == (0:Int)) ([]:List (List V)) ([]:List (List V)) ([]:List (List V)))))
theorem zuZ {β:Type} (za:xg) (L:Nat) (zEG:List (List V)) (zEH:Int) (k:KK β):zK xV (zV za L) L zbE [(V.ptr 0 0)] [(.live false [(V.sl 1 zEG),(V.sc (.int .i64 zEH))])] k=zoh za L zEG zEH (fun p4 zEG zEH zET zEU zEV zEW zEX zEL zEM zEI zEJ zEK=>xG (zn xV (zV za L) 1 L zdJ) zf4 L (zep p4 zEG zEH zET zEU zEV zEW zEX zEL zEM zEI zEJ zEK) (yy 0 (zM (zn xV (zV za L) 1 L zhS) (zO 1 (CF.res zbE) k)))):=by kernel_rfl
def zf9 {β:Type} (za:xg) (L:Nat) (p4:Int) (zEG:List (List V)) (zEH zET:Int) (zEU:Bool) (zEV zEW zEX:List (List V)) (zEL:Int) (zEM:Bool) (zEI zEJ zEK:List (List V)) (k_hbbaba:zmG β) (k_x0:zl3 β):Option β :=
 ifb (decide (p4 > (0:Int))) (
 lt (IntKind.wrap .i64 (((3:Int):Int) * ((List.length zEI:Nat):Int))) fun x10 =>
 za β L (3:Int) zEG zEH (fun v11 v12 v13 =>
 lt (IntKind.wrap .i64 ((x10:Int)+v11)) fun x14 =>
 chk ((List.length zEI+List.length (xc 1 1 [(V.sc (.int .i64 x14))])) * 8≤zj∧List.length zEI+List.length (xc 1 1 [(V.sc (.int .i64 x14))])≤zj) (
 lt (zEI++(xc 1 1 [(V.sc (.int .i64 x14))])) fun l15 =>
 lt (IntKind.wrap .i64 ((p4:Int) - (1:Int))) fun x16 =>
 k_hbbaba x16 v12 v13 zET zEU zEV zEW zEX zEL zEM l15 zEJ zEK))) (
 k_x0 zEG zEH zET zEU zEV zEW zEX zEL zEM zEI zEJ zEK)
theorem zqB {β:Type} (za:xg) (L:Nat) (p4:Int) (zEG:List (List V)) (zEH zET:Int) (zEU:Bool) (zEV zEW zEX:List (List V)) (zEL:Int) (zEM:Bool) (zEI zEJ zEK:List (List V)) (X:St→Option β) (K:KT β):zn xV (zV za L) 1 L zdJ (zep p4 zEG zEH zET zEU zEV zEW zEX zEL zEM zEI zEJ zEK) (zbw zf4 X K)=zf9 za L p4 zEG zEH zET zEU zEV zEW zEX zEL zEM zEI zEJ zEK (fun p4 zEG zEH zET zEU zEV zEW zEX zEL zEM zEI zEJ zEK=>X (zep p4 zEG zEH zET zEU zEV zEW zEX zEL zEM zEI zEJ zEK)) (fun zEG zEH zET zEU zEV zEW zEX zEL zEM zEI zEJ zEK=>K (.exit 0) (zgF zEG zEH zET zEU zEV zEW zEX zEL zEM zEI zEJ zEK)):=by kernel_rfl
def zhz {β:Type} (za:xg) (L:Nat) (zEG:List (List V)) (zEH zET:Int) (zEU:Bool) (zEV zEW zEX:List (List V)) (zEL:Int) (zEM:Bool) (zEI zEJ zEK:List (List V)) (k_hbbbaba:zlw β):Option β :=
 k_hbbbaba (0:Int) zEG zEH zET zEU zEV zEW zEX zEL zEM zEI zEJ zEK
theorem zpg {β:Type} (za:xg) (L:Nat) (zEG:List (List V)) (zEH zET:Int) (zEU:Bool) (zEV zEW zEX:List (List V)) (zEL:Int) (zEM:Bool) (zEI zEJ zEK:List (List V)) (k:KK β):(yy 0 (zM (zn xV (zV za L) 1 L zhS) (zO 1 (CF.res zbE) k))) (.exit 0) (zgF zEG zEH zET zEU zEV zEW zEX zEL zEM zEI zEJ zEK)=zhz za L zEG zEH zET zEU zEV zEW zEX zEL zEM zEI zEJ zEK (fun p5 zEG zEH zET zEU zEV zEW zEX zEL zEM zEI zEJ zEK=>xG (zn xV (zV za L) 1 L zdh) zfF L (zdS p5 zEG zEH zET zEU zEV zEW zEX zEL zEM zEI zEJ zEK) (yy 2 (zM (zn xV (zV za L) 1 L zjV) (zO 1 (CF.res zbE) k)))):=by kernel_rfl
def zco {β:Type} (za:xg) (L:Nat) (p5:Int) (zEG:List (List V)) (zEH zET:Int) (zEU:Bool) (zEV zEW zEX:List (List V)) (zEL:Int) (zEM:Bool) (zEI zEJ zEK:List (List V)) (k_hbbbaba:zlw β) (k_x2:zlE β):Option β :=
 ifb (decide (p5 < (8:Int))) (
 lt (IntKind.wrap .u8 p5) fun x17 =>
 lt ([(V.sc (.int .u8 x17))]++List.replicate 31 (V.sc (.int .u8 (0:Int)))) fun r18 =>
 za β L (3:Int) zEG zEH (fun v19 v20 v21 =>
 ifb ((v19:Int) == (0:Int)) (
 chk (0+32≤(List.length r18)) (
 za β L (5:Int) v20 v21 (fun v22 v23 v24 =>
 lt (IntKind.wrap .i64 ((v22:Int) - (1:Int))) fun x25 =>
 za β L (5:Int) v23 v24 (fun v26 v27 v28 =>
 za β L (50:Int) v27 v28 (fun v29 v30 v31 =>
 lt (IntKind.wrap .u32 v29) fun x32 =>
 chk ((List.length (List.take 32 r18))=32∧0+32≤35) (
 chk (1=1∧32+1≤(List.length (zc (List.replicate 32 (V.sc (.int .u8 (0:Int)))++[(V.sc (.int .i64 (0:Int))),(V.sc (.int .i64 (0:Int))),(V.sc (.int .u32 (0:Int)))]) 0 (List.take 32 r18)))) (
 chk (1=1∧33+1≤(List.length (zc (zc (List.replicate 32 (V.sc (.int .u8 (0:Int)))++[(V.sc (.int .i64 (0:Int))),(V.sc (.int .i64 (0:Int))),(V.sc (.int .u32 (0:Int)))]) 0 (List.take 32 r18)) 32 [(V.sc (.int .i64 x25))]))) (
 chk (1=1∧34+1≤(List.length (zc (zc (zc (List.replicate 32 (V.sc (.int .u8 (0:Int)))++[(V.sc (.int .i64 (0:Int))),(V.sc (.int .i64 (0:Int))),(V.sc (.int .u32 (0:Int)))]) 0 (List.take 32 r18)) 32 [(V.sc (.int .i64 x25))]) 33 [(V.sc (.int .i64 v26))]))) (
 chk ((List.length (zc (zc (zc (zc (List.replicate 32 (V.sc (.int .u8 (0:Int)))++[(V.sc (.int .i64 (0:Int))),(V.sc (.int .i64 (0:Int))),(V.sc (.int .u32 (0:Int)))]) 0 (List.take 32 r18)) 32 [(V.sc (.int .i64 x25))]) 33 [(V.sc (.int .i64 v26))]) 34 [(V.sc (.int .u32 x32))]))=35∧0+35≤35) (
 chk ((List.length zEJ+List.length (xc 35 1 (zc (List.replicate 32 (V.sc (.int .u8 (0:Int)))++[(V.sc (.int .i64 (0:Int))),(V.sc (.int .i64 (0:Int))),(V.sc (.int .u32 (0:Int)))]) 0 (zc (zc (zc (zc (List.replicate 32 (V.sc (.int .u8 (0:Int)))++[(V.sc (.int .i64 (0:Int))),(V.sc (.int .i64 (0:Int))),(V.sc (.int .u32 (0:Int)))]) 0 (List.take 32 r18)) 32 [(V.sc (.int .i64 x25))]) 33 [(V.sc (.int .i64 v26))]) 34 [(V.sc (.int .u32 x32))])))) * 56≤zj∧List.length zEJ+List.length (xc 35 1 (zc (List.replicate 32 (V.sc (.int .u8 (0:Int)))++[(V.sc (.int .i64 (0:Int))),(V.sc (.int .i64 (0:Int))),(V.sc (.int .u32 (0:Int)))]) 0 (zc (zc (zc (zc (List.replicate 32 (V.sc (.int .u8 (0:Int)))++[(V.sc (.int .i64 (0:Int))),(V.sc (.int .i64 (0:Int))),(V.sc (.int .u32 (0:Int)))]) 0 (List.take 32 r18)) 32 [(V.sc (.int .i64 x25))]) 33 [(V.sc (.int .i64 v26))]) 34 [(V.sc (.int .u32 x32))])))≤zj) (
 lt (zEJ++(xc 35 1 (zc (List.replicate 32 (V.sc (.int .u8 (0:Int)))++[(V.sc (.int .i64 (0:Int))),(V.sc (.int .i64 (0:Int))),(V.sc (.int .u32 (0:Int)))]) 0 (zc (zc (zc (zc (List.replicate 32 (V.sc (.int .u8 (0:Int)))++[(V.sc (.int .i64 (0:Int))),(V.sc (.int .i64 (0:Int))),(V.sc (.int .u32 (0:Int)))]) 0 (List.take 32 r18)) 32 [(V.sc (.int .i64 x25))]) 33 [(V.sc (.int .i64 v26))]) 34 [(V.sc (.int .u32 x32))])))) fun l33 =>
 lt (IntKind.wrap .i64 ((p5:Int)+(1:Int))) fun x34 =>
 k_hbbbaba x34 v30 v31 zET zEU zEV zEW zEX zEL zEM zEI l33 zEK))))))))))) (
 ifb ((v19:Int) == (1:Int)) (
 chk (0+32≤(List.length r18)) (
 chk ((List.length (List.take 32 r18))=32∧0+32≤32) (
 chk ((List.length zEK+List.length (xc 32 1 (zc (List.replicate 32 (V.sc (.int .u8 (0:Int)))) 0 (List.take 32 r18)))) * 32≤zj∧List.length zEK+List.length (xc 32 1 (zc (List.replicate 32 (V.sc (.int .u8 (0:Int)))) 0 (List.take 32 r18)))≤zj) (
 lt (zEK++(xc 32 1 (zc (List.replicate 32 (V.sc (.int .u8 (0:Int)))) 0 (List.take 32 r18)))) fun l35 =>
 lt (IntKind.wrap .i64 ((p5:Int)+(1:Int))) fun x36 =>
 k_hbbbaba x36 v20 v21 zET zEU zEV zEW zEX zEL zEM zEI zEJ l35)))) (
 lt (IntKind.wrap .i64 ((p5:Int)+(1:Int))) fun x37 =>
 k_hbbbaba x37 v20 v21 zET zEU zEV zEW zEX zEL zEM zEI zEJ zEK)))) (
 k_x2 zEG zEH zET zEU zEV zEW zEX zEL zEM zEI zEJ zEK)
theorem zpN {β:Type} (za:xg) (L:Nat) (p5:Int) (zEG:List (List V)) (zEH zET:Int) (zEU:Bool) (zEV zEW zEX:List (List V)) (zEL:Int) (zEM:Bool) (zEI zEJ zEK:List (List V)) (X:St→Option β) (K:KT β):zn xV (zV za L) 1 L zdh (zdS p5 zEG zEH zET zEU zEV zEW zEX zEL zEM zEI zEJ zEK) (zbw zfF X K)=zco za L p5 zEG zEH zET zEU zEV zEW zEX zEL zEM zEI zEJ zEK (fun p5 zEG zEH zET zEU zEV zEW zEX zEL zEM zEI zEJ zEK=>X (zdS p5 zEG zEH zET zEU zEV zEW zEX zEL zEM zEI zEJ zEK)) (fun zEG zEH zET zEU zEV zEW zEX zEL zEM zEI zEJ zEK=>K (.exit 2) (zjU zEG zEH zET zEU zEV zEW zEX zEL zEM zEI zEJ zEK)):=by kernel_rfl
def zgI {β:Type} (za:xg) (L:Nat) (zEG:List (List V)) (zEH zET:Int) (zEU:Bool) (zEV zEW zEX:List (List V)) (zEL:Int) (zEM:Bool) (zEI zEJ zEK:List (List V)) (k_fin:List V→List (List V)→Int→Option β):Option β :=
 lt [(V.sc (.int .u32 zEL)),(V.sc (.bool zEM)),(V.sl 1 zEI),(V.sl 35 zEJ),(V.sl 32 zEK)] fun r38 =>
 chk (0=0∧(List.length r38)=5∧5≠0) (
 k_fin r38 zEG zEH)
theorem zoJ {β:Type} (za:xg) (L:Nat) (zEG:List (List V)) (zEH zET:Int) (zEU:Bool) (zEV zEW zEX:List (List V)) (zEL:Int) (zEM:Bool) (zEI zEJ zEK:List (List V)) (k:KK β):(yy 2 (zM (zn xV (zV za L) 1 L zjV) (zO 1 (CF.res zbE) k))) (.exit 2) (zjU zEG zEH zET zEU zEV zEW zEX zEL zEM zEI zEJ zEK)=zgI za L zEG zEH zET zEU zEV zEW zEX zEL zEM zEI zEJ zEK (fun p0 zEG zEH=>k (V.agg p0) [(.live false [(V.sl 1 zEG),(V.sc (.int .i64 zEH))])]):=by kernel_rfl
def zcZ {β:Type} (za:xg) (L:Nat) (k_x0:zl3 β):Nat→Int→List (List V)→Int→Int→Bool→List (List V)→List (List V)→List (List V)→Int→Bool→List (List V)→List (List V)→List (List V)→Option β
 | 0,_,_,_,_,_,_,_,_,_,_,_,_,_=>none
 | n+1,p4,zEG,zEH,zET,zEU,zEV,zEW,zEX,zEL,zEM,zEI,zEJ,zEK=>zf9 za L p4 zEG zEH zET zEU zEV zEW zEX zEL zEM zEI zEJ zEK (fun p4 zEG zEH zET zEU zEV zEW zEX zEL zEM zEI zEJ zEK=>zcZ za L k_x0 n p4 zEG zEH zET zEU zEV zEW zEX zEL zEM zEI zEJ zEK) k_x0
theorem zk1 {β:Type} (za:xg) (L:Nat) (K:KT β):∀ (n:Nat) (p4:Int) (zEG:List (List V)) (zEH zET:Int) (zEU:Bool) (zEV zEW zEX:List (List V)) (zEL:Int) (zEM:Bool) (zEI zEJ zEK:List (List V)),xG (zn xV (zV za L) 1 L zdJ) zf4 n (zep p4 zEG zEH zET zEU zEV zEW zEX zEL zEM zEI zEJ zEK) K=zcZ za L (fun zEG zEH zET zEU zEV zEW zEX zEL zEM zEI zEJ zEK=>K (.exit 0) (zgF zEG zEH zET zEU zEV zEW zEX zEL zEM zEI zEJ zEK)) n p4 zEG zEH zET zEU zEV zEW zEX zEL zEM zEI zEJ zEK:=by
 intro n
 induction n with
 | zero=>intros; rfl
 | succ n ih =>
  intro p4 zEG zEH zET zEU zEV zEW zEX zEL zEM zEI zEJ zEK
  refine (zqB za L p4 zEG zEH zET zEU zEV zEW zEX zEL zEM zEI zEJ zEK (fun σ=>xG (zn xV (zV za L) 1 L zdJ) zf4 n σ K) K).trans ?_
  simp only [ih]
  rfl
def zaY {β:Type} (za:xg) (L:Nat) (k_x2:zlE β):Nat→Int→List (List V)→Int→Int→Bool→List (List V)→List (List V)→List (List V)→Int→Bool→List (List V)→List (List V)→List (List V)→Option β
 | 0,_,_,_,_,_,_,_,_,_,_,_,_,_=>none
 | n+1,p5,zEG,zEH,zET,zEU,zEV,zEW,zEX,zEL,zEM,zEI,zEJ,zEK=>zco za L p5 zEG zEH zET zEU zEV zEW zEX zEL zEM zEI zEJ zEK (fun p5 zEG zEH zET zEU zEV zEW zEX zEL zEM zEI zEJ zEK=>zaY za L k_x2 n p5 zEG zEH zET zEU zEV zEW zEX zEL zEM zEI zEJ zEK) k_x2
theorem zkk {β:Type} (za:xg) (L:Nat) (K:KT β):∀ (n:Nat) (p5:Int) (zEG:List (List V)) (zEH zET:Int) (zEU:Bool) (zEV zEW zEX:List (List V)) (zEL:Int) (zEM:Bool) (zEI zEJ zEK:List (List V)),xG (zn xV (zV za L) 1 L zdh) zfF n (zdS p5 zEG zEH zET zEU zEV zEW zEX zEL zEM zEI zEJ zEK) K=zaY za L (fun zEG zEH zET zEU zEV zEW zEX zEL zEM zEI zEJ zEK=>K (.exit 2) (zjU zEG zEH zET zEU zEV zEW zEX zEL zEM zEI zEJ zEK)) n p5 zEG zEH zET zEU zEV zEW zEX zEL zEM zEI zEJ zEK:=by
 intro n
 induction n with
 | zero=>intros; rfl
 | succ n ih =>
  intro p5 zEG zEH zET zEU zEV zEW zEX zEL zEM zEI zEJ zEK
  refine (zpN za L p5 zEG zEH zET zEU zEV zEW zEX zEL zEM zEI zEJ zEK (fun σ=>xG (zn xV (zV za L) 1 L zdh) zfF n σ K) K).trans ?_
  simp only [ih]
  rfl
def zes {β:Type} (za:xg) (L:Nat) (zEG:List (List V)) (zEH zET:Int) (zEU:Bool) (zEV zEW zEX:List (List V)) (zEL:Int) (zEM:Bool) (zEI zEJ zEK:List (List V)) (k_fin:List V→List (List V)→Int→Option β):Option β :=
 zhz za L zEG zEH zET zEU zEV zEW zEX zEL zEM zEI zEJ zEK (fun p5 zEG zEH zET zEU zEV zEW zEX zEL zEM zEI zEJ zEK=>zaY za L (fun zEG zEH zET zEU zEV zEW zEX zEL zEM zEI zEJ zEK=>zgI za L zEG zEH zET zEU zEV zEW zEX zEL zEM zEI zEJ zEK k_fin) L p5 zEG zEH zET zEU zEV zEW zEX zEL zEM zEI zEJ zEK)
theorem zoK {β:Type} (za:xg) (L:Nat) (zEG:List (List V)) (zEH zET:Int) (zEU:Bool) (zEV zEW zEX:List (List V)) (zEL:Int) (zEM:Bool) (zEI zEJ zEK:List (List V)) (k:KK β):(yy 0 (zM (zn xV (zV za L) 1 L zhS) (zO 1 (CF.res zbE) k))) (.exit 0) (zgF zEG zEH zET zEU zEV zEW zEX zEL zEM zEI zEJ zEK)=zes za L zEG zEH zET zEU zEV zEW zEX zEL zEM zEI zEJ zEK (fun p0 zEG zEH=>k (V.agg p0) [(.live false [(V.sl 1 zEG),(V.sc (.int .i64 zEH))])]):=by
 refine (zpg za L zEG zEH zET zEU zEV zEW zEX zEL zEM zEI zEJ zEK k).trans ?_
 unfold zes
 first
  | (simp only [zkk,zoJ]; done)
  | (simp only [zkk]; rfl)
def zkF {β:Type} (za:xg) (L:Nat) (zEG:List (List V)) (zEH:Int) (k_fin:List V→List (List V)→Int→Option β):Option β :=
 zoh za L zEG zEH (fun p4 zEG zEH zET zEU zEV zEW zEX zEL zEM zEI zEJ zEK=>zcZ za L (fun zEG zEH zET zEU zEV zEW zEX zEL zEM zEI zEJ zEK=>zes za L zEG zEH zET zEU zEV zEW zEX zEL zEM zEI zEJ zEK k_fin) L p4 zEG zEH zET zEU zEV zEW zEX zEL zEM zEI zEJ zEK)
theorem zur {β:Type} (za:xg) (L:Nat) (zEG:List (List V)) (zEH:Int) (k:KK β):zK xV (zV za L) L zbE [(V.ptr 0 0)] [(.live false [(V.sl 1 zEG),(V.sc (.int .i64 zEH))])] k=zkF za L zEG zEH (fun p0 zEG zEH=>k (V.agg p0) [(.live false [(V.sl 1 zEG),(V.sc (.int .i64 zEH))])]):=by
 refine (zuZ za L zEG zEH k).trans ?_
 unfold zkF
 first
  | (simp only [zk1,zoK]; done)
  | (simp only [zk1]; rfl)
abbrev yk:=∀ (β:Type),Nat→List (List V)→Int→(List V→List (List V)→Int→Option β)→Option β
def yb (β:Type) (L:Nat) (zEG:List (List V)) (zEH:Int) (k_fin:List V→List (List V)→Int→Option β):Option β:=zkF za L zEG zEH k_fin
def zgs (yb:yk) (L:Nat) (β:Type) (args:List V) (bor:Bor) (k:KK β):Option β:=match args,bor with
 | [a0],[(.live false [w0_0,w0_1])]=>aP 0 0 a0 (aL 1 w0_0 fun zEG=>aI .i64 w0_1 fun zEH=>yb β L zEG zEH (fun p0 zEG zEH=>k (V.agg p0) [(.live false [(V.sl 1 zEG),(V.sc (.int .i64 zEH))])]))
 | _,_=>none
theorem zvd (L:Nat) (β:Type) (args:List V) (bor:Bor) (k:KK β) (r:β) (h:zgs yb L β args bor k=some r):zK xV (zV za L) L zbE args bor k=some r:=by
 unfold zgs at h
 split at h
 ·have q:=zvf h; clear h; obtain ⟨rfl,h⟩:=q
  have q:=zaZ h; clear h; obtain ⟨zEG,rfl,h⟩:=q
  have q:=zaG h; clear h; obtain ⟨zEH,rfl,h⟩:=q
  exact (zur za L zEG zEH k).trans h
 ·cases h
def zhI:CF:=⟨19,[.cellS 2 5 false],
 (.seq (.reg [oo 1 (.box false (tq 0)),
   oo 2 (.alloc false [(.sc (.int .u32 0)),(.sc (.bool false)),(.gs 1 []),(.gs 35 []),(.gs 32 [])])])
 (.seq (.reg [⟨(some 3),true,none,.buildSlice 1 0 [(.sc (.int .i64 0))] []⟩,
   oo 4 (.fieldAddr 2 (tq 1)),
   oo 5 (.load false 1 (tq 4) false),
   ⟨(some 6),true,none,.append 1 8 (tq 3) (tq 5)⟩,
   oo 7 (.fieldAddr 2 (tq 1)),
   oz (.store 1 (tq 7) (tq 6))])
 (.seq (.reg [⟨(some 8),true,none,.buildSlice 35 0 (rp 32 (.sc (.int .u8 0)) (rp 2 (.sc (.int .i64 0)) (rp 1 (.sc (.int .u32 0)) []))) []⟩,
   oo 9 (.fieldAddr 3 (tq 1)),
   oo 10 (.load false 1 (tq 9) false),
   ⟨(some 11),true,none,.append 35 56 (tq 8) (tq 10)⟩,
   oo 12 (.fieldAddr 3 (tq 1)),
   oz (.store 1 (tq 12) (tq 11))])
 (.seq (.reg [⟨(some 13),true,none,.buildSlice 32 0 (rp 32 (.sc (.int .u8 0)) []) []⟩,
   oo 14 (.fieldAddr 4 (tq 1)),
   oo 15 (.load false 1 (tq 14) false),
   ⟨(some 16),true,none,.append 32 32 (tq 13) (tq 15)⟩,
   oo 17 (.fieldAddr 4 (tq 1)),
   oz (.store 1 (tq 17) (tq 16))])
 (.seq (.reg [oo 18 (.load true 5 (tq 1) true),
   oz (.store 5 (tq 2) (tq 18))])
 .ret)))))⟩
def znp:Hint:=⟨[(4,0)],[(1,0),(1,3),(2,0),(2,3),(3,0),(3,3)],[none],[],[],false,true⟩
def zkt:Nat→Sh:=xZ [(1,(.row [(.int .u32),.bool,(.sl 1),(.sl 35),(.sl 32)]))]
def zk4 (L:Nat):CBC:=noC
abbrev znn (β:Type):Type:=Int→Bool→Nat→Nat→Nat→List V→List V→List V→Option β
def zlG {β:Type} (L:Nat) (p0:List V) (k_fin:znn β):Option β :=
 chk (List.length p0=5) (
 cI .u32 p0 0 fun v0 =>
 cB p0 1 fun v1 =>
 cL 1 p0 2 fun v2 =>
 cL 35 p0 3 fun v3 =>
 cL 32 p0 4 fun v4 =>
 chk ((0+List.length v2) * 8≤zj∧0+List.length v2≤zj) (
 chk ((0+List.length v3) * 56≤zj∧0+List.length v3≤zj) (
 chk ((0+List.length v4) * 32≤zj∧0+List.length v4≤zj) (
 k_fin v0 v1 (List.length v2) (List.length v3) (List.length v4) (List.flatten v2) (List.flatten v3) (List.flatten v4)))))
theorem zs5 {β:Type} (L:Nat) (p0:List V) (k:KK β):zK zkt (zk4 L) L zhI [(V.agg p0)] [] k=zlG L p0 (fun zE0 zE1 zFi zFh zFj b0 b1 b2=>k (V.st [(V.sc (.int .u32 zE0)),(V.sc (.bool zE1)),(V.own 0 0 zFi 1),(V.own 1 0 zFh 35),(V.own 2 0 zFj 32)]) [(.live true b0),(.live true b1),(.live true b2)]):=by kernel_rfl
abbrev zw:=∀ (β:Type),Nat→List V→(Int→Bool→Nat→Nat→Nat→List V→List V→List V→Option β)→Option β
def xf (β:Type) (L:Nat) (p0:List V) (k_fin:znn β):Option β:=zlG L p0 k_fin
def zcm (xf:zw) (L:Nat) (β:Type) (args:List V) (bor:Bor) (k:KK β):Option β:=match args,bor with
 | [a0],[]=>aG a0 fun p0=>xf β L p0 (fun zE0 zE1 zFi zFh zFj b0 b1 b2=>k (V.st [(V.sc (.int .u32 zE0)),(V.sc (.bool zE1)),(V.own 0 0 zFi 1),(V.own 1 0 zFh 35),(V.own 2 0 zFj 32)]) [(.live true b0),(.live true b1),(.live true b2)])
 | _,_=>none
theorem ztj (L:Nat) (β:Type) (args:List V) (bor:Bor) (k:KK β) (r:β) (h:zcm xf L β args bor k=some r):zK zkt (zk4 L) L zhI args bor k=some r:=by
 unfold zcm at h
 split at h
 ·have q:=zfq h; clear h; obtain ⟨p0,rfl,h⟩:=q
  exact (zs5 L p0 k).trans h
 ·cases h
def ziP:CF:=⟨83,[.cellS 6 5 true],
 (.seq (.reg [oo 3 (.box false (tq 0)),
   oo 6 (.alloc false [(.sc (.int .u32 0)),(.sc (.bool false)),(.gs 1 []),(.gs 35 []),(.gs 32 [])])])
 (.seq (.reg [oo 7 (.load true 5 (tq 3) false),
   oo 8 (.call 355 [((tq 7),1)] [12,13,17]),
   oz (.store 5 (tq 3) (tq 8))])
 (.seq (.seq (.reg [oo 9 (.move (tq 1) false),
   oo 10 (.call 217 [((tq 9),0),((.const (.sc (.int .i64 5))),0)] [])])
 (.block 0 (.seq (.reg [oo 12 (.bin .eql (tq 10) (.const (.sc (.int .i64 0)))),
   oo 11 (.move (tq 12) false)])
 (.cond (tq 11)
 (.dreg [] [(oo 13 (.fieldAddr 2 (tq 3)),q0),
   (oo 14 (.load false 1 (tq 13) true),ql 3 [] [18]),
   (oo 15 (.move (tq 2) false),q0),
   (oo 16 (.call 217 [((tq 15),0),((.const (.sc (.int .i64 5))),0)] []),qc [3] []),
   (oo 17 (.bin .sub (tq 16) (.const (.sc (.int .i64 1)))),q0),
   (oo 18 (.buildSlice 1 1 [(.sc (.int .i64 0))] [(0,1,(tq 17))]),qn [3] []),
   (oo 19 (.append 1 8 (tq 14) (tq 18)),q0),
   (oo 20 (.fieldAddr 2 (tq 3)),q0),
   (oz (.store 1 (tq 20) (tq 19)),q0)])
 (.seq (.reg [oo 22 (.bin .eql (tq 10) (.const (.sc (.int .i64 1)))),
   oo 21 (.move (tq 22) false)])
 (.cond (tq 21)
 (.seq (.reg [oo 23 (.fieldAddr 3 (tq 3)),
   oo 24 (.load false 1 (tq 23) false),
   oo 25 (.lenS (tq 24)),
   oo 26 (.bin .gtr (tq 25) (.const (.sc (.int .i64 0))))])
 (.cond (tq 26)
 (.dreg [] [(oo 27 (.fieldAddr 4 (tq 3)),q0),
   (oo 28 (.load false 1 (tq 27) true),ql 3 [] [39]),
   (oo 29 (.fieldAddr 3 (tq 3)),q0),
   (oo 30 (.load false 1 (tq 29) false),ql 3 [] []),
   (oo 31 (.move (tq 2) false),q0),
   (oo 32 (.fieldAddr 3 (tq 3)),q0),
   (oo 33 (.load false 1 (tq 32) false),ql 3 [] []),
   (oo 34 (.lenS (tq 33)),q0),
   (oo 35 (.call 217 [((tq 31),0),((tq 34),0)] []),qc [3] []),
   (oo 36 (.indexAddrS 35 (tq 30) (tq 35)),q0),
   (oo 37 (.fieldAddr 0 (tq 36)),q0),
   (oo 38 (.load true 32 (tq 37) false),qc [3] []),
   (oo 39 (.buildSlice 32 1 (rp 32 (.sc (.int .u8 0)) []) [(0,32,(tq 38))]),qn [3] []),
   (oo 40 (.append 32 32 (tq 28) (tq 39)),q0),
   (oo 41 (.fieldAddr 4 (tq 3)),q0),
   (oz (.store 1 (tq 41) (tq 40)),q0)])
 .skip))
 (.seq (.reg [oo 43 (.bin .eql (tq 10) (.const (.sc (.int .i64 2)))),
   oo 42 (.move (tq 43) false)])
 (.cond (tq 42)
 (.seq (.reg [oo 44 (.fieldAddr 3 (tq 3)),
   oo 45 (.load false 1 (tq 44) false),
   oo 46 (.lenS (tq 45)),
   oo 47 (.bin .gtr (tq 46) (.const (.sc (.int .i64 0))))])
 (.cond (tq 47)
 (.dreg [] [(oo 48 (.fieldAddr 3 (tq 3)),q0),
   (oo 49 (.load false 1 (tq 48) true),ql 3 [] [59]),
   (oo 50 (.fieldAddr 3 (tq 3)),q0),
   (oo 51 (.load false 1 (tq 50) false),ql 3 [] []),
   (oo 52 (.move (tq 2) false),q0),
   (oo 53 (.fieldAddr 3 (tq 3)),q0),
   (oo 54 (.load false 1 (tq 53) false),ql 3 [] []),
   (oo 55 (.lenS (tq 54)),q0),
   (oo 56 (.call 217 [((tq 52),0),((tq 55),0)] []),qc [3] []),
   (oo 57 (.indexAddrS 35 (tq 51) (tq 56)),q0),
   (oo 58 (.load true 35 (tq 57) false),qc [3] []),
   (oo 59 (.buildSlice 35 1 (rp 32 (.sc (.int .u8 0)) (rp 2 (.sc (.int .i64 0)) (rp 1 (.sc (.int .u32 0)) []))) [(0,35,(tq 58))]),qn [3] []),
   (oo 60 (.append 35 56 (tq 49) (tq 59)),q0),
   (oo 61 (.fieldAddr 3 (tq 3)),q0),
   (oz (.store 1 (tq 61) (tq 60)),q0)])
 .skip))
 (.seq (.reg [oo 63 (.bin .eql (tq 10) (.const (.sc (.int .i64 3)))),
   oo 62 (.move (tq 63) false)])
 (.cond (tq 62)
 (.seq (.reg [oo 64 (.fieldAddr 4 (tq 3)),
   oo 65 (.load false 1 (tq 64) false),
   oo 66 (.lenS (tq 65)),
   oo 67 (.bin .gtr (tq 66) (.const (.sc (.int .i64 0))))])
 (.cond (tq 67)
 (.dreg [] [(oo 68 (.fieldAddr 4 (tq 3)),q0),
   (oo 69 (.load false 1 (tq 68) true),ql 3 [] [79]),
   (oo 70 (.fieldAddr 4 (tq 3)),q0),
   (oo 71 (.load false 1 (tq 70) false),ql 3 [] []),
   (oo 72 (.move (tq 2) false),q0),
   (oo 73 (.fieldAddr 4 (tq 3)),q0),
   (oo 74 (.load false 1 (tq 73) false),ql 3 [] []),
   (oo 75 (.lenS (tq 74)),q0),
   (oo 76 (.call 217 [((tq 72),0),((tq 75),0)] []),qc [3] []),
   (oo 77 (.indexAddrS 32 (tq 71) (tq 76)),q0),
   (oo 78 (.load true 32 (tq 77) false),qc [3] []),
   (oo 79 (.buildSlice 32 1 (rp 32 (.sc (.int .u8 0)) []) [(0,32,(tq 78))]),qn [3] []),
   (oo 80 (.append 32 32 (tq 69) (tq 79)),q0),
   (oo 81 (.fieldAddr 4 (tq 3)),q0),
   (oz (.store 1 (tq 81) (tq 80)),q0)])
 .skip))
 .skip))))))))))
 (.seq (.reg [oo 82 (.load true 5 (tq 3) true),
   oz (.store 5 (tq 6) (tq 82))])
 .ret))))⟩
def zoy:Hint:=⟨[(4,1),(7,1),(10,1),(13,1),(14,0)],[],[none,none,none,none,none,none,none,none,none],[],[(1,1,[12,13,17])],true,true⟩
def zlM:Nat→Sh:=xZ [(3,(.row [(.int .u32),.bool,(.sl 1),(.sl 35),(.sl 32)]))]
def zl5 (xf:zw) (yc:zm) (L:Nat):CBC:=(xB 217 (zfx yc L) (xB 355 (zcm xf L) noC))
def zbF {β:Type} (xf:zw) (yc:zm) (L:Nat) (p0:List V) (p1 p2:Int) (k_fin:List V→Option β):Option β :=
 chk (List.length p0=5) (
 cI .u32 p0 0 fun v0 =>
 cB p0 1 fun v1 =>
 cL 1 p0 2 fun v2 =>
 cL 35 p0 3 fun v3 =>
 cL 32 p0 4 fun v4 =>
 xf β L [(V.sc (.int .u32 v0)),(V.sc (.bool v1)),(V.sl 1 v2),(V.sl 35 v3),(V.sl 32 v4)] (fun v5 v6 v7 v8 v9 v10 v11 v12 =>
 yc β L p1 (5:Int) (fun v13 =>
 ifb ((v13:Int) == (0:Int)) (
 yc β L p2 (5:Int) (fun v14 =>
 lt (IntKind.wrap .i64 ((v14:Int) - (1:Int))) fun x15 =>
 chk ((v7+List.length (xc 1 1 [(V.sc (.int .i64 x15))])) * 8≤zj∧(v7+List.length (xc 1 1 [(V.sc (.int .i64 x15))]))≤zj∧((v7+List.length (xc 1 1 [(V.sc (.int .i64 x15))]))≠0∨(List.length v10)=0)) (
 lt (List.take (v7 * 1) v10++List.flatten (xc 1 1 [(V.sc (.int .i64 x15))])) fun r16 =>
 k_fin [(V.sc (.int .u32 v5)),(V.sc (.bool v6)),(V.sl 1 (xc 1 (v7+List.length (xc 1 1 [(V.sc (.int .i64 x15))])) r16)),(V.sl 35 (xc 35 v8 v11)),(V.sl 32 (xc 32 v9 v12))]))) (
 ifb ((v13:Int) == (1:Int)) (
 ifb (decide (((v8:Nat):Int) > (0:Int))) (
 yc β L p2 ((v8:Nat):Int) (fun v17 =>
 chk (0≤v17∧v17 < ((v8:Nat):Int)) (
 chk (((0+((Int.toNat v17) * 35))+0)+32≤(List.length v11)) (
 chk ((List.length (List.take 32 (List.drop ((0+((Int.toNat v17) * 35))+0) v11)))=32∧0+32≤32) (
 chk ((v9+List.length (xc 32 1 (zc (List.replicate 32 (V.sc (.int .u8 (0:Int)))) 0 (List.take 32 (List.drop ((0+((Int.toNat v17) * 35))+0) v11))))) * 32≤zj∧(v9+List.length (xc 32 1 (zc (List.replicate 32 (V.sc (.int .u8 (0:Int)))) 0 (List.take 32 (List.drop ((0+((Int.toNat v17) * 35))+0) v11)))))≤zj∧((v9+List.length (xc 32 1 (zc (List.replicate 32 (V.sc (.int .u8 (0:Int)))) 0 (List.take 32 (List.drop ((0+((Int.toNat v17) * 35))+0) v11)))))≠0∨(List.length v12)=0)) (
 lt (List.take (v9 * 32) v12++List.flatten (xc 32 1 (zc (List.replicate 32 (V.sc (.int .u8 (0:Int)))) 0 (List.take 32 (List.drop ((0+((Int.toNat v17) * 35))+0) v11))))) fun r18 =>
 k_fin [(V.sc (.int .u32 v5)),(V.sc (.bool v6)),(V.sl 1 (xc 1 v7 v10)),(V.sl 35 (xc 35 v8 v11)),(V.sl 32 (xc 32 (v9+List.length (xc 32 1 (zc (List.replicate 32 (V.sc (.int .u8 (0:Int)))) 0 (List.take 32 (List.drop ((0+((Int.toNat v17) * 35))+0) v11))))) r18))])))))) (
 k_fin [(V.sc (.int .u32 v5)),(V.sc (.bool v6)),(V.sl 1 (xc 1 v7 v10)),(V.sl 35 (xc 35 v8 v11)),(V.sl 32 (xc 32 v9 v12))])) (
 ifb ((v13:Int) == (2:Int)) (
 ifb (decide (((v8:Nat):Int) > (0:Int))) (
 yc β L p2 ((v8:Nat):Int) (fun v19 =>
 chk (0≤v19∧v19 < ((v8:Nat):Int)) (
 chk ((0+((Int.toNat v19) * 35))+35≤(List.length v11)) (
 chk ((List.length (List.take 35 (List.drop (0+((Int.toNat v19) * 35)) v11)))=35∧0+35≤35) (
 chk ((v8+List.length (xc 35 1 (zc (List.replicate 32 (V.sc (.int .u8 (0:Int)))++[(V.sc (.int .i64 (0:Int))),(V.sc (.int .i64 (0:Int))),(V.sc (.int .u32 (0:Int)))]) 0 (List.take 35 (List.drop (0+((Int.toNat v19) * 35)) v11))))) * 56≤zj∧(v8+List.length (xc 35 1 (zc (List.replicate 32 (V.sc (.int .u8 (0:Int)))++[(V.sc (.int .i64 (0:Int))),(V.sc (.int .i64 (0:Int))),(V.sc (.int .u32 (0:Int)))]) 0 (List.take 35 (List.drop (0+((Int.toNat v19) * 35)) v11)))))≤zj∧((v8+List.length (xc 35 1 (zc (List.replicate 32 (V.sc (.int .u8 (0:Int)))++[(V.sc (.int .i64 (0:Int))),(V.sc (.int .i64 (0:Int))),(V.sc (.int .u32 (0:Int)))]) 0 (List.take 35 (List.drop (0+((Int.toNat v19) * 35)) v11)))))≠0∨(List.length v11)=0)) (
 lt (List.take (v8 * 35) v11++List.flatten (xc 35 1 (zc (List.replicate 32 (V.sc (.int .u8 (0:Int)))++[(V.sc (.int .i64 (0:Int))),(V.sc (.int .i64 (0:Int))),(V.sc (.int .u32 (0:Int)))]) 0 (List.take 35 (List.drop (0+((Int.toNat v19) * 35)) v11))))) fun r20 =>
 k_fin [(V.sc (.int .u32 v5)),(V.sc (.bool v6)),(V.sl 1 (xc 1 v7 v10)),(V.sl 35 (xc 35 (v8+List.length (xc 35 1 (zc (List.replicate 32 (V.sc (.int .u8 (0:Int)))++[(V.sc (.int .i64 (0:Int))),(V.sc (.int .i64 (0:Int))),(V.sc (.int .u32 (0:Int)))]) 0 (List.take 35 (List.drop (0+((Int.toNat v19) * 35)) v11))))) r20)),(V.sl 32 (xc 32 v9 v12))])))))) (
 k_fin [(V.sc (.int .u32 v5)),(V.sc (.bool v6)),(V.sl 1 (xc 1 v7 v10)),(V.sl 35 (xc 35 v8 v11)),(V.sl 32 (xc 32 v9 v12))])) (
 ifb ((v13:Int) == (3:Int)) (
 ifb (decide (((v9:Nat):Int) > (0:Int))) (
 yc β L p2 ((v9:Nat):Int) (fun v21 =>
 chk (0≤v21∧v21 < ((v9:Nat):Int)) (
 chk ((0+((Int.toNat v21) * 32))+32≤(List.length v12)) (
 chk ((List.length (List.take 32 (List.drop (0+((Int.toNat v21) * 32)) v12)))=32∧0+32≤32) (
 chk ((v9+List.length (xc 32 1 (zc (List.replicate 32 (V.sc (.int .u8 (0:Int)))) 0 (List.take 32 (List.drop (0+((Int.toNat v21) * 32)) v12))))) * 32≤zj∧(v9+List.length (xc 32 1 (zc (List.replicate 32 (V.sc (.int .u8 (0:Int)))) 0 (List.take 32 (List.drop (0+((Int.toNat v21) * 32)) v12)))))≤zj∧((v9+List.length (xc 32 1 (zc (List.replicate 32 (V.sc (.int .u8 (0:Int)))) 0 (List.take 32 (List.drop (0+((Int.toNat v21) * 32)) v12)))))≠0∨(List.length v12)=0)) (
 lt (List.take (v9 * 32) v12++List.flatten (xc 32 1 (zc (List.replicate 32 (V.sc (.int .u8 (0:Int)))) 0 (List.take 32 (List.drop (0+((Int.toNat v21) * 32)) v12))))) fun r22 =>
 k_fin [(V.sc (.int .u32 v5)),(V.sc (.bool v6)),(V.sl 1 (xc 1 v7 v10)),(V.sl 35 (xc 35 v8 v11)),(V.sl 32 (xc 32 (v9+List.length (xc 32 1 (zc (List.replicate 32 (V.sc (.int .u8 (0:Int)))) 0 (List.take 32 (List.drop (0+((Int.toNat v21) * 32)) v12))))) r22))])))))) (
 k_fin [(V.sc (.int .u32 v5)),(V.sc (.bool v6)),(V.sl 1 (xc 1 v7 v10)),(V.sl 35 (xc 35 v8 v11)),(V.sl 32 (xc 32 v9 v12))])) (
 k_fin [(V.sc (.int .u32 v5)),(V.sc (.bool v6)),(V.sl 1 (xc 1 v7 v10)),(V.sl 35 (xc 35 v8 v11)),(V.sl 32 (xc 32 v9 v12))])))))))
theorem ztR {β:Type} (xf:zw) (yc:zm) (L:Nat) (p0:List V) (p1 p2:Int) (k:KK β):zK zlM (zl5 xf yc L) L ziP [(V.agg p0),(V.sc (.int .i64 p1)),(V.sc (.int .i64 p2))] [] k=zbF xf yc L p0 p1 p2 (fun p0=>k (V.agg p0) []):=by kernel_rfl
abbrev xi:=∀ (β:Type),Nat→List V→Int→Int→(List V→Option β)→Option β
def xa (β:Type) (L:Nat) (p0:List V) (p1 p2:Int) (k_fin:List V→Option β):Option β:=zbF xf yc L p0 p1 p2 k_fin
def zfp (xa:xi) (L:Nat) (β:Type) (args:List V) (bor:Bor) (k:KK β):Option β:=match args,bor with
 | [a0,a1,a2],[]=>aG a0 fun p0=>aI .i64 a1 fun p1=>aI .i64 a2 fun p2=>xa β L p0 p1 p2 (fun p0=>k (V.agg p0) [])
 | _,_=>none
theorem zuc (L:Nat) (β:Type) (args:List V) (bor:Bor) (k:KK β) (r:β) (h:zfp xa L β args bor k=some r):zK zlM (zl5 xf yc L) L ziP args bor k=some r:=by
 unfold zfp at h
 split at h
 ·have q:=zfq h; clear h; obtain ⟨p0,rfl,h⟩:=q
  have q:=zaG h; clear h; obtain ⟨p1,rfl,h⟩:=q
  have q:=zaG h; clear h; obtain ⟨p2,rfl,h⟩:=q
  exact (ztR xf yc L p0 p1 p2 k).trans h
 ·cases h
def zg2:CF:=⟨12,[.tmp 3],
 (.seq (.reg [oo 2 (.box true (tq 0)),
   oo 3 (.move (.const (.sc (.bool false))) false)])
 (.seq (.reg [oo 5 (.load false 1 (tq 1) false),
   oo 6 (.load true 32 (tq 2) false),
   oo 7 (.mlook 34 false (.sc (.bool false)) (tq 5) (tq 6)),
   oo 4 (.move (tq 7) false)])
 (.seq (.reg [oo 8 (.load false 1 (tq 1) false),
   oo 9 (.load true 32 (tq 2) false),
   oz (.mput 34 (tq 8) (tq 9) (.const (.sc (.bool true))))])
 (.seq (.reg [oo 10 (.move (tq 4) false),
   oo 11 (.un .not (tq 10)),
   oo 3 (.move (tq 11) false)])
 .ret))))⟩
def zmA:Hint:=⟨[],[],[none],[],[],false,false⟩
def zjZ:Nat→Sh:=xZ [(7,.bool)]
def zj5 (L:Nat):CBC:=noC
def zkN {β:Type} (L:Nat) (p0:List V) (b1:List (V × V)) (k_fin:Bool→List (V × V)→Option β):Option β :=
 chk (0+32≤(List.length p0)) (
 mAt 34 (V.agg (List.take 32 p0)) b1 fun q0 =>
 aB (Option.getD q0 (V.sc (.bool false))) fun v1 =>
 chk (0+32≤(List.length p0)) (
 zAh 34 (V.agg (List.take 32 p0)) (V.sc (.bool true)) b1 fun m2 =>
 k_fin (!v1) m2))
theorem zsi {β:Type} (L:Nat) (p0:List V) (b1:List (V × V)) (k:KK β):zK zjZ (zj5 L) L zg2 [(V.agg p0),(V.ptr 0 0)] [(.live false [(V.mp 1)]),(.mp b1)] k=zkN L p0 b1 (fun p0 b1=>k (V.sc (.bool p0)) [(.live false [(V.mp 1)]),(.mp b1)]):=by kernel_rfl
abbrev xv:=∀ (β:Type),Nat→List V→List (V × V)→(Bool→List (V × V)→Option β)→Option β
def xe (β:Type) (L:Nat) (p0:List V) (b1:List (V × V)) (k_fin:Bool→List (V × V)→Option β):Option β:=zkN L p0 b1 k_fin
def zhL (xe:xv) (L:Nat) (β:Type) (args:List V) (bor:Bor) (k:KK β):Option β:=match args,bor with
 | [a0,a1],[(.live false [w0_0]),(.mp b1)]=>aG a0 fun p0=>aP 0 0 a1 (aM 1 w0_0 (xe β L p0 b1 (fun p0 b1=>k (V.sc (.bool p0)) [(.live false [(V.mp 1)]),(.mp b1)])))
 | _,_=>none
theorem zsg (L:Nat) (β:Type) (args:List V) (bor:Bor) (k:KK β) (r:β) (h:zhL xe L β args bor k=some r):zK zjZ (zj5 L) L zg2 args bor k=some r:=by
 unfold zhL at h
 split at h
 ·have q:=zfq h; clear h; obtain ⟨p0,rfl,h⟩:=q
  have q:=zvf h; clear h; obtain ⟨rfl,h⟩:=q
  have q:=zDc h; clear h; obtain ⟨rfl,h⟩:=q
  exact (zsi L p0 _ k).trans h
 ·cases h
def zbB:CC:=(.seq (.reg [oo 71 (.bin .lss (tq 70) (tq 69))])
 (.seq (.cond (tq 71)
 .skip
 (.seq (.mask (bl 0 79) (bl 528905046081400263932633 79))
 (.exit 4)))
 (.seq (.block 5 (.seq (.reg [oo 72 (.indexAddrS 32 (tq 68) (tq 70)),
   oo 73 (.load true 32 (tq 72) false),
   oo 10 (.alloc true (rp 32 (.sc (.int .u8 0)) [])),
   oz (.store 32 (tq 10) (tq 73))])
 (.seq (.reg [oo 74 (.move (tq 6) false),
   oo 75 (.load true 32 (tq 10) false),
   oo 76 (.callv (tq 74) [((tq 75),0)] []),
   oo 77 (.un .not (tq 76))])
 (.cond (tq 77)
 (.seq (.reg [oo 2 (.move (.const (.sc (.bool false))) false)])
 (.seq (.mask (bl 4 79) (bl 528905046081400263932637 79))
 .ret))
 .skip))))
 (.reg [oo 78 (.bin .add (tq 70) (.const (.sc (.int .i64 1)))),
   oo 70 (.move (tq 78) false)]))))
def zbN:CC:=(.seq (.reg [oo 58 (.bin .lss (tq 57) (tq 56))])
 (.seq (.cond (tq 58)
 .skip
 (.seq (.mask (bl 66 79) (bl 604444463063240877800187 79))
 (.exit 2)))
 (.seq (.block 3 (.seq (.reg [oo 59 (.indexAddrS 35 (tq 55) (tq 57)),
   oo 60 (.load true 35 (tq 59) false),
   oo 8 (.alloc true (rp 32 (.sc (.int .u8 0)) (rp 2 (.sc (.int .i64 0)) (rp 1 (.sc (.int .u32 0)) [])))),
   oz (.store 35 (tq 8) (tq 60))])
 (.seq (.reg [oo 61 (.move (tq 6) false),
   oo 62 (.fieldAddr 0 (tq 8)),
   oo 63 (.load true 32 (tq 62) false),
   oo 64 (.callv (tq 61) [((tq 63),0)] []),
   oo 65 (.un .not (tq 64))])
 (.cond (tq 65)
 (.seq (.reg [oo 2 (.move (.const (.sc (.bool false))) false)])
 (.seq (.mask (bl 4 79) (bl 604444463063240877800157 79))
 .ret))
 .skip))))
 (.reg [oo 66 (.bin .add (tq 57) (.const (.sc (.int .i64 1)))),
   oo 57 (.move (tq 66) false)]))))
def zd5:CC:=(.seq (.reg [oo 2 (.move (.const (.sc (.bool true))) false)])
 .ret)
def zcI:CC:=(.seq (.seq (.reg [oo 67 (.fieldAddr 4 (tq 1)),
   oo 68 (.load false 1 (tq 67) false),
   oo 69 (.lenS (tq 68)),
   oo 70 (.move (.const (.sc (.int .i64 0))) false)])
 (.block 4 (.loop (bl 2066035336255469781056 79) (bl 528905046081400263932665 79)
 zbB)))
 zd5)
def zdg:CC:=(.seq (.reg [oo 31 (.bin .lss (tq 30) (tq 29))])
 (.seq (.cond (tq 31)
 .skip
 (.seq (.mask (bl 2 79) (bl 604462909807314587351755 79))
 (.exit 0)))
 (.seq (.block 1 (.seq (.reg [oo 32 (.indexAddrS 1 (tq 28) (tq 30)),
   oo 33 (.load false 1 (tq 32) false),
   oo 4 (.move (tq 33) false)])
 (.seq (.reg [oo 34 (.move (tq 4) false),
   oo 35 (.bin .lss (tq 34) (.const (.sc (.int .i64 0))))])
 (.cond (tq 35)
 (.seq (.reg [oo 2 (.move (.const (.sc (.bool false))) false)])
 (.seq (.mask (bl 4 79) (bl 604462909807314587351757 79))
 .ret))
 .skip))))
 (.reg [oo 36 (.bin .add (tq 30) (.const (.sc (.int .i64 1)))),
   oo 30 (.move (tq 36) false)]))))
def zeN:CC:=(.seq (.seq (.dreg [] [(oo 37 (.fieldAddr 2 (tq 1)),q0),
   (oo 38 (.load false 1 (tq 37) false),q0),
   (oo 39 (.lenS (tq 38)),q0),
   (oo 40 (.bin .eql (tq 39) (.const (.sc (.int .i64 2)))),q0),
   (oo 41 (.move (tq 40) false),q0),
   (⟨(some 42),false,(some (41,true)),.fieldAddr 2 (tq 1)⟩,q0),
   (⟨(some 43),false,(some (41,true)),.load false 1 (tq 42) false⟩,ql 1 [] []),
   (⟨(some 44),false,(some (41,true)),.indexAddrS 1 (tq 43) (.const (.sc (.int .i64 0)))⟩,q0),
   (⟨(some 45),false,(some (41,true)),.load false 1 (tq 44) false⟩,qc [1] []),
   (⟨(some 46),false,(some (41,true)),.fieldAddr 2 (tq 1)⟩,q0),
   (⟨(some 47),false,(some (41,true)),.load false 1 (tq 46) false⟩,ql 1 [] []),
   (⟨(some 48),false,(some (41,true)),.indexAddrS 1 (tq 47) (.const (.sc (.int .i64 1)))⟩,q0),
   (⟨(some 49),false,(some (41,true)),.load false 1 (tq 48) false⟩,qc [1] []),
   (⟨(some 50),false,(some (41,true)),.bin .eql (tq 45) (tq 49)⟩,q0),
   (oo 51 (.pick (tq 41) (tq 50) (.const (.sc (.bool false)))),q0)])
 (.cond (tq 51)
 (.seq (.reg [oo 2 (.move (.const (.sc (.bool false))) false)])
 .ret)
 .skip))
 (.seq (.reg [oo 52 (.makeMap),
   oo 5 (.alloc false [(.sc (.map none))]),
   oz (.store 1 (tq 5) (tq 52))])
 (.seq (.reg [oo 53 (.makeFunc 369 [(tq 5)]),
   oo 6 (.move (tq 53) false)])
 (.seq (.seq (.reg [oo 54 (.fieldAddr 3 (tq 1)),
   oo 55 (.load false 1 (tq 54) false),
   oo 56 (.lenS (tq 55)),
   oo 57 (.move (.const (.sc (.int .i64 0))) false)])
 (.block 2 (.loop (bl 252201579132747842 79) (bl 604444463063240877800187 79)
 zbN)))
 zcI))))
def zU:CF:=⟨79,[.tmp 2],
 (.seq (.reg [oo 1 (.box true (tq 0)),
   oo 2 (.move (.const (.sc (.bool false))) false)])
 (.seq (.seq (.reg [oo 11 (.fieldAddr 2 (tq 1)),
   oo 12 (.load false 1 (tq 11) false),
   oo 13 (.lenS (tq 12)),
   oo 14 (.bin .gtr (tq 13) (.const (.sc (.int .i64 2)))),
   oo 15 (.move (tq 14) false),
   ⟨(some 16),false,(some (15,false)),.fieldAddr 3 (tq 1)⟩,
   ⟨(some 17),false,(some (15,false)),.load false 1 (tq 16) false⟩,
   ⟨(some 18),false,(some (15,false)),.lenS (tq 17)⟩,
   ⟨(some 19),false,(some (15,false)),.bin .gtr (tq 18) (.const (.sc (.int .i64 64)))⟩,
   oo 20 (.pick (tq 15) (.const (.sc (.bool true))) (tq 19)),
   oo 21 (.move (tq 20) false),
   ⟨(some 22),false,(some (21,false)),.fieldAddr 4 (tq 1)⟩,
   ⟨(some 23),false,(some (21,false)),.load false 1 (tq 22) false⟩,
   ⟨(some 24),false,(some (21,false)),.lenS (tq 23)⟩,
   ⟨(some 25),false,(some (21,false)),.bin .gtr (tq 24) (.const (.sc (.int .i64 2048)))⟩,
   oo 26 (.pick (tq 21) (.const (.sc (.bool true))) (tq 25))])
 (.cond (tq 26)
 (.seq (.reg [oo 2 (.move (.const (.sc (.bool false))) false)])
 .ret)
 .skip))
 (.seq (.seq (.reg [oo 27 (.fieldAddr 2 (tq 1)),
   oo 28 (.load false 1 (tq 27) false),
   oo 29 (.lenS (tq 28)),
   oo 30 (.move (.const (.sc (.int .i64 0))) false)])
 (.block 0 (.loop (bl 1879048194 79) (bl 604462909807314587351755 79)
 zdg)))
 zeN)))⟩
def znX:Hint:=⟨[(0,0)],[],[none,none,none,some ((bl 1879048194 79),(bl 604462909807314587351755 79)),none,some ((bl 2 79),(bl 604462909807314587351755 79)),none,none,some ((bl 4 79),(bl 604462909807314587351757 79)),none,none,none,some ((bl 252201579132747842 79),(bl 604444463063240877800187 79)),none,some ((bl 66 79),(bl 604444463063240877800187 79)),none,none,some ((bl 4 79),(bl 604444463063240877800157 79)),none,some ((bl 2066035336255469781056 79),(bl 528905046081400263932665 79)),none,some ((bl 0 79),(bl 528905046081400263932633 79)),none,none,some ((bl 4 79),(bl 528905046081400263932637 79)),none],[],[],false,false⟩
def xC:Nat→Sh:=xZ [(12,(.sl 1)),(17,(.sl 35)),(23,(.sl 32)),(28,(.sl 1)),(33,(.int .i64)),(38,(.sl 1)),(43,(.sl 1)),(45,(.int .i64)),(47,(.sl 1)),(49,(.int .i64)),(55,(.sl 35)),(68,(.sl 32))]
def yD (xe:xv) (L:Nat):CBC:=(xB 369 (zhL xe L) noC)
def zfA:St→St:=yT 0 (bl 1879048194 79) (bl 604462909807314587351755 79)
def zdx:St→St:=yT 0 (bl 252201579132747842 79) (bl 604444463063240877800187 79)
def zda:St→St:=yT 0 (bl 2066035336255469781056 79) (bl 528905046081400263932665 79)
def zdW (p28:List (List V)) (p29 p30:Int) (b1:List V):St:=⟨(jn 1 ((V.ptr 1 0)::(jn 26 ((V.sl 1 p28)::((V.sc (.int .i64 p29))::((V.sc (.int .i64 p30))::(jn 48 []))))))),(gn 1 ((.live true b1)::(gn 77 [])))⟩
def zik (p2:Bool):St:=⟨(jn 2 ((V.sc (.bool p2))::(jn 76 []))),(gn 79 [])⟩
def zf3 (b1:List V):St:=⟨(jn 1 ((V.ptr 1 0)::(jn 77 []))),(gn 1 ((.live true b1)::(gn 77 [])))⟩
def zcu (p55:List (List V)) (p56 p57:Int) (b1:List V) (b52:List (V × V)):St:=⟨(jn 1 ((V.ptr 1 0)::(jn 4 ((V.fn 369 [(V.ptr 5 0)])::(jn 48 ((V.sl 35 p55)::((V.sc (.int .i64 p56))::((V.sc (.int .i64 p57))::(jn 21 []))))))))),(gn 1 ((.live true b1)::(gn 3 ((.live false [(V.mp 52)])::(gn 46 ((.mp b52)::(gn 26 [])))))))⟩
def zbI (p2:Bool) (b52:List (V × V)):St:=⟨(jn 2 ((V.sc (.bool p2))::(jn 76 []))),(gn 52 ((.mp b52)::(gn 26 [])))⟩
def zf5 (b1:List V) (b52:List (V × V)):St:=⟨(jn 1 ((V.ptr 1 0)::(jn 4 ((V.fn 369 [(V.ptr 5 0)])::(jn 72 []))))),(gn 1 ((.live true b1)::(gn 3 ((.live false [(V.mp 52)])::(gn 46 ((.mp b52)::(gn 26 [])))))))⟩
def zch (p68:List (List V)) (p69 p70:Int) (b52:List (V × V)):St:=⟨(jn 6 ((V.fn 369 [(V.ptr 5 0)])::(jn 61 ((V.sl 32 p68)::((V.sc (.int .i64 p69))::((V.sc (.int .i64 p70))::(jn 8 []))))))),(gn 5 ((.live false [(V.mp 52)])::(gn 46 ((.mp b52)::(gn 26 [])))))⟩
def zjf (b52:List (V × V)):St:=⟨(jn 79 []),(gn 52 ((.mp b52)::(gn 26 [])))⟩
def zna {β:Type} (xe:xv) (L:Nat) (p0:List V) (k_fin:Bool→Option β) (k_hbbaba:List (List V)→Int→Int→List V→Option β):Option β :=
 cLd 1 p0 2 fun v0 =>
 ifb (decide (((List.length v0:Nat):Int) > (2:Int))) (
 k_fin false) (
 cLd 35 p0 3 fun v1 =>
 ifb (decide (((List.length v1:Nat):Int) > (64:Int))) (
 k_fin false) (
 cLd 32 p0 4 fun v2 =>
 ifb (decide (((List.length v2:Nat):Int) > (2048:Int))) (
 k_fin false) (
 cLd 1 p0 2 fun v3 =>
 k_hbbaba v3 ((List.length v3:Nat):Int) (0:Int) p0)))
theorem ztY {β:Type} (xe:xv) (L:Nat) (p0:List V) (k:KK β):zK xC (yD xe L) L zU [(V.agg p0)] [] k=zna xe L p0 (fun p0=>k (V.sc (.bool p0)) []) (fun p28 p29 p30 b1=>xG (zn xC (yD xe L) 0 L zdg) zfA L (zdW p28 p29 p30 b1) (yy 0 (zM (zn xC (yD xe L) 0 L zeN) (zO 0 (CF.res zU) k)))):=by kernel_rfl
def zin {β:Type} (xe:xv) (L:Nat) (p28:List (List V)) (p29 p30:Int) (b1:List V) (k_ret:Bool→Option β) (k_hbbaba:List (List V)→Int→Int→List V→Option β) (k_x0:List V→Option β):Option β :=
 ifb (decide (p30 < p29)) (
 idx p28 p30 fun c4 =>
 cI .i64 c4 0 fun v5 =>
 ifb (decide (v5 < (0:Int))) (
 k_ret false) (
 lt (IntKind.wrap .i64 ((p30:Int)+(1:Int))) fun x6 =>
 k_hbbaba p28 p29 x6 b1)) (
 k_x0 b1)
theorem zpQ {β:Type} (xe:xv) (L:Nat) (p28:List (List V)) (p29 p30:Int) (b1:List V) (X:St→Option β) (K:KT β):zn xC (yD xe L) 0 L zdg (zdW p28 p29 p30 b1) (zbw zfA X K)=zin xe L p28 p29 p30 b1 (fun p2=>K .ret (zik p2)) (fun p28 p29 p30 b1=>X (zdW p28 p29 p30 b1)) (fun b1=>K (.exit 0) (zf3 b1)):=by kernel_rfl
def zkm {β:Type} (xe:xv) (L:Nat) (p2:Bool) (k_fin:Bool→Option β):Option β :=
 k_fin p2
theorem znR {β:Type} (xe:xv) (L:Nat) (p2:Bool) (k:KK β):(yy 0 (zM (zn xC (yD xe L) 0 L zeN) (zO 0 (CF.res zU) k))) .ret (zik p2)=zkm xe L p2 (fun p0=>k (V.sc (.bool p0)) []):=by kernel_rfl
def zgC {β:Type} (xe:xv) (L:Nat) (b1:List V) (k_fin:Bool→Option β) (k_hbbbbbbaba:List (List V)→Int→Int→List V→List (V × V)→Option β):Option β :=
 cLd 1 b1 2 fun v7 =>
 ifb ((((List.length v7:Nat):Int):Int) == (2:Int)) (
 cLd 1 b1 2 fun v8 =>
 idx v8 (0:Int) fun c9 =>
 cI .i64 c9 0 fun v10 =>
 cLd 1 b1 2 fun v11 =>
 idx v11 (1:Int) fun c12 =>
 cI .i64 c12 0 fun v13 =>
 ifb ((v10:Int) == v13) (
 k_fin false) (
 cLd 35 b1 3 fun v14 =>
 k_hbbbbbbaba v14 ((List.length v14:Nat):Int) (0:Int) b1 ([]:List (V × V)))) (
 cLd 35 b1 3 fun v15 =>
 k_hbbbbbbaba v15 ((List.length v15:Nat):Int) (0:Int) b1 ([]:List (V × V)))
theorem zoG {β:Type} (xe:xv) (L:Nat) (b1:List V) (k:KK β):(yy 0 (zM (zn xC (yD xe L) 0 L zeN) (zO 0 (CF.res zU) k))) (.exit 0) (zf3 b1)=zgC xe L b1 (fun p0=>k (V.sc (.bool p0)) []) (fun p55 p56 p57 b1 b52=>xG (zn xC (yD xe L) 0 L zbN) zdx L (zcu p55 p56 p57 b1 b52) (yy 2 (zM (zn xC (yD xe L) 0 L zcI) (zO 0 (CF.res zU) k)))):=by kernel_rfl
def zfP {β:Type} (xe:xv) (L:Nat) (p55:List (List V)) (p56 p57:Int) (b1:List V) (b52:List (V × V)) (k_retv1:Bool→List (V × V)→Option β) (k_hbbbbbbaba:List (List V)→Int→Int→List V→List (V × V)→Option β) (k_x2:List V→List (V × V)→Option β):Option β :=
 ifb (decide (p57 < p56)) (
 idx p55 p57 fun c16 =>
 chk ((List.length (List.take 35 c16))=35∧0+35≤35) (
 lt (zc (List.replicate 32 (V.sc (.int .u8 (0:Int)))++[(V.sc (.int .i64 (0:Int))),(V.sc (.int .i64 (0:Int))),(V.sc (.int .u32 (0:Int)))]) 0 (List.take 35 c16)) fun r17 =>
 chk (0+32≤(List.length r17)) (
 xe β L (List.take 32 r17) b52 (fun v18 v19 =>
 ifb (!v18) (
 k_retv1 false v19) (
 lt (IntKind.wrap .i64 ((p57:Int)+(1:Int))) fun x20 =>
 k_hbbbbbbaba p55 p56 x20 b1 v19))))) (
 k_x2 b1 b52)
theorem znA {β:Type} (xe:xv) (L:Nat) (p55:List (List V)) (p56 p57:Int) (b1:List V) (b52:List (V × V)) (X:St→Option β) (K:KT β):zn xC (yD xe L) 0 L zbN (zcu p55 p56 p57 b1 b52) (zbw zdx X K)=zfP xe L p55 p56 p57 b1 b52 (fun p2 b52=>K .ret (zbI p2 b52)) (fun p55 p56 p57 b1 b52=>X (zcu p55 p56 p57 b1 b52)) (fun b1 b52=>K (.exit 2) (zf5 b1 b52)):=by kernel_rfl
def zdM {β:Type} (xe:xv) (L:Nat) (p2:Bool) (b52:List (V × V)) (k_fin:Bool→Option β):Option β :=
 k_fin p2
theorem zkT {β:Type} (xe:xv) (L:Nat) (p2:Bool) (b52:List (V × V)) (k:KK β):(yy 2 (zM (zn xC (yD xe L) 0 L zcI) (zO 0 (CF.res zU) k))) .ret (zbI p2 b52)=zdM xe L p2 b52 (fun p0=>k (V.sc (.bool p0)) []):=by kernel_rfl
def zeV {β:Type} (xe:xv) (L:Nat) (b1:List V) (b52:List (V × V)) (k_hbbbbbbbaba:List (List V)→Int→Int→List (V × V)→Option β):Option β :=
 cLd 32 b1 4 fun v21 =>
 k_hbbbbbbbaba v21 ((List.length v21:Nat):Int) (0:Int) b52
theorem zmL {β:Type} (xe:xv) (L:Nat) (b1:List V) (b52:List (V × V)) (k:KK β):(yy 2 (zM (zn xC (yD xe L) 0 L zcI) (zO 0 (CF.res zU) k))) (.exit 2) (zf5 b1 b52)=zeV xe L b1 b52 (fun p68 p69 p70 b52=>xG (zn xC (yD xe L) 0 L zbB) zda L (zch p68 p69 p70 b52) (yy 4 (zM (zn xC (yD xe L) 0 L zd5) (zO 0 (CF.res zU) k)))):=by kernel_rfl
def zfn {β:Type} (xe:xv) (L:Nat) (p68:List (List V)) (p69 p70:Int) (b52:List (V × V)) (k_retv1:Bool→List (V × V)→Option β) (k_hbbbbbbbaba:List (List V)→Int→Int→List (V × V)→Option β) (k_x4:List (V × V)→Option β):Option β :=
 ifb (decide (p70 < p69)) (
 idx p68 p70 fun c22 =>
 chk ((List.length (List.take 32 c22))=32∧0+32≤32) (
 lt (zc (List.replicate 32 (V.sc (.int .u8 (0:Int)))) 0 (List.take 32 c22)) fun r23 =>
 chk (0+32≤(List.length r23)) (
 xe β L (List.take 32 r23) b52 (fun v24 v25 =>
 ifb (!v24) (
 k_retv1 false v25) (
 lt (IntKind.wrap .i64 ((p70:Int)+(1:Int))) fun x26 =>
 k_hbbbbbbbaba p68 p69 x26 v25))))) (
 k_x4 b52)
theorem zm4 {β:Type} (xe:xv) (L:Nat) (p68:List (List V)) (p69 p70:Int) (b52:List (V × V)) (X:St→Option β) (K:KT β):zn xC (yD xe L) 0 L zbB (zch p68 p69 p70 b52) (zbw zda X K)=zfn xe L p68 p69 p70 b52 (fun p2 b52=>K .ret (zbI p2 b52)) (fun p68 p69 p70 b52=>X (zch p68 p69 p70 b52)) (fun b52=>K (.exit 4) (zjf b52)):=by kernel_rfl
def zdq {β:Type} (xe:xv) (L:Nat) (p2:Bool) (b52:List (V × V)) (k_fin:Bool→Option β):Option β :=
 k_fin p2
theorem zkr {β:Type} (xe:xv) (L:Nat) (p2:Bool) (b52:List (V × V)) (k:KK β):(yy 4 (zM (zn xC (yD xe L) 0 L zd5) (zO 0 (CF.res zU) k))) .ret (zbI p2 b52)=zdq xe L p2 b52 (fun p0=>k (V.sc (.bool p0)) []):=by kernel_rfl
def zeB {β:Type} (xe:xv) (L:Nat) (b52:List (V × V)) (k_fin:Bool→Option β):Option β :=
 k_fin true
theorem zl7 {β:Type} (xe:xv) (L:Nat) (b52:List (V × V)) (k:KK β):(yy 4 (zM (zn xC (yD xe L) 0 L zd5) (zO 0 (CF.res zU) k))) (.exit 4) (zjf b52)=zeB xe L b52 (fun p0=>k (V.sc (.bool p0)) []):=by kernel_rfl
def zdF {β:Type} (xe:xv) (L:Nat) (k_ret:Bool→Option β) (k_x0:List V→Option β):Nat→List (List V)→Int→Int→List V→Option β
 | 0,_,_,_,_=>none
 | n+1,p28,p29,p30,b1=>zin xe L p28 p29 p30 b1 k_ret (fun p28 p29 p30 b1=>zdF xe L k_ret k_x0 n p28 p29 p30 b1) k_x0
theorem zka {β:Type} (xe:xv) (L:Nat) (K:KT β):∀ (n:Nat) (p28:List (List V)) (p29 p30:Int) (b1:List V),xG (zn xC (yD xe L) 0 L zdg) zfA n (zdW p28 p29 p30 b1) K=zdF xe L (fun p2=>K .ret (zik p2)) (fun b1=>K (.exit 0) (zf3 b1)) n p28 p29 p30 b1:=by
 intro n
 induction n with
 | zero=>intros; rfl
 | succ n ih =>
  intro p28 p29 p30 b1
  refine (zpQ xe L p28 p29 p30 b1 (fun σ=>xG (zn xC (yD xe L) 0 L zdg) zfA n σ K) K).trans ?_
  simp only [ih]
  rfl
def zbi {β:Type} (xe:xv) (L:Nat) (k_retv1:Bool→List (V × V)→Option β) (k_x2:List V→List (V × V)→Option β):Nat→List (List V)→Int→Int→List V→List (V × V)→Option β
 | 0,_,_,_,_,_=>none
 | n+1,p55,p56,p57,b1,b52=>zfP xe L p55 p56 p57 b1 b52 k_retv1 (fun p55 p56 p57 b1 b52=>zbi xe L k_retv1 k_x2 n p55 p56 p57 b1 b52) k_x2
theorem zhR {β:Type} (xe:xv) (L:Nat) (K:KT β):∀ (n:Nat) (p55:List (List V)) (p56 p57:Int) (b1:List V) (b52:List (V × V)),xG (zn xC (yD xe L) 0 L zbN) zdx n (zcu p55 p56 p57 b1 b52) K=zbi xe L (fun p2 b52=>K .ret (zbI p2 b52)) (fun b1 b52=>K (.exit 2) (zf5 b1 b52)) n p55 p56 p57 b1 b52:=by
 intro n
 induction n with
 | zero=>intros; rfl
 | succ n ih =>
  intro p55 p56 p57 b1 b52
  refine (znA xe L p55 p56 p57 b1 b52 (fun σ=>xG (zn xC (yD xe L) 0 L zbN) zdx n σ K) K).trans ?_
  simp only [ih]
  rfl
def zbS {β:Type} (xe:xv) (L:Nat) (k_retv1:Bool→List (V × V)→Option β) (k_x4:List (V × V)→Option β):Nat→List (List V)→Int→Int→List (V × V)→Option β
 | 0,_,_,_,_=>none
 | n+1,p68,p69,p70,b52=>zfn xe L p68 p69 p70 b52 k_retv1 (fun p68 p69 p70 b52=>zbS xe L k_retv1 k_x4 n p68 p69 p70 b52) k_x4
theorem zhb {β:Type} (xe:xv) (L:Nat) (K:KT β):∀ (n:Nat) (p68:List (List V)) (p69 p70:Int) (b52:List (V × V)),xG (zn xC (yD xe L) 0 L zbB) zda n (zch p68 p69 p70 b52) K=zbS xe L (fun p2 b52=>K .ret (zbI p2 b52)) (fun b52=>K (.exit 4) (zjf b52)) n p68 p69 p70 b52:=by
 intro n
 induction n with
 | zero=>intros; rfl
 | succ n ih =>
  intro p68 p69 p70 b52
  refine (zm4 xe L p68 p69 p70 b52 (fun σ=>xG (zn xC (yD xe L) 0 L zbB) zda n σ K) K).trans ?_
  simp only [ih]
  rfl
def zbr {β:Type} (xe:xv) (L:Nat) (b1:List V) (b52:List (V × V)) (k_fin:Bool→Option β):Option β :=
 zeV xe L b1 b52 (fun p68 p69 p70 b52=>zbS xe L (fun p2 b52=>zdq xe L p2 b52 k_fin) (fun b52=>zeB xe L b52 k_fin) L p68 p69 p70 b52)
theorem zlN {β:Type} (xe:xv) (L:Nat) (b1:List V) (b52:List (V × V)) (k:KK β):(yy 2 (zM (zn xC (yD xe L) 0 L zcI) (zO 0 (CF.res zU) k))) (.exit 2) (zf5 b1 b52)=zbr xe L b1 b52 (fun p0=>k (V.sc (.bool p0)) []):=by
 refine (zmL xe L b1 b52 k).trans ?_
 unfold zbr
 first
  | (simp only [zhb,zkr,zl7]; done)
  | (simp only [zhb]; rfl)
def zd3 {β:Type} (xe:xv) (L:Nat) (b1:List V) (k_fin:Bool→Option β):Option β :=
 zgC xe L b1 k_fin (fun p55 p56 p57 b1 b52=>zbi xe L (fun p2 b52=>zdM xe L p2 b52 k_fin) (fun b1 b52=>zbr xe L b1 b52 k_fin) L p55 p56 p57 b1 b52)
theorem zn5 {β:Type} (xe:xv) (L:Nat) (b1:List V) (k:KK β):(yy 0 (zM (zn xC (yD xe L) 0 L zeN) (zO 0 (CF.res zU) k))) (.exit 0) (zf3 b1)=zd3 xe L b1 (fun p0=>k (V.sc (.bool p0)) []):=by
 refine (zoG xe L b1 k).trans ?_
 unfold zd3
 first
  | (simp only [zhR,zkT,zlN]; done)
  | (simp only [zhR]; rfl)
def zjE {β:Type} (xe:xv) (L:Nat) (p0:List V) (k_fin:Bool→Option β):Option β :=
 zna xe L p0 k_fin (fun p28 p29 p30 b1=>zdF xe L (fun p2=>zkm xe L p2 k_fin) (fun b1=>zd3 xe L b1 k_fin) L p28 p29 p30 b1)
theorem zum {β:Type} (xe:xv) (L:Nat) (p0:List V) (k:KK β):zK xC (yD xe L) L zU [(V.agg p0)] [] k=zjE xe L p0 (fun p0=>k (V.sc (.bool p0)) []):=by
 refine (ztY xe L p0 k).trans ?_
 unfold zjE
 first
  | (simp only [zka,znR,zn5]; done)
  | (simp only [zka]; rfl)
abbrev xS:=∀ (β:Type),Nat→List V→(Bool→Option β)→Option β
def ym (β:Type) (L:Nat) (p0:List V) (k_fin:Bool→Option β):Option β:=zjE xe L p0 k_fin
def zd9 (ym:xS) (L:Nat) (β:Type) (args:List V) (bor:Bor) (k:KK β):Option β:=match args,bor with
 | [a0],[]=>aG a0 fun p0=>ym β L p0 (fun p0=>k (V.sc (.bool p0)) [])
 | _,_=>none
theorem ztT (L:Nat) (β:Type) (args:List V) (bor:Bor) (k:KK β) (r:β) (h:zd9 ym L β args bor k=some r):zK xC (yD xe L) L zU args bor k=some r:=by
 unfold zd9 at h
 split at h
 ·have q:=zfq h; clear h; obtain ⟨p0,rfl,h⟩:=q
  exact (zum xe L p0 k).trans h
 ·cases h
def zoP:CF:=⟨8,[.tmp 3],
 (.seq (.reg [oo 2 (.box true (tq 0)),
   oo 3 (.move (.const (.sc (.bool false))) false)])
 (.seq (.reg [oo 4 (.fieldAddr 0 (tq 2)),
   oo 5 (.load true 32 (tq 4) false),
   oo 6 (.load true 32 (tq 1) false),
   oo 7 (.eqAgg false 32 (tq 5) (tq 6)),
   oo 3 (.move (tq 7) false)])
 .ret))⟩
def zno:Hint:=⟨[],[],[none],[],[],false,false⟩
def zB6:Nat→Sh:=xZ []
def zCb (L:Nat):CBC:=noC
def zp6 {β:Type} (L:Nat) (p0 b0:List V) (k_fin:Bool→List V→Option β):Option β :=
 chk (0+32≤(List.length p0)) (
 chk (0+32≤(List.length b0)) (
 eqC 32 (List.take 32 p0) (List.take 32 b0) fun v0 =>
 k_fin v0 b0))
abbrev yY:=∀ (β:Type),Nat→List V→List V→(Bool→List V→Option β)→Option β
def yv (β:Type) (L:Nat) (p0 b0:List V) (k_fin:Bool→List V→Option β):Option β:=zp6 L p0 b0 k_fin
def zqj (yv:yY) (L:Nat) (β:Type) (args:List V) (bor:Bor) (k:KK β):Option β:=match args,bor with
 | [a0,a1],[(.live true b0)]=>aG a0 fun p0=>aP 0 0 a1 (yv β L p0 b0 (fun p0 b0=>k (V.sc (.bool p0)) [(.live true b0)]))
 | _,_=>none
def zgf:CC:=(.seq (.reg [oo 9 (.bin .lss (tq 8) (tq 7))])
 (.seq (.cond (tq 9)
 .skip
 (.seq (.mask (bl 0 19) (bl 458703 19))
 (.exit 0)))
 (.seq (.block 1 (.seq (.reg [oo 10 (.move (tq 8) false),
   oo 5 (.move (tq 10) false)])
 (.seq (.reg [oo 11 (.move (tq 1) false),
   oo 12 (.move (tq 0) false),
   oo 13 (.move (tq 5) false),
   oo 14 (.indexAddrS 35 (tq 12) (tq 13)),
   oo 15 (.load true 35 (tq 14) false),
   oo 16 (.callv (tq 11) [((tq 15),0)] [])])
 (.cond (tq 16)
 (.seq (.reg [oo 17 (.move (tq 5) false),
   oo 4 (.move (tq 17) false)])
 (.seq (.mask (bl 16 19) (bl 458719 19))
 .ret))
 .skip))))
 (.reg [oo 18 (.bin .add (tq 8) (.const (.sc (.int .i64 1)))),
   oo 8 (.move (tq 18) false)]))))
def zhf:CC:=(.seq (.reg [oo 4 (.move (.const (.sc (.int .i64 (-1)))) false)])
 .ret)
def zao:CF:=⟨19,[.tmp 4],
 (.seq (.reg [oo 4 (.move (.const (.sc (.int .i64 0))) false)])
 (.seq (.seq (.reg [oo 6 (.move (tq 0) false),
   oo 7 (.lenS (tq 6)),
   oo 8 (.move (.const (.sc (.int .i64 0))) false)])
 (.block 0 (.loop (bl 387 19) (bl 458703 19)
 zgf)))
 zhf))⟩
def zcU:Hint:=⟨[],[],[none,some ((bl 387 19),(bl 458703 19)),none,some ((bl 0 19),(bl 458703 19)),none,none,some ((bl 16 19),(bl 458719 19)),none],[],[],false,false⟩
def zrr:Nat→Sh:=xZ []
def zro (yv:yY) (L:Nat):CBC:=(xB 373 (zqj yv L) noC)
def zqp:St→St:=yT 1 (bl 387 19) (bl 458703 19)
def zps (p0:List (List V)) (p7 p8:Int) (b0:List V):St:=⟨((V.sl 35 p0)::((V.fn 373 [(V.ptr 0 0)])::(jn 5 ((V.sc (.int .i64 p7))::((V.sc (.int .i64 p8))::(jn 10 [])))))),((.live true b0)::(gn 19 []))⟩
def zqm (p4:Int) (b0:List V):St:=⟨(jn 4 ((V.sc (.int .i64 p4))::(jn 14 []))),((.live true b0)::(gn 19 []))⟩
def zqs (b0:List V):St:=⟨(jn 19 []),((.live true b0)::(gn 19 []))⟩
def zdu {β:Type} (yv:yY) (L:Nat) (p0:List (List V)) (b0:List V) (k_hbaba:List (List V)→Int→Int→List V→Option β):Option β :=
 k_hbaba p0 ((List.length p0:Nat):Int) (0:Int) b0
def zcB {β:Type} (yv:yY) (L:Nat) (p0:List (List V)) (p7 p8:Int) (b0:List V) (k_ret:Int→List V→Option β) (k_hbaba:List (List V)→Int→Int→List V→Option β) (k_x0:List V→Option β):Option β :=
 ifb (decide (p8 < p7)) (
 idx p0 p8 fun c0 =>
 yv β L (List.take 35 c0) b0 (fun v1 v2 =>
 chk ([(List.length v2)]=[(List.length b0)]) (
 ifb v1 (
 k_ret p8 v2) (
 lt (IntKind.wrap .i64 ((p8:Int)+(1:Int))) fun x3 =>
 k_hbaba p0 p7 x3 v2)))) (
 k_x0 b0)
def zfQ {β:Type} (yv:yY) (L:Nat) (p4:Int) (b0:List V) (k_fin:Int→List V→Option β):Option β :=
 k_fin p4 b0
def zfW {β:Type} (yv:yY) (L:Nat) (b0:List V) (k_fin:Int→List V→Option β):Option β :=
 k_fin (-1:Int) b0
def z8 {β:Type} (yv:yY) (L:Nat) (k_ret:Int→List V→Option β) (k_x0:List V→Option β):Nat→List (List V)→Int→Int→List V→Option β
 | 0,_,_,_,_=>none
 | n+1,p0,p7,p8,b0=>zcB yv L p0 p7 p8 b0 k_ret (fun p0 p7 p8 b0=>z8 yv L k_ret k_x0 n p0 p7 p8 b0) k_x0
def zdw {β:Type} (yv:yY) (L:Nat) (p0:List (List V)) (b0:List V) (k_fin:Int→List V→Option β):Option β :=
 zdu yv L p0 b0 (fun p0 p7 p8 b0=>z8 yv L (fun p4 b0=>zfQ yv L p4 b0 k_fin) (fun b0=>zfW yv L b0 k_fin) L p0 p7 p8 b0)
abbrev zbu:=∀ (β:Type),Nat→List (List V)→List V→(Int→List V→Option β)→Option β
def xI (β:Type) (L:Nat) (p0:List (List V)) (b0:List V) (k_fin:Int→List V→Option β):Option β:=zdw yv L p0 b0 k_fin
def zhY (xI:zbu) (L:Nat) (β:Type) (args:List V) (bor:Bor) (k:KK β):Option β:=match args,bor with
 | [a0,a1],[(.live true b0)]=>aL 35 a0 fun p0=>aF 373 [(0,0)] a1 (xI β L p0 b0 (fun p0 b0=>k (V.sc (.int .i64 p0)) [(.live true b0)]))
 | _,_=>none
def zmW:CF:=⟨9,[.tmp 4],
 (.seq (.reg [oo 2 (.box false (tq 0)),
   oo 3 (.box true (tq 1)),
   oo 4 (.move (.const (.sc (.int .i64 0))) false)])
 (.seq (.reg [oo 5 (.fieldAddr 3 (tq 2)),
   oo 6 (.load false 1 (tq 5) false),
   oo 7 (.makeFunc 373 [(tq 3)]),
   oo 8 (.call 372 [((tq 6),2),((tq 7),2)] []),
   oo 4 (.move (tq 8) false)])
 .ret))⟩
def zo5:Hint:=⟨[(1,3)],[],[none],[],[],false,false⟩
def zCY:Nat→Sh:=xZ []
def zCW (xI:zbu) (L:Nat):CBC:=(xB 372 (zhY xI L) noC)
def zsw {β:Type} (xI:zbu) (L:Nat) (zE0:Int) (zE1:Bool) (zFn zFo zFp:List (List V)) (p1:List V) (k_fin:Int→Option β):Option β :=
 xI β L zFo p1 (fun v0 v1 =>
 chk ([(List.length v1)]=[(List.length p1)]) (
 k_fin v0))
abbrev zou:=∀ (β:Type),Nat→Int→Bool→List (List V)→List (List V)→List (List V)→List V→(Int→Option β)→Option β
def zcP (β:Type) (L:Nat) (zE0:Int) (zE1:Bool) (zFn zFo zFp:List (List V)) (p1:List V) (k_fin:Int→Option β):Option β:=zsw xI L zE0 zE1 zFn zFo zFp p1 k_fin
def zyb (zcP:zou) (L:Nat) (β:Type) (args:List V) (bor:Bor) (k:KK β):Option β:=match args,bor with
 | [(.st [a0_0,a0_1,a0_2,a0_3,a0_4]),a1],[]=>aI .u32 a0_0 fun zE0=>aB a0_1 fun zE1=>aL 1 a0_2 fun zFn=>aL 35 a0_3 fun zFo=>aL 32 a0_4 fun zFp=>aG a1 fun p1=>zcP β L zE0 zE1 zFn zFo zFp p1 (fun p0=>k (V.sc (.int .i64 p0)) [])
 | _,_=>none
def zhC:CC:=(.seq (.reg [oo 9 (.bin .lss (tq 8) (tq 7))])
 (.seq (.cond (tq 9)
 .skip
 (.seq (.mask (bl 0 19) (bl 524231 19))
 (.exit 0)))
 (.seq (.block 1 (.seq (.reg [oo 10 (.move (tq 8) false),
   oo 5 (.move (tq 10) false)])
 (.seq (.dreg [] [(oo 11 (.load true 32 (tq 3) false),ql 3 [] []),
   (oo 12 (.move (tq 0) false),q0),
   (oo 13 (.move (tq 5) false),q0),
   (oo 14 (.indexAddrS 32 (tq 12) (tq 13)),q0),
   (oo 15 (.load true 32 (tq 14) false),qc [3] []),
   (oo 16 (.eqAgg false 32 (tq 11) (tq 15)),q0)])
 (.cond (tq 16)
 (.seq (.reg [oo 17 (.move (tq 5) false),
   oo 4 (.move (tq 17) false)])
 (.seq (.mask (bl 16 19) (bl 524247 19))
 .ret))
 .skip))))
 (.reg [oo 18 (.bin .add (tq 8) (.const (.sc (.int .i64 1)))),
   oo 8 (.move (tq 18) false)]))))
def ziE:CC:=(.seq (.reg [oo 4 (.move (.const (.sc (.int .i64 (-1)))) false)])
 .ret)
def zeg:CF:=⟨19,[.tmp 4],
 (.seq (.reg [oo 3 (.box true (tq 1)),
   oo 4 (.move (.const (.sc (.int .i64 0))) false)])
 (.seq (.seq (.reg [oo 6 (.move (tq 0) false),
   oo 7 (.lenS (tq 6)),
   oo 8 (.move (.const (.sc (.int .i64 0))) false)])
 (.block 0 (.loop (bl 393 19) (bl 524239 19)
 zhC)))
 ziE))⟩
def zdG:Hint:=⟨[],[],[none,some ((bl 393 19),(bl 524239 19)),none,some ((bl 0 19),(bl 524231 19)),none,none,some ((bl 16 19),(bl 524247 19)),none],[],[],false,false⟩
def zti:Nat→Sh:=xZ []
def zs6 (L:Nat):CBC:=noC
def zrG:St→St:=yT 0 (bl 393 19) (bl 524239 19)
def zqI (p0:List (List V)) (p7 p8:Int) (b3:List V):St:=⟨((V.sl 32 p0)::(jn 2 ((V.ptr 3 0)::(jn 3 ((V.sc (.int .i64 p7))::((V.sc (.int .i64 p8))::(jn 10 []))))))),(gn 3 ((.live true b3)::(gn 15 [])))⟩
def zrt (p4:Int):St:=⟨(jn 4 ((V.sc (.int .i64 p4))::(jn 14 []))),(gn 19 [])⟩
def zrL:St:=⟨(jn 19 []),(gn 19 [])⟩
def zeI {β:Type} (L:Nat) (p0:List (List V)) (p1:List V) (k_hbaba:List (List V)→Int→Int→List V→Option β):Option β :=
 k_hbaba p0 ((List.length p0:Nat):Int) (0:Int) p1
def zdt {β:Type} (L:Nat) (p0:List (List V)) (p7 p8:Int) (b3:List V) (k_ret:Int→Option β) (k_hbaba:List (List V)→Int→Int→List V→Option β) (k_x0:Option β):Option β :=
 ifb (decide (p8 < p7)) (
 chk (0+32≤(List.length b3)) (
 idx p0 p8 fun c0 =>
 eqC 32 (List.take 32 b3) (List.take 32 c0) fun v1 =>
 ifb v1 (
 k_ret p8) (
 lt (IntKind.wrap .i64 ((p8:Int)+(1:Int))) fun x2 =>
 k_hbaba p0 p7 x2 b3))) (
 k_x0)
def zgX {β:Type} (L:Nat) (p4:Int) (k_fin:Int→Option β):Option β :=
 k_fin p4
def zhe {β:Type} (L:Nat) (k_fin:Int→Option β):Option β :=
 k_fin (-1:Int)
def zat {β:Type} (L:Nat) (k_ret:Int→Option β) (k_x0:Option β):Nat→List (List V)→Int→Int→List V→Option β
 | 0,_,_,_,_=>none
 | n+1,p0,p7,p8,b3=>zdt L p0 p7 p8 b3 k_ret (fun p0 p7 p8 b3=>zat L k_ret k_x0 n p0 p7 p8 b3) k_x0
def zeG {β:Type} (L:Nat) (p0:List (List V)) (p1:List V) (k_fin:Int→Option β):Option β :=
 zeI L p0 p1 (fun p0 p7 p8 b3=>zat L (fun p4=>zgX L p4 k_fin) (zhe L k_fin) L p0 p7 p8 b3)
abbrev zcb:=∀ (β:Type),Nat→List (List V)→List V→(Int→Option β)→Option β
def zN (β:Type) (L:Nat) (p0:List (List V)) (p1:List V) (k_fin:Int→Option β):Option β:=zeG L p0 p1 k_fin
def zjo (zN:zcb) (L:Nat) (β:Type) (args:List V) (bor:Bor) (k:KK β):Option β:=match args,bor with
 | [a0,a1],[]=>aL 32 a0 fun p0=>aG a1 fun p1=>zN β L p0 p1 (fun p0=>k (V.sc (.int .i64 p0)) [])
 | _,_=>none
def zds:CF:=⟨9,[.tmp 4],
 (.seq (.reg [oo 3 (.box true (tq 1)),
   oo 4 (.move (.const (.sc (.bool false))) false)])
 (.seq (.reg [oo 5 (.move (tq 0) false),
   oo 6 (.load true 32 (tq 3) false),
   oo 7 (.call 254 [((tq 5),2),((tq 6),2)] []),
   oo 8 (.bin .geq (tq 7) (.const (.sc (.int .i64 0)))),
   oo 4 (.move (tq 8) false)])
 .ret))⟩
def zc5:Hint:=⟨[(1,2)],[],[none],[],[],false,false⟩
def zrK:Nat→Sh:=xZ []
def zrI (zN:zcb) (L:Nat):CBC:=(xB 254 (zjo zN L) noC)
def zdR {β:Type} (zN:zcb) (L:Nat) (p0:List (List V)) (p1:List V) (k_fin:Bool→Option β):Option β :=
 chk (0+32≤(List.length p1)) (
 zN β L p0 (List.take 32 p1) (fun v0 =>
 k_fin (decide (v0 ≥ (0:Int)))))
abbrev z5:=∀ (β:Type),Nat→List (List V)→List V→(Bool→Option β)→Option β
def yu (β:Type) (L:Nat) (p0:List (List V)) (p1:List V) (k_fin:Bool→Option β):Option β:=zdR zN L p0 p1 k_fin
def zdH (yu:z5) (L:Nat) (β:Type) (args:List V) (bor:Bor) (k:KK β):Option β:=match args,bor with
 | [a0,a1],[]=>aL 32 a0 fun p0=>aG a1 fun p1=>yu β L p0 p1 (fun p0=>k (V.sc (.bool p0)) [])
 | _,_=>none
def ziD:CF:=⟨45,[.tmp 4],
 (.seq (.reg [oo 2 (.box true (tq 0)),
   oo 4 (.move (.const (.sc (.int .i64 0))) false)])
 (.seq (.seq (.reg [oo 6 (.fieldAddr 2 (tq 2)),
   oo 7 (.load false 1 (tq 6) false),
   oo 8 (.lenS (tq 7)),
   oo 9 (.bin .eql (tq 8) (.const (.sc (.int .i64 0))))])
 (.cond (tq 9)
 (.seq (.reg [oo 4 (.move (.const (.sc (.int .i64 (-1)))) false)])
 .ret)
 .skip))
 (.seq (.reg [oo 5 (.move (.const (.sc (.int .i64 0))) false)])
 (.seq (.seq (.reg [oo 10 (.fieldAddr 2 (tq 2)),
   oo 11 (.load false 1 (tq 10) false),
   oo 12 (.lenS (tq 11)),
   oo 13 (.bin .gtr (tq 12) (.const (.sc (.int .i64 1)))),
   oo 14 (.move (tq 13) false),
   ⟨(some 15),false,(some (14,true)),.move (tq 1) false⟩,
   ⟨(some 16),false,(some (14,true)),.bin .neq (tq 15) (.const (.sc (.int .i64 (-1))))⟩,
   oo 17 (.pick (tq 14) (tq 16) (.const (.sc (.bool false)))),
   oo 18 (.move (tq 17) false),
   ⟨(some 19),false,(some (18,true)),.move (tq 1) false⟩,
   ⟨(some 20),false,(some (18,true)),.bin .rem (tq 19) (.const (.sc (.int .i64 2)))⟩,
   ⟨(some 21),false,(some (18,true)),.bin .neq (tq 20) (.const (.sc (.int .i64 0)))⟩,
   oo 22 (.pick (tq 18) (tq 21) (.const (.sc (.bool false))))])
 (.cond (tq 22)
 (.reg [oo 5 (.move (.const (.sc (.int .i64 1))) false)])
 .skip))
 (.seq (.seq (.reg [oo 23 (.fieldAddr 2 (tq 2)),
   oo 24 (.load false 1 (tq 23) false),
   oo 25 (.move (tq 5) false),
   oo 26 (.indexAddrS 1 (tq 24) (tq 25)),
   oo 27 (.load false 1 (tq 26) false),
   oo 28 (.move (tq 1) false),
   oo 29 (.bin .neq (tq 27) (tq 28))])
 (.cond (tq 29)
 (.seq (.reg [oo 30 (.fieldAddr 2 (tq 2)),
   oo 31 (.load false 1 (tq 30) false),
   oo 32 (.move (tq 5) false),
   oo 33 (.indexAddrS 1 (tq 31) (tq 32)),
   oo 34 (.load false 1 (tq 33) false),
   oo 4 (.move (tq 34) false)])
 .ret)
 .skip))
 (.seq (.seq (.reg [oo 35 (.fieldAddr 2 (tq 2)),
   oo 36 (.load false 1 (tq 35) false),
   oo 37 (.lenS (tq 36)),
   oo 38 (.bin .gtr (tq 37) (.const (.sc (.int .i64 1))))])
 (.cond (tq 38)
 (.seq (.reg [oo 39 (.fieldAddr 2 (tq 2)),
   oo 40 (.load false 1 (tq 39) false),
   oo 41 (.move (tq 5) false),
   oo 42 (.bin .sub (.const (.sc (.int .i64 1))) (tq 41)),
   oo 43 (.indexAddrS 1 (tq 40) (tq 42)),
   oo 44 (.load false 1 (tq 43) false),
   oo 4 (.move (tq 44) false)])
 .ret)
 .skip))
 (.seq (.reg [oo 4 (.move (.const (.sc (.int .i64 (-1)))) false)])
 .ret)))))))⟩
def znU:Hint:=⟨[(0,0)],[],[none,none,none,none,none,none,none,none],[],[],false,false⟩
def zlV:Nat→Sh:=xZ [(7,(.sl 1)),(11,(.sl 1)),(24,(.sl 1)),(27,(.int .i64)),(31,(.sl 1)),(34,(.int .i64)),(36,(.sl 1)),(40,(.sl 1)),(44,(.int .i64))]
def zlT (L:Nat):CBC:=noC
def zm6 {β:Type} (L:Nat) (p0:List V) (p1:Int) (k_fin:Int→Option β):Option β :=
 cLd 1 p0 2 fun v0 =>
 ifb ((((List.length v0:Nat):Int):Int) == (0:Int)) (
 k_fin (-1:Int)) (
 cLd 1 p0 2 fun v1 =>
 ifb (decide (((List.length v1:Nat):Int) > (1:Int))) (
 ifb ((p1:Int) != (-1:Int)) (
 lt (Int.tmod p1 (2:Int)) fun x2 =>
 ifb ((x2:Int) != (0:Int)) (
 cLd 1 p0 2 fun v3 =>
 idx v3 (1:Int) fun c4 =>
 cI .i64 c4 0 fun v5 =>
 ifb ((v5:Int) != p1) (
 cLd 1 p0 2 fun v6 =>
 idx v6 (1:Int) fun c7 =>
 cI .i64 c7 0 fun v8 =>
 k_fin v8) (
 cLd 1 p0 2 fun v9 =>
 ifb (decide (((List.length v9:Nat):Int) > (1:Int))) (
 cLd 1 p0 2 fun v10 =>
 lt (IntKind.wrap .i64 (((1:Int):Int) - (1:Int))) fun x11 =>
 idx v10 x11 fun c12 =>
 cI .i64 c12 0 fun v13 =>
 k_fin v13) (
 k_fin (-1:Int)))) (
 cLd 1 p0 2 fun v14 =>
 idx v14 (0:Int) fun c15 =>
 cI .i64 c15 0 fun v16 =>
 ifb ((v16:Int) != p1) (
 cLd 1 p0 2 fun v17 =>
 idx v17 (0:Int) fun c18 =>
 cI .i64 c18 0 fun v19 =>
 k_fin v19) (
 cLd 1 p0 2 fun v20 =>
 ifb (decide (((List.length v20:Nat):Int) > (1:Int))) (
 cLd 1 p0 2 fun v21 =>
 lt (IntKind.wrap .i64 (((1:Int):Int) - (0:Int))) fun x22 =>
 idx v21 x22 fun c23 =>
 cI .i64 c23 0 fun v24 =>
 k_fin v24) (
 k_fin (-1:Int))))) (
 cLd 1 p0 2 fun v25 =>
 idx v25 (0:Int) fun c26 =>
 cI .i64 c26 0 fun v27 =>
 ifb ((v27:Int) != p1) (
 cLd 1 p0 2 fun v28 =>
 idx v28 (0:Int) fun c29 =>
 cI .i64 c29 0 fun v30 =>
 k_fin v30) (
 cLd 1 p0 2 fun v31 =>
 ifb (decide (((List.length v31:Nat):Int) > (1:Int))) (
 cLd 1 p0 2 fun v32 =>
 lt (IntKind.wrap .i64 (((1:Int):Int) - (0:Int))) fun x33 =>
 idx v32 x33 fun c34 =>
 cI .i64 c34 0 fun v35 =>
 k_fin v35) (
 k_fin (-1:Int))))) (
 cLd 1 p0 2 fun v36 =>
 idx v36 (0:Int) fun c37 =>
 cI .i64 c37 0 fun v38 =>
 ifb ((v38:Int) != p1) (
 cLd 1 p0 2 fun v39 =>
 idx v39 (0:Int) fun c40 =>
 cI .i64 c40 0 fun v41 =>
 k_fin v41) (
 cLd 1 p0 2 fun v42 =>
 ifb (decide (((List.length v42:Nat):Int) > (1:Int))) (
 cLd 1 p0 2 fun v43 =>
 lt (IntKind.wrap .i64 (((1:Int):Int) - (0:Int))) fun x44 =>
 idx v43 x44 fun c45 =>
 cI .i64 c45 0 fun v46 =>
 k_fin v46) (
 k_fin (-1:Int)))))
theorem zug {β:Type} (L:Nat) (p0:List V) (p1:Int) (k:KK β):zK zlV (zlT L) L ziD [(V.agg p0),(V.sc (.int .i64 p1))] [] k=zm6 L p0 p1 (fun p0=>k (V.sc (.int .i64 p0)) []):=by kernel_rfl
abbrev zr:=∀ (β:Type),Nat→List V→Int→(Int→Option β)→Option β
def yd (β:Type) (L:Nat) (p0:List V) (p1:Int) (k_fin:Int→Option β):Option β:=zm6 L p0 p1 k_fin
def zhh (yd:zr) (L:Nat) (β:Type) (args:List V) (bor:Bor) (k:KK β):Option β:=match args,bor with
 | [a0,a1],[]=>aG a0 fun p0=>aI .i64 a1 fun p1=>yd β L p0 p1 (fun p0=>k (V.sc (.int .i64 p0)) [])
 | _,_=>none
theorem ztP (L:Nat) (β:Type) (args:List V) (bor:Bor) (k:KK β) (r:β) (h:zhh yd L β args bor k=some r):zK zlV (zlT L) L ziD args bor k=some r:=by
 unfold zhh at h
 split at h
 ·have q:=zfq h; clear h; obtain ⟨p0,rfl,h⟩:=q
  have q:=zaG h; clear h; obtain ⟨p1,rfl,h⟩:=q
  exact (zug L p0 p1 k).trans h
 ·cases h
def zcL:CF:=⟨8,[.tmp 2],
 (.seq (.reg [oo 2 (.move (.const (.gs 1 [])) true)])
 (.fork (.reg [oo 3 (.move (tq 0) false),
   oo 4 (.nilT false (tq 3))])
 (tq 4)
 (.seq (.reg [oo 2 (.nilS 1 7)])
 (.seq (.mask (bl 4 8) (bl 128 8))
 .ret))
 (.seq (.reg [⟨(some 5),true,none,.buildSlice 1 0 [(.sc (.int .i64 0))] []⟩,
   oo 6 (.move (tq 0) false),
   ⟨(some 7),true,none,.append 1 8 (tq 5) (tq 6)⟩,
   oo 2 (.move (tq 7) true)])
 (.seq (.mask (bl 4 8) (bl 128 8))
 .ret))))⟩
def zhc:Hint:=⟨[(0,0),(2,0),(3,3)],[(3,0),(3,2)],[none,some ((bl 4 8),(bl 128 8)),some ((bl 4 8),(bl 128 8))],[],[(2,0,[7])],false,false⟩
def ze1:Nat→Sh:=xZ []
def zeM (L:Nat):CBC:=noC
def zfo {β:Type} (L:Nat) (p0:List (List V)) (k_fin:List (List V)→Option β):Option β :=
 lc p0 (
 k_fin ([]:List (List V))) (fun h0 t0 =>
 chk ((0+List.length (h0::t0)) * 8≤zj∧0+List.length (h0::t0)≤zj) (
 chk ((List.length (h0::t0))≠0∨(List.length (List.flatten (h0::t0)))=0) (
 k_fin (xc 1 (List.length (h0::t0)) (List.flatten (h0::t0))))))
theorem zmZ {β:Type} (L:Nat) (p0:List (List V)) (k:KK β):zK ze1 (zeM L) L zcL [(V.sl 1 p0)] [] k=zfo L p0 (fun p0=>k (V.fr 1 p0) []):=by kernel_rfl
abbrev yG:=∀ (β:Type),Nat→List (List V)→(List (List V)→Option β)→Option β
def yg (β:Type) (L:Nat) (p0:List (List V)) (k_fin:List (List V)→Option β):Option β:=zfo L p0 k_fin
def zbT (yg:yG) (L:Nat) (β:Type) (args:List V) (bor:Bor) (k:KK β):Option β:=match args,bor with
 | [a0],[]=>aL 1 a0 fun p0=>yg β L p0 (fun p0=>k (V.fr 1 p0) [])
 | _,_=>none
theorem znd (L:Nat) (β:Type) (args:List V) (bor:Bor) (k:KK β) (r:β) (h:zbT yg L β args bor k=some r):zK ze1 (zeM L) L zcL args bor k=some r:=by
 unfold zbT at h
 split at h
 ·have q:=zaZ h; clear h; obtain ⟨p0,rfl,h⟩:=q
  exact (zmZ L p0 k).trans h
 ·cases h
def zaK:CF:=⟨8,[.tmp 2],
 (.seq (.reg [oo 2 (.move (.const (.gs 35 [])) true)])
 (.fork (.reg [oo 3 (.move (tq 0) false),
   oo 4 (.nilT false (tq 3))])
 (tq 4)
 (.seq (.reg [oo 2 (.nilS 35 7)])
 (.seq (.mask (bl 4 8) (bl 128 8))
 .ret))
 (.seq (.reg [⟨(some 5),true,none,.buildSlice 35 0 (rp 32 (.sc (.int .u8 0)) (rp 2 (.sc (.int .i64 0)) (rp 1 (.sc (.int .u32 0)) []))) []⟩,
   oo 6 (.move (tq 0) false),
   ⟨(some 7),true,none,.append 35 56 (tq 5) (tq 6)⟩,
   oo 2 (.move (tq 7) true)])
 (.seq (.mask (bl 4 8) (bl 128 8))
 .ret))))⟩
def zdN:Hint:=⟨[(0,0),(2,0),(3,3)],[(3,0),(3,2)],[none,some ((bl 4 8),(bl 128 8)),some ((bl 4 8),(bl 128 8))],[],[(2,0,[7])],false,false⟩
def zbW:Nat→Sh:=xZ []
def zbX (L:Nat):CBC:=noC
def zb9 {β:Type} (L:Nat) (p0:List (List V)) (k_fin:List (List V)→Option β):Option β :=
 lc p0 (
 k_fin ([]:List (List V))) (fun h0 t0 =>
 chk ((0+List.length (h0::t0)) * 56≤zj∧0+List.length (h0::t0)≤zj) (
 chk ((List.length (h0::t0))≠0∨(List.length (List.flatten (h0::t0)))=0) (
 k_fin (xc 35 (List.length (h0::t0)) (List.flatten (h0::t0))))))
theorem zic {β:Type} (L:Nat) (p0:List (List V)) (k:KK β):zK zbW (zbX L) L zaK [(V.sl 35 p0)] [] k=zb9 L p0 (fun p0=>k (V.fr 35 p0) []):=by kernel_rfl
abbrev zaX:=∀ (β:Type),Nat→List (List V)→(List (List V)→Option β)→Option β
def yq (β:Type) (L:Nat) (p0:List (List V)) (k_fin:List (List V)→Option β):Option β:=zb9 L p0 k_fin
def zaR (yq:zaX) (L:Nat) (β:Type) (args:List V) (bor:Bor) (k:KK β):Option β:=match args,bor with
 | [a0],[]=>aL 35 a0 fun p0=>yq β L p0 (fun p0=>k (V.fr 35 p0) [])
 | _,_=>none
theorem zig (L:Nat) (β:Type) (args:List V) (bor:Bor) (k:KK β) (r:β) (h:zaR yq L β args bor k=some r):zK zbW (zbX L) L zaK args bor k=some r:=by
 unfold zaR at h
 split at h
 ·have q:=zaZ h; clear h; obtain ⟨p0,rfl,h⟩:=q
  exact (zic L p0 k).trans h
 ·cases h
def zaL:CF:=⟨8,[.tmp 2],
 (.seq (.reg [oo 2 (.move (.const (.gs 32 [])) true)])
 (.fork (.reg [oo 3 (.move (tq 0) false),
   oo 4 (.nilT false (tq 3))])
 (tq 4)
 (.seq (.reg [oo 2 (.nilS 32 7)])
 (.seq (.mask (bl 4 8) (bl 128 8))
 .ret))
 (.seq (.reg [⟨(some 5),true,none,.buildSlice 32 0 (rp 32 (.sc (.int .u8 0)) []) []⟩,
   oo 6 (.move (tq 0) false),
   ⟨(some 7),true,none,.append 32 32 (tq 5) (tq 6)⟩,
   oo 2 (.move (tq 7) true)])
 (.seq (.mask (bl 4 8) (bl 128 8))
 .ret))))⟩
def zdO:Hint:=⟨[(0,0),(2,0),(3,3)],[(3,0),(3,2)],[none,some ((bl 4 8),(bl 128 8)),some ((bl 4 8),(bl 128 8))],[],[(2,0,[7])],false,false⟩
def zbZ:Nat→Sh:=xZ []
def zbU (L:Nat):CBC:=noC
def zca {β:Type} (L:Nat) (p0:List (List V)) (k_fin:List (List V)→Option β):Option β :=
 lc p0 (
 k_fin ([]:List (List V))) (fun h0 t0 =>
 chk ((0+List.length (h0::t0)) * 32≤zj∧0+List.length (h0::t0)≤zj) (
 chk ((List.length (h0::t0))≠0∨(List.length (List.flatten (h0::t0)))=0) (
 k_fin (xc 32 (List.length (h0::t0)) (List.flatten (h0::t0))))))
theorem zh3 {β:Type} (L:Nat) (p0:List (List V)) (k:KK β):zK zbZ (zbU L) L zaL [(V.sl 32 p0)] [] k=zca L p0 (fun p0=>k (V.fr 32 p0) []):=by kernel_rfl
abbrev zaU:=∀ (β:Type),Nat→List (List V)→(List (List V)→Option β)→Option β
def zq (β:Type) (L:Nat) (p0:List (List V)) (k_fin:List (List V)→Option β):Option β:=zca L p0 k_fin
def zaW (zq:zaU) (L:Nat) (β:Type) (args:List V) (bor:Bor) (k:KK β):Option β:=match args,bor with
 | [a0],[]=>aL 32 a0 fun p0=>zq β L p0 (fun p0=>k (V.fr 32 p0) [])
 | _,_=>none
theorem zir (L:Nat) (β:Type) (args:List V) (bor:Bor) (k:KK β) (r:β) (h:zaW zq L β args bor k=some r):zK zbZ (zbU L) L zaL args bor k=some r:=by
 unfold zaW at h
 split at h
 ·have q:=zaZ h; clear h; obtain ⟨p0,rfl,h⟩:=q
  exact (zh3 L p0 k).trans h
 ·cases h
def zhM:CF:=⟨16,[.cellS 2 5 false],
 (.seq (.reg [oo 1 (.box false (tq 0)),
   oo 2 (.alloc false [(.sc (.int .u32 0)),(.sc (.bool false)),(.gs 1 []),(.gs 35 []),(.gs 32 [])])])
 (.seq (.reg [oo 3 (.fieldAddr 2 (tq 1)),
   oo 4 (.load false 1 (tq 3) false),
   ⟨(some 5),true,none,.call 360 [((tq 4),0)] []⟩,
   oo 6 (.fieldAddr 2 (tq 1)),
   oz (.store 1 (tq 6) (tq 5))])
 (.seq (.reg [oo 7 (.fieldAddr 3 (tq 1)),
   oo 8 (.load false 1 (tq 7) false),
   ⟨(some 9),true,none,.call 370 [((tq 8),0)] []⟩,
   oo 10 (.fieldAddr 3 (tq 1)),
   oz (.store 1 (tq 10) (tq 9))])
 (.seq (.reg [oo 11 (.fieldAddr 4 (tq 1)),
   oo 12 (.load false 1 (tq 11) false),
   ⟨(some 13),true,none,.call 371 [((tq 12),0)] []⟩,
   oo 14 (.fieldAddr 4 (tq 1)),
   oz (.store 1 (tq 14) (tq 13))])
 (.seq (.reg [oo 15 (.load true 5 (tq 1) true),
   oz (.store 5 (tq 2) (tq 15))])
 .ret)))))⟩
def znm:Hint:=⟨[(4,0)],[(1,2),(2,2),(3,2)],[none],[],[],false,true⟩
def zkx:Nat→Sh:=xZ [(1,(.row [(.int .u32),.bool,(.sl 1),(.sl 35),(.sl 32)]))]
def zlg (yg:yG) (yq:zaX) (zq:zaU) (L:Nat):CBC:=(xB 371 (zaW zq L) (xB 370 (zaR yq L) (xB 360 (zbT yg L) noC)))
abbrev znl (β:Type):Type:=Int→Bool→Nat→Nat→Nat→List V→List V→List V→Option β
def zlJ {β:Type} (yg:yG) (yq:zaX) (zq:zaU) (L:Nat) (p0:List V) (k_fin:znl β):Option β :=
 chk (List.length p0=5) (
 cI .u32 p0 0 fun v0 =>
 cB p0 1 fun v1 =>
 cL 1 p0 2 fun v2 =>
 cL 35 p0 3 fun v3 =>
 cL 32 p0 4 fun v4 =>
 yg β L v2 (fun v5 =>
 yq β L v3 (fun v6 =>
 zq β L v4 (fun v7 =>
 k_fin v0 v1 (List.length v5) (List.length v6) (List.length v7) (List.flatten v5) (List.flatten v6) (List.flatten v7)))))
theorem ztd {β:Type} (yg:yG) (yq:zaX) (zq:zaU) (L:Nat) (p0:List V) (k:KK β):zK zkx (zlg yg yq zq L) L zhM [(V.agg p0)] [] k=zlJ yg yq zq L p0 (fun zE0 zE1 zFi zFh zFj b0 b1 b2=>k (V.st [(V.sc (.int .u32 zE0)),(V.sc (.bool zE1)),(V.own 0 0 zFi 1),(V.own 1 0 zFh 35),(V.own 2 0 zFj 32)]) [(.live true b0),(.live true b1),(.live true b2)]):=by kernel_rfl
abbrev yP:=∀ (β:Type),Nat→List V→(Int→Bool→Nat→Nat→Nat→List V→List V→List V→Option β)→Option β
def zl (β:Type) (L:Nat) (p0:List V) (k_fin:znl β):Option β:=zlJ yg yq zq L p0 k_fin
def zdn (zl:yP) (L:Nat) (β:Type) (args:List V) (bor:Bor) (k:KK β):Option β:=match args,bor with
 | [a0],[]=>aG a0 fun p0=>zl β L p0 (fun zE0 zE1 zFi zFh zFj b0 b1 b2=>k (V.st [(V.sc (.int .u32 zE0)),(V.sc (.bool zE1)),(V.own 0 0 zFi 1),(V.own 1 0 zFh 35),(V.own 2 0 zFj 32)]) [(.live true b0),(.live true b1),(.live true b2)])
 | _,_=>none
theorem ztc (L:Nat) (β:Type) (args:List V) (bor:Bor) (k:KK β) (r:β) (h:zdn zl L β args bor k=some r):zK zkx (zlg yg yq zq L) L zhM args bor k=some r:=by
 unfold zdn at h
 split at h
 ·have q:=zfq h; clear h; obtain ⟨p0,rfl,h⟩:=q
  exact (ztd yg yq zq L p0 k).trans h
 ·cases h
def ziI:CF:=⟨12,[.tmp 4],
 (.seq (.reg [oo 4 (.move (.const (.sc (.int .u32 0))) false)])
 (.seq (.seq (.reg [oo 5 (.move (tq 1) false),
   oo 6 (.move (tq 0) false),
   oo 7 (.un .xor (tq 6)),
   oo 8 (.bin .gtr (tq 5) (tq 7))])
 (.cond (tq 8)
 (.seq (.reg [oo 4 (.move (.const (.sc (.int .u32 4294967295))) false)])
 .ret)
 .skip))
 (.seq (.reg [oo 9 (.move (tq 0) false),
   oo 10 (.move (tq 1) false),
   oo 11 (.bin .add (tq 9) (tq 10)),
   oo 4 (.move (tq 11) false)])
 .ret)))⟩
def znT:Hint:=⟨[],[],[none,none,none],[],[],false,false⟩
def zlS:Nat→Sh:=xZ []
def zlL (L:Nat):CBC:=noC
def zm5 {β:Type} (L:Nat) (p0 p1:Int) (k_fin:Int→Option β):Option β :=
 lt (zAa .u32 p0) fun x0 =>
 ifb (decide (p1 > x0)) (
 k_fin (4294967295:Int)) (
 lt (IntKind.wrap .u32 ((p0:Int)+p1)) fun x1 =>
 k_fin x1)
theorem zul {β:Type} (L:Nat) (p0 p1:Int) (k:KK β):zK zlS (zlL L) L ziI [(V.sc (.int .u32 p0)),(V.sc (.int .u32 p1))] [] k=zm5 L p0 p1 (fun p0=>k (V.sc (.int .u32 p0)) []):=by kernel_rfl
abbrev zai:=∀ (β:Type),Nat→Int→Int→(Int→Option β)→Option β
def xn (β:Type) (L:Nat) (p0 p1:Int) (k_fin:Int→Option β):Option β:=zm5 L p0 p1 k_fin
def zhj (xn:zai) (L:Nat) (β:Type) (args:List V) (bor:Bor) (k:KK β):Option β:=match args,bor with
 | [a0,a1],[]=>aI .u32 a0 fun p0=>aI .u32 a1 fun p1=>xn β L p0 p1 (fun p0=>k (V.sc (.int .u32 p0)) [])
 | _,_=>none
theorem ztO (L:Nat) (β:Type) (args:List V) (bor:Bor) (k:KK β) (r:β) (h:zhj xn L β args bor k=some r):zK zlS (zlL L) L ziI args bor k=some r:=by
 unfold zhj at h
 split at h
 ·have q:=zaG h; clear h; obtain ⟨p0,rfl,h⟩:=q
  have q:=zaG h; clear h; obtain ⟨p1,rfl,h⟩:=q
  exact (zul L p0 p1 k).trans h
 ·cases h
def zrf:CF:=⟨69,[.cellS 10 5 true,.tmpP 11,.tmpP 12],
 (.seq (.reg [oo 5 (.box false (tq 0)),
   oo 7 (.box true (tq 2)),
   oo 10 (.alloc false [(.sc (.int .u32 0)),(.sc (.bool false)),(.gs 1 []),(.gs 35 []),(.gs 32 [])]),
   oo 11 (.move (.const (.sc (.int .i64 0))) false),
   oo 12 (.move (.const (.sc (.int .i64 0))) false)])
 (.seq (.seq (.reg [oo 14 (.load true 5 (tq 5) false),
   oo 15 (.call 356 [((tq 14),1)] []),
   oo 16 (.un .not (tq 15)),
   oo 17 (.move (tq 16) false),
   ⟨(some 18),false,(some (17,false)),.move (tq 1) false⟩,
   ⟨(some 19),false,(some (17,false)),.bin .lss (tq 18) (.const (.sc (.int .i64 (-1))))⟩,
   oo 20 (.pick (tq 17) (.const (.sc (.bool true))) (tq 19))])
 (.cond (tq 20)
 (.seq (.reg [oo 21 (.build [(.sc (.int .u32 0)),(.sc (.bool false)),(.sl 1 []),(.sl 35 []),(.sl 32 [])] []),
   oz (.store 5 (tq 10) (tq 21)),
   oo 11 (.move (.const (.sc (.int .i64 0))) false),
   oo 12 (.move (.const (.sc (.int .i64 6))) false)])
 .ret)
 .skip))
 (.seq (.seq (.reg [oo 22 (.load true 5 (tq 5) true),
   oo 23 (.load true 32 (tq 7) false),
   oo 24 (.call 363 [((tq 22),3),((tq 23),2)] []),
   oo 25 (.bin .geq (tq 24) (.const (.sc (.int .i64 0)))),
   oo 26 (.move (tq 25) false),
   ⟨(some 27),false,(some (26,false)),.fieldAddr 4 (tq 5)⟩,
   ⟨(some 28),false,(some (26,false)),.load false 1 (tq 27) false⟩,
   ⟨(some 29),false,(some (26,false)),.load true 32 (tq 7) false⟩,
   ⟨(some 30),false,(some (26,false)),.call 248 [((tq 28),2),((tq 29),2)] []⟩,
   oo 31 (.pick (tq 26) (.const (.sc (.bool true))) (tq 30))])
 (.cond (tq 31)
 (.seq (.reg [oo 32 (.build [(.sc (.int .u32 0)),(.sc (.bool false)),(.sl 1 []),(.sl 35 []),(.sl 32 [])] []),
   oz (.store 5 (tq 10) (tq 32)),
   oo 11 (.move (.const (.sc (.int .i64 0))) false),
   oo 12 (.move (.const (.sc (.int .i64 150))) false)])
 .ret)
 .skip))
 (.seq (.reg [oo 33 (.load true 5 (tq 5) false),
   oo 34 (.move (tq 1) false),
   oo 35 (.call 344 [((tq 33),1),((tq 34),0)] []),
   oo 13 (.move (tq 35) false)])
 (.seq (.seq (.reg [oo 36 (.fieldAddr 1 (tq 5)),
   oo 37 (.load false 1 (tq 36) false),
   oo 38 (.move (tq 37) false),
   ⟨(some 39),false,(some (38,true)),.move (tq 1) false⟩,
   ⟨(some 40),false,(some (38,true)),.bin .neq (tq 39) (.const (.sc (.int .i64 (-1))))⟩,
   oo 41 (.pick (tq 38) (tq 40) (.const (.sc (.bool false))))])
 (.cond (tq 41)
 (.reg [oo 13 (.move (.const (.sc (.int .i64 (-1)))) false)])
 .skip))
 (.seq (.seq (.reg [oo 42 (.move (tq 13) false),
   oo 43 (.bin .neq (tq 42) (.const (.sc (.int .i64 (-1))))),
   oo 44 (.move (tq 43) false),
   ⟨(some 45),false,(some (44,true)),.fieldAddr 3 (tq 5)⟩,
   ⟨(some 46),false,(some (44,true)),.load false 1 (tq 45) false⟩,
   ⟨(some 47),false,(some (44,true)),.lenS (tq 46)⟩,
   ⟨(some 48),false,(some (44,true)),.bin .geq (tq 47) (.const (.sc (.int .i64 64)))⟩,
   oo 49 (.pick (tq 44) (tq 48) (.const (.sc (.bool false))))])
 (.cond (tq 49)
 (.seq (.reg [oo 50 (.build [(.sc (.int .u32 0)),(.sc (.bool false)),(.sl 1 []),(.sl 35 []),(.sl 32 [])] []),
   oz (.store 5 (tq 10) (tq 50)),
   oo 11 (.move (.const (.sc (.int .i64 0))) false),
   oo 12 (.move (.const (.sc (.int .i64 380))) false)])
 .ret)
 .skip))
 (.seq (.reg [oo 51 (.load true 5 (tq 5) false),
   oo 52 (.call 358 [((tq 51),1)] [16,19,25]),
   oz (.store 5 (tq 5) (tq 52))])
 (.seq (.seq (.reg [oo 53 (.move (tq 13) false),
   oo 54 (.bin .neq (tq 53) (.const (.sc (.int .i64 (-1)))))])
 (.cond (tq 54)
 (.dreg [] [(oo 55 (.fieldAddr 3 (tq 5)),q0),
   (oo 56 (.load false 1 (tq 55) true),ql 5 [7] [64]),
   (oo 57 (.load true 32 (tq 7) false),ql 7 [5] []),
   (oo 58 (.move (tq 1) false),q0),
   (oo 59 (.move (tq 13) false),q0),
   (oo 60 (.move (tq 3) false),q0),
   (oo 61 (.move (tq 4) false),q0),
   (oo 62 (.call 359 [((tq 60),0),((tq 61),0)] []),qc [5,7] []),
   (oo 63 (.build (rp 32 (.sc (.int .u8 0)) (rp 2 (.sc (.int .i64 0)) (rp 1 (.sc (.int .u32 0)) []))) [(0,32,(tq 57)),(32,1,(tq 58)),(33,1,(tq 59)),(34,1,(tq 62))]),q0),
   (oo 64 (.buildSlice 35 1 (rp 32 (.sc (.int .u8 0)) (rp 2 (.sc (.int .i64 0)) (rp 1 (.sc (.int .u32 0)) []))) [(0,35,(tq 63))]),qn [5] []),
   (oo 65 (.append 35 56 (tq 56) (tq 64)),q0),
   (oo 66 (.fieldAddr 3 (tq 5)),q0),
   (oz (.store 1 (tq 66) (tq 65)),q0)])
 .skip))
 (.seq (.reg [oo 67 (.load true 5 (tq 5) true),
   oo 68 (.move (tq 13) false),
   oz (.store 5 (tq 10) (tq 67)),
   oo 11 (.move (tq 68) false),
   oo 12 (.move (.const (.sc (.int .i64 0))) false)])
 .ret)))))))))⟩
def zpe:Hint:=⟨[(3,0),(3,2),(3,8),(12,1),(13,0)],[],[none,none,none,none,none,none,none,none,none],[],[(10,1,[16,19,25])],true,true⟩
def zC1:Nat→Sh:=xZ [(5,(.row [(.int .u32),.bool,(.sl 1),(.sl 35),(.sl 32)]))]
def zCX (ym:xS) (zcP:zou) (yu:z5) (yd:zr) (zl:yP) (xn:zai) (L:Nat):CBC:=(xB 359 (zhj xn L) (xB 358 (zdn zl L) (xB 344 (zhh yd L) (xB 248 (zdH yu L) (xB 363 (zyb zcP L) (xB 356 (zd9 ym L) noC))))))
def zsp {β:Type} (ym:xS) (zcP:zou) (yu:z5) (yd:zr) (zl:yP) (xn:zai) (L:Nat) (p0:List V) (p1:Int) (p2:List V) (p3 p4:Int) (k_fin:List V→Int→Int→Option β):Option β :=
 chk (List.length p0=5) (
 cI .u32 p0 0 fun v0 =>
 cB p0 1 fun v1 =>
 cL 1 p0 2 fun v2 =>
 cL 35 p0 3 fun v3 =>
 cL 32 p0 4 fun v4 =>
 ym β L [(V.sc (.int .u32 v0)),(V.sc (.bool v1)),(V.sl 1 v2),(V.sl 35 v3),(V.sl 32 v4)] (fun v5 =>
 ifb (!v5) (
 k_fin [(V.sc (.int .u32 (0:Int))),(V.sc (.bool false)),(V.sl 1 ([]:List (List V))),(V.sl 35 ([]:List (List V))),(V.sl 32 ([]:List (List V)))] (0:Int) (6:Int)) (
 ifb (decide (p1 < (-1:Int))) (
 k_fin [(V.sc (.int .u32 (0:Int))),(V.sc (.bool false)),(V.sl 1 ([]:List (List V))),(V.sl 35 ([]:List (List V))),(V.sl 32 ([]:List (List V)))] (0:Int) (6:Int)) (
 chk (0+32≤(List.length p2)) (
 zcP β L v0 v1 v2 v3 v4 (List.take 32 p2) (fun v6 =>
 ifb (decide (v6 ≥ (0:Int))) (
 k_fin [(V.sc (.int .u32 (0:Int))),(V.sc (.bool false)),(V.sl 1 ([]:List (List V))),(V.sl 35 ([]:List (List V))),(V.sl 32 ([]:List (List V)))] (0:Int) (150:Int)) (
 chk (0+32≤(List.length p2)) (
 yu β L v4 (List.take 32 p2) (fun v7 =>
 ifb v7 (
 k_fin [(V.sc (.int .u32 (0:Int))),(V.sc (.bool false)),(V.sl 1 ([]:List (List V))),(V.sl 35 ([]:List (List V))),(V.sl 32 ([]:List (List V)))] (0:Int) (150:Int)) (
 yd β L [(V.sc (.int .u32 v0)),(V.sc (.bool v1)),(V.sl 1 v2),(V.sl 35 v3),(V.sl 32 v4)] p1 (fun v8 =>
 ifb v1 (
 ifb ((p1:Int) != (-1:Int)) (
 zl β L [(V.sc (.int .u32 v0)),(V.sc (.bool v1)),(V.sl 1 v2),(V.sl 35 v3),(V.sl 32 v4)] (fun v9 v10 v11 v12 v13 v14 v15 v16 =>
 k_fin [(V.sc (.int .u32 v9)),(V.sc (.bool v10)),(V.sl 1 (xc 1 v11 v14)),(V.sl 35 (xc 35 v12 v15)),(V.sl 32 (xc 32 v13 v16))] (-1:Int) (0:Int))) (
 ifb ((v8:Int) != (-1:Int)) (
 ifb (decide (((List.length v3:Nat):Int) ≥ (64:Int))) (
 k_fin [(V.sc (.int .u32 (0:Int))),(V.sc (.bool false)),(V.sl 1 ([]:List (List V))),(V.sl 35 ([]:List (List V))),(V.sl 32 ([]:List (List V)))] (0:Int) (380:Int)) (
 zl β L [(V.sc (.int .u32 v0)),(V.sc (.bool v1)),(V.sl 1 v2),(V.sl 35 v3),(V.sl 32 v4)] (fun v17 v18 v19 v20 v21 v22 v23 v24 =>
 ifb ((v8:Int) != (-1:Int)) (
 chk (0+32≤(List.length p2)) (
 xn β L p3 p4 (fun v25 =>
 chk ((List.length (List.take 32 p2))=32∧0+32≤35) (
 chk (1=1∧32+1≤(List.length (zc (List.replicate 32 (V.sc (.int .u8 (0:Int)))++[(V.sc (.int .i64 (0:Int))),(V.sc (.int .i64 (0:Int))),(V.sc (.int .u32 (0:Int)))]) 0 (List.take 32 p2)))) (
 chk (1=1∧33+1≤(List.length (zc (zc (List.replicate 32 (V.sc (.int .u8 (0:Int)))++[(V.sc (.int .i64 (0:Int))),(V.sc (.int .i64 (0:Int))),(V.sc (.int .u32 (0:Int)))]) 0 (List.take 32 p2)) 32 [(V.sc (.int .i64 p1))]))) (
 chk (1=1∧34+1≤(List.length (zc (zc (zc (List.replicate 32 (V.sc (.int .u8 (0:Int)))++[(V.sc (.int .i64 (0:Int))),(V.sc (.int .i64 (0:Int))),(V.sc (.int .u32 (0:Int)))]) 0 (List.take 32 p2)) 32 [(V.sc (.int .i64 p1))]) 33 [(V.sc (.int .i64 v8))]))) (
 chk ((List.length (zc (zc (zc (zc (List.replicate 32 (V.sc (.int .u8 (0:Int)))++[(V.sc (.int .i64 (0:Int))),(V.sc (.int .i64 (0:Int))),(V.sc (.int .u32 (0:Int)))]) 0 (List.take 32 p2)) 32 [(V.sc (.int .i64 p1))]) 33 [(V.sc (.int .i64 v8))]) 34 [(V.sc (.int .u32 v25))]))=35∧0+35≤35) (
 chk ((v20+List.length (xc 35 1 (zc (List.replicate 32 (V.sc (.int .u8 (0:Int)))++[(V.sc (.int .i64 (0:Int))),(V.sc (.int .i64 (0:Int))),(V.sc (.int .u32 (0:Int)))]) 0 (zc (zc (zc (zc (List.replicate 32 (V.sc (.int .u8 (0:Int)))++[(V.sc (.int .i64 (0:Int))),(V.sc (.int .i64 (0:Int))),(V.sc (.int .u32 (0:Int)))]) 0 (List.take 32 p2)) 32 [(V.sc (.int .i64 p1))]) 33 [(V.sc (.int .i64 v8))]) 34 [(V.sc (.int .u32 v25))])))) * 56≤zj∧(v20+List.length (xc 35 1 (zc (List.replicate 32 (V.sc (.int .u8 (0:Int)))++[(V.sc (.int .i64 (0:Int))),(V.sc (.int .i64 (0:Int))),(V.sc (.int .u32 (0:Int)))]) 0 (zc (zc (zc (zc (List.replicate 32 (V.sc (.int .u8 (0:Int)))++[(V.sc (.int .i64 (0:Int))),(V.sc (.int .i64 (0:Int))),(V.sc (.int .u32 (0:Int)))]) 0 (List.take 32 p2)) 32 [(V.sc (.int .i64 p1))]) 33 [(V.sc (.int .i64 v8))]) 34 [(V.sc (.int .u32 v25))]))))≤zj∧((v20+List.length (xc 35 1 (zc (List.replicate 32 (V.sc (.int .u8 (0:Int)))++[(V.sc (.int .i64 (0:Int))),(V.sc (.int .i64 (0:Int))),(V.sc (.int .u32 (0:Int)))]) 0 (zc (zc (zc (zc (List.replicate 32 (V.sc (.int .u8 (0:Int)))++[(V.sc (.int .i64 (0:Int))),(V.sc (.int .i64 (0:Int))),(V.sc (.int .u32 (0:Int)))]) 0 (List.take 32 p2)) 32 [(V.sc (.int .i64 p1))]) 33 [(V.sc (.int .i64 v8))]) 34 [(V.sc (.int .u32 v25))]))))≠0∨(List.length v23)=0)) (
 lt (List.take (v20 * 35) v23++List.flatten (xc 35 1 (zc (List.replicate 32 (V.sc (.int .u8 (0:Int)))++[(V.sc (.int .i64 (0:Int))),(V.sc (.int .i64 (0:Int))),(V.sc (.int .u32 (0:Int)))]) 0 (zc (zc (zc (zc (List.replicate 32 (V.sc (.int .u8 (0:Int)))++[(V.sc (.int .i64 (0:Int))),(V.sc (.int .i64 (0:Int))),(V.sc (.int .u32 (0:Int)))]) 0 (List.take 32 p2)) 32 [(V.sc (.int .i64 p1))]) 33 [(V.sc (.int .i64 v8))]) 34 [(V.sc (.int .u32 v25))])))) fun r26 =>
 k_fin [(V.sc (.int .u32 v17)),(V.sc (.bool v18)),(V.sl 1 (xc 1 v19 v22)),(V.sl 35 (xc 35 (v20+List.length (xc 35 1 (zc (List.replicate 32 (V.sc (.int .u8 (0:Int)))++[(V.sc (.int .i64 (0:Int))),(V.sc (.int .i64 (0:Int))),(V.sc (.int .u32 (0:Int)))]) 0 (zc (zc (zc (zc (List.replicate 32 (V.sc (.int .u8 (0:Int)))++[(V.sc (.int .i64 (0:Int))),(V.sc (.int .i64 (0:Int))),(V.sc (.int .u32 (0:Int)))]) 0 (List.take 32 p2)) 32 [(V.sc (.int .i64 p1))]) 33 [(V.sc (.int .i64 v8))]) 34 [(V.sc (.int .u32 v25))])))) r26)),(V.sl 32 (xc 32 v21 v24))] v8 (0:Int)))))))))) (
 k_fin [(V.sc (.int .u32 v17)),(V.sc (.bool v18)),(V.sl 1 (xc 1 v19 v22)),(V.sl 35 (xc 35 v20 v23)),(V.sl 32 (xc 32 v21 v24))] v8 (0:Int))))) (
 zl β L [(V.sc (.int .u32 v0)),(V.sc (.bool v1)),(V.sl 1 v2),(V.sl 35 v3),(V.sl 32 v4)] (fun v27 v28 v29 v30 v31 v32 v33 v34 =>
 ifb ((v8:Int) != (-1:Int)) (
 chk (0+32≤(List.length p2)) (
 xn β L p3 p4 (fun v35 =>
 chk ((List.length (List.take 32 p2))=32∧0+32≤35) (
 chk (1=1∧32+1≤(List.length (zc (List.replicate 32 (V.sc (.int .u8 (0:Int)))++[(V.sc (.int .i64 (0:Int))),(V.sc (.int .i64 (0:Int))),(V.sc (.int .u32 (0:Int)))]) 0 (List.take 32 p2)))) (
 chk (1=1∧33+1≤(List.length (zc (zc (List.replicate 32 (V.sc (.int .u8 (0:Int)))++[(V.sc (.int .i64 (0:Int))),(V.sc (.int .i64 (0:Int))),(V.sc (.int .u32 (0:Int)))]) 0 (List.take 32 p2)) 32 [(V.sc (.int .i64 p1))]))) (
 chk (1=1∧34+1≤(List.length (zc (zc (zc (List.replicate 32 (V.sc (.int .u8 (0:Int)))++[(V.sc (.int .i64 (0:Int))),(V.sc (.int .i64 (0:Int))),(V.sc (.int .u32 (0:Int)))]) 0 (List.take 32 p2)) 32 [(V.sc (.int .i64 p1))]) 33 [(V.sc (.int .i64 v8))]))) (
 chk ((List.length (zc (zc (zc (zc (List.replicate 32 (V.sc (.int .u8 (0:Int)))++[(V.sc (.int .i64 (0:Int))),(V.sc (.int .i64 (0:Int))),(V.sc (.int .u32 (0:Int)))]) 0 (List.take 32 p2)) 32 [(V.sc (.int .i64 p1))]) 33 [(V.sc (.int .i64 v8))]) 34 [(V.sc (.int .u32 v35))]))=35∧0+35≤35) (
 chk ((v30+List.length (xc 35 1 (zc (List.replicate 32 (V.sc (.int .u8 (0:Int)))++[(V.sc (.int .i64 (0:Int))),(V.sc (.int .i64 (0:Int))),(V.sc (.int .u32 (0:Int)))]) 0 (zc (zc (zc (zc (List.replicate 32 (V.sc (.int .u8 (0:Int)))++[(V.sc (.int .i64 (0:Int))),(V.sc (.int .i64 (0:Int))),(V.sc (.int .u32 (0:Int)))]) 0 (List.take 32 p2)) 32 [(V.sc (.int .i64 p1))]) 33 [(V.sc (.int .i64 v8))]) 34 [(V.sc (.int .u32 v35))])))) * 56≤zj∧(v30+List.length (xc 35 1 (zc (List.replicate 32 (V.sc (.int .u8 (0:Int)))++[(V.sc (.int .i64 (0:Int))),(V.sc (.int .i64 (0:Int))),(V.sc (.int .u32 (0:Int)))]) 0 (zc (zc (zc (zc (List.replicate 32 (V.sc (.int .u8 (0:Int)))++[(V.sc (.int .i64 (0:Int))),(V.sc (.int .i64 (0:Int))),(V.sc (.int .u32 (0:Int)))]) 0 (List.take 32 p2)) 32 [(V.sc (.int .i64 p1))]) 33 [(V.sc (.int .i64 v8))]) 34 [(V.sc (.int .u32 v35))]))))≤zj∧((v30+List.length (xc 35 1 (zc (List.replicate 32 (V.sc (.int .u8 (0:Int)))++[(V.sc (.int .i64 (0:Int))),(V.sc (.int .i64 (0:Int))),(V.sc (.int .u32 (0:Int)))]) 0 (zc (zc (zc (zc (List.replicate 32 (V.sc (.int .u8 (0:Int)))++[(V.sc (.int .i64 (0:Int))),(V.sc (.int .i64 (0:Int))),(V.sc (.int .u32 (0:Int)))]) 0 (List.take 32 p2)) 32 [(V.sc (.int .i64 p1))]) 33 [(V.sc (.int .i64 v8))]) 34 [(V.sc (.int .u32 v35))]))))≠0∨(List.length v33)=0)) (
 lt (List.take (v30 * 35) v33++List.flatten (xc 35 1 (zc (List.replicate 32 (V.sc (.int .u8 (0:Int)))++[(V.sc (.int .i64 (0:Int))),(V.sc (.int .i64 (0:Int))),(V.sc (.int .u32 (0:Int)))]) 0 (zc (zc (zc (zc (List.replicate 32 (V.sc (.int .u8 (0:Int)))++[(V.sc (.int .i64 (0:Int))),(V.sc (.int .i64 (0:Int))),(V.sc (.int .u32 (0:Int)))]) 0 (List.take 32 p2)) 32 [(V.sc (.int .i64 p1))]) 33 [(V.sc (.int .i64 v8))]) 34 [(V.sc (.int .u32 v35))])))) fun r36 =>
 k_fin [(V.sc (.int .u32 v27)),(V.sc (.bool v28)),(V.sl 1 (xc 1 v29 v32)),(V.sl 35 (xc 35 (v30+List.length (xc 35 1 (zc (List.replicate 32 (V.sc (.int .u8 (0:Int)))++[(V.sc (.int .i64 (0:Int))),(V.sc (.int .i64 (0:Int))),(V.sc (.int .u32 (0:Int)))]) 0 (zc (zc (zc (zc (List.replicate 32 (V.sc (.int .u8 (0:Int)))++[(V.sc (.int .i64 (0:Int))),(V.sc (.int .i64 (0:Int))),(V.sc (.int .u32 (0:Int)))]) 0 (List.take 32 p2)) 32 [(V.sc (.int .i64 p1))]) 33 [(V.sc (.int .i64 v8))]) 34 [(V.sc (.int .u32 v35))])))) r36)),(V.sl 32 (xc 32 v31 v34))] v8 (0:Int)))))))))) (
 k_fin [(V.sc (.int .u32 v27)),(V.sc (.bool v28)),(V.sl 1 (xc 1 v29 v32)),(V.sl 35 (xc 35 v30 v33)),(V.sl 32 (xc 32 v31 v34))] v8 (0:Int)))))) (
 ifb ((v8:Int) != (-1:Int)) (
 ifb (decide (((List.length v3:Nat):Int) ≥ (64:Int))) (
 k_fin [(V.sc (.int .u32 (0:Int))),(V.sc (.bool false)),(V.sl 1 ([]:List (List V))),(V.sl 35 ([]:List (List V))),(V.sl 32 ([]:List (List V)))] (0:Int) (380:Int)) (
 zl β L [(V.sc (.int .u32 v0)),(V.sc (.bool v1)),(V.sl 1 v2),(V.sl 35 v3),(V.sl 32 v4)] (fun v37 v38 v39 v40 v41 v42 v43 v44 =>
 ifb ((v8:Int) != (-1:Int)) (
 chk (0+32≤(List.length p2)) (
 xn β L p3 p4 (fun v45 =>
 chk ((List.length (List.take 32 p2))=32∧0+32≤35) (
 chk (1=1∧32+1≤(List.length (zc (List.replicate 32 (V.sc (.int .u8 (0:Int)))++[(V.sc (.int .i64 (0:Int))),(V.sc (.int .i64 (0:Int))),(V.sc (.int .u32 (0:Int)))]) 0 (List.take 32 p2)))) (
 chk (1=1∧33+1≤(List.length (zc (zc (List.replicate 32 (V.sc (.int .u8 (0:Int)))++[(V.sc (.int .i64 (0:Int))),(V.sc (.int .i64 (0:Int))),(V.sc (.int .u32 (0:Int)))]) 0 (List.take 32 p2)) 32 [(V.sc (.int .i64 p1))]))) (
 chk (1=1∧34+1≤(List.length (zc (zc (zc (List.replicate 32 (V.sc (.int .u8 (0:Int)))++[(V.sc (.int .i64 (0:Int))),(V.sc (.int .i64 (0:Int))),(V.sc (.int .u32 (0:Int)))]) 0 (List.take 32 p2)) 32 [(V.sc (.int .i64 p1))]) 33 [(V.sc (.int .i64 v8))]))) (
 chk ((List.length (zc (zc (zc (zc (List.replicate 32 (V.sc (.int .u8 (0:Int)))++[(V.sc (.int .i64 (0:Int))),(V.sc (.int .i64 (0:Int))),(V.sc (.int .u32 (0:Int)))]) 0 (List.take 32 p2)) 32 [(V.sc (.int .i64 p1))]) 33 [(V.sc (.int .i64 v8))]) 34 [(V.sc (.int .u32 v45))]))=35∧0+35≤35) (
 chk ((v40+List.length (xc 35 1 (zc (List.replicate 32 (V.sc (.int .u8 (0:Int)))++[(V.sc (.int .i64 (0:Int))),(V.sc (.int .i64 (0:Int))),(V.sc (.int .u32 (0:Int)))]) 0 (zc (zc (zc (zc (List.replicate 32 (V.sc (.int .u8 (0:Int)))++[(V.sc (.int .i64 (0:Int))),(V.sc (.int .i64 (0:Int))),(V.sc (.int .u32 (0:Int)))]) 0 (List.take 32 p2)) 32 [(V.sc (.int .i64 p1))]) 33 [(V.sc (.int .i64 v8))]) 34 [(V.sc (.int .u32 v45))])))) * 56≤zj∧(v40+List.length (xc 35 1 (zc (List.replicate 32 (V.sc (.int .u8 (0:Int)))++[(V.sc (.int .i64 (0:Int))),(V.sc (.int .i64 (0:Int))),(V.sc (.int .u32 (0:Int)))]) 0 (zc (zc (zc (zc (List.replicate 32 (V.sc (.int .u8 (0:Int)))++[(V.sc (.int .i64 (0:Int))),(V.sc (.int .i64 (0:Int))),(V.sc (.int .u32 (0:Int)))]) 0 (List.take 32 p2)) 32 [(V.sc (.int .i64 p1))]) 33 [(V.sc (.int .i64 v8))]) 34 [(V.sc (.int .u32 v45))]))))≤zj∧((v40+List.length (xc 35 1 (zc (List.replicate 32 (V.sc (.int .u8 (0:Int)))++[(V.sc (.int .i64 (0:Int))),(V.sc (.int .i64 (0:Int))),(V.sc (.int .u32 (0:Int)))]) 0 (zc (zc (zc (zc (List.replicate 32 (V.sc (.int .u8 (0:Int)))++[(V.sc (.int .i64 (0:Int))),(V.sc (.int .i64 (0:Int))),(V.sc (.int .u32 (0:Int)))]) 0 (List.take 32 p2)) 32 [(V.sc (.int .i64 p1))]) 33 [(V.sc (.int .i64 v8))]) 34 [(V.sc (.int .u32 v45))]))))≠0∨(List.length v43)=0)) (
 lt (List.take (v40 * 35) v43++List.flatten (xc 35 1 (zc (List.replicate 32 (V.sc (.int .u8 (0:Int)))++[(V.sc (.int .i64 (0:Int))),(V.sc (.int .i64 (0:Int))),(V.sc (.int .u32 (0:Int)))]) 0 (zc (zc (zc (zc (List.replicate 32 (V.sc (.int .u8 (0:Int)))++[(V.sc (.int .i64 (0:Int))),(V.sc (.int .i64 (0:Int))),(V.sc (.int .u32 (0:Int)))]) 0 (List.take 32 p2)) 32 [(V.sc (.int .i64 p1))]) 33 [(V.sc (.int .i64 v8))]) 34 [(V.sc (.int .u32 v45))])))) fun r46 =>
 k_fin [(V.sc (.int .u32 v37)),(V.sc (.bool v38)),(V.sl 1 (xc 1 v39 v42)),(V.sl 35 (xc 35 (v40+List.length (xc 35 1 (zc (List.replicate 32 (V.sc (.int .u8 (0:Int)))++[(V.sc (.int .i64 (0:Int))),(V.sc (.int .i64 (0:Int))),(V.sc (.int .u32 (0:Int)))]) 0 (zc (zc (zc (zc (List.replicate 32 (V.sc (.int .u8 (0:Int)))++[(V.sc (.int .i64 (0:Int))),(V.sc (.int .i64 (0:Int))),(V.sc (.int .u32 (0:Int)))]) 0 (List.take 32 p2)) 32 [(V.sc (.int .i64 p1))]) 33 [(V.sc (.int .i64 v8))]) 34 [(V.sc (.int .u32 v45))])))) r46)),(V.sl 32 (xc 32 v41 v44))] v8 (0:Int)))))))))) (
 k_fin [(V.sc (.int .u32 v37)),(V.sc (.bool v38)),(V.sl 1 (xc 1 v39 v42)),(V.sl 35 (xc 35 v40 v43)),(V.sl 32 (xc 32 v41 v44))] v8 (0:Int))))) (
 zl β L [(V.sc (.int .u32 v0)),(V.sc (.bool v1)),(V.sl 1 v2),(V.sl 35 v3),(V.sl 32 v4)] (fun v47 v48 v49 v50 v51 v52 v53 v54 =>
 ifb ((v8:Int) != (-1:Int)) (
 chk (0+32≤(List.length p2)) (
 xn β L p3 p4 (fun v55 =>
 chk ((List.length (List.take 32 p2))=32∧0+32≤35) (
 chk (1=1∧32+1≤(List.length (zc (List.replicate 32 (V.sc (.int .u8 (0:Int)))++[(V.sc (.int .i64 (0:Int))),(V.sc (.int .i64 (0:Int))),(V.sc (.int .u32 (0:Int)))]) 0 (List.take 32 p2)))) (
 chk (1=1∧33+1≤(List.length (zc (zc (List.replicate 32 (V.sc (.int .u8 (0:Int)))++[(V.sc (.int .i64 (0:Int))),(V.sc (.int .i64 (0:Int))),(V.sc (.int .u32 (0:Int)))]) 0 (List.take 32 p2)) 32 [(V.sc (.int .i64 p1))]))) (
 chk (1=1∧34+1≤(List.length (zc (zc (zc (List.replicate 32 (V.sc (.int .u8 (0:Int)))++[(V.sc (.int .i64 (0:Int))),(V.sc (.int .i64 (0:Int))),(V.sc (.int .u32 (0:Int)))]) 0 (List.take 32 p2)) 32 [(V.sc (.int .i64 p1))]) 33 [(V.sc (.int .i64 v8))]))) (
 chk ((List.length (zc (zc (zc (zc (List.replicate 32 (V.sc (.int .u8 (0:Int)))++[(V.sc (.int .i64 (0:Int))),(V.sc (.int .i64 (0:Int))),(V.sc (.int .u32 (0:Int)))]) 0 (List.take 32 p2)) 32 [(V.sc (.int .i64 p1))]) 33 [(V.sc (.int .i64 v8))]) 34 [(V.sc (.int .u32 v55))]))=35∧0+35≤35) (
 chk ((v50+List.length (xc 35 1 (zc (List.replicate 32 (V.sc (.int .u8 (0:Int)))++[(V.sc (.int .i64 (0:Int))),(V.sc (.int .i64 (0:Int))),(V.sc (.int .u32 (0:Int)))]) 0 (zc (zc (zc (zc (List.replicate 32 (V.sc (.int .u8 (0:Int)))++[(V.sc (.int .i64 (0:Int))),(V.sc (.int .i64 (0:Int))),(V.sc (.int .u32 (0:Int)))]) 0 (List.take 32 p2)) 32 [(V.sc (.int .i64 p1))]) 33 [(V.sc (.int .i64 v8))]) 34 [(V.sc (.int .u32 v55))])))) * 56≤zj∧(v50+List.length (xc 35 1 (zc (List.replicate 32 (V.sc (.int .u8 (0:Int)))++[(V.sc (.int .i64 (0:Int))),(V.sc (.int .i64 (0:Int))),(V.sc (.int .u32 (0:Int)))]) 0 (zc (zc (zc (zc (List.replicate 32 (V.sc (.int .u8 (0:Int)))++[(V.sc (.int .i64 (0:Int))),(V.sc (.int .i64 (0:Int))),(V.sc (.int .u32 (0:Int)))]) 0 (List.take 32 p2)) 32 [(V.sc (.int .i64 p1))]) 33 [(V.sc (.int .i64 v8))]) 34 [(V.sc (.int .u32 v55))]))))≤zj∧((v50+List.length (xc 35 1 (zc (List.replicate 32 (V.sc (.int .u8 (0:Int)))++[(V.sc (.int .i64 (0:Int))),(V.sc (.int .i64 (0:Int))),(V.sc (.int .u32 (0:Int)))]) 0 (zc (zc (zc (zc (List.replicate 32 (V.sc (.int .u8 (0:Int)))++[(V.sc (.int .i64 (0:Int))),(V.sc (.int .i64 (0:Int))),(V.sc (.int .u32 (0:Int)))]) 0 (List.take 32 p2)) 32 [(V.sc (.int .i64 p1))]) 33 [(V.sc (.int .i64 v8))]) 34 [(V.sc (.int .u32 v55))]))))≠0∨(List.length v53)=0)) (
 lt (List.take (v50 * 35) v53++List.flatten (xc 35 1 (zc (List.replicate 32 (V.sc (.int .u8 (0:Int)))++[(V.sc (.int .i64 (0:Int))),(V.sc (.int .i64 (0:Int))),(V.sc (.int .u32 (0:Int)))]) 0 (zc (zc (zc (zc (List.replicate 32 (V.sc (.int .u8 (0:Int)))++[(V.sc (.int .i64 (0:Int))),(V.sc (.int .i64 (0:Int))),(V.sc (.int .u32 (0:Int)))]) 0 (List.take 32 p2)) 32 [(V.sc (.int .i64 p1))]) 33 [(V.sc (.int .i64 v8))]) 34 [(V.sc (.int .u32 v55))])))) fun r56 =>
 k_fin [(V.sc (.int .u32 v47)),(V.sc (.bool v48)),(V.sl 1 (xc 1 v49 v52)),(V.sl 35 (xc 35 (v50+List.length (xc 35 1 (zc (List.replicate 32 (V.sc (.int .u8 (0:Int)))++[(V.sc (.int .i64 (0:Int))),(V.sc (.int .i64 (0:Int))),(V.sc (.int .u32 (0:Int)))]) 0 (zc (zc (zc (zc (List.replicate 32 (V.sc (.int .u8 (0:Int)))++[(V.sc (.int .i64 (0:Int))),(V.sc (.int .i64 (0:Int))),(V.sc (.int .u32 (0:Int)))]) 0 (List.take 32 p2)) 32 [(V.sc (.int .i64 p1))]) 33 [(V.sc (.int .i64 v8))]) 34 [(V.sc (.int .u32 v55))])))) r56)),(V.sl 32 (xc 32 v51 v54))] v8 (0:Int)))))))))) (
 k_fin [(V.sc (.int .u32 v47)),(V.sc (.bool v48)),(V.sl 1 (xc 1 v49 v52)),(V.sl 35 (xc 35 v50 v53)),(V.sl 32 (xc 32 v51 v54))] v8 (0:Int))))))))))))))))
abbrev yz:=∀ (β:Type),Nat→List V→Int→List V→Int→Int→(List V→Int→Int→Option β)→Option β
def yi (β:Type) (L:Nat) (p0:List V) (p1:Int) (p2:List V) (p3 p4:Int) (k_fin:List V→Int→Int→Option β):Option β:=zsp ym zcP yu yd zl xn L p0 p1 p2 p3 p4 k_fin
def zsj (yi:yz) (L:Nat) (β:Type) (args:List V) (bor:Bor) (k:KK β):Option β:=match args,bor with
 | [a0,a1,a2,a3,a4],[]=>aG a0 fun p0=>aI .i64 a1 fun p1=>aG a2 fun p2=>aI .u32 a3 fun p3=>aI .u32 a4 fun p4=>yi β L p0 p1 p2 p3 p4 (fun zE0 zE1 zFn=>k (V.tup [(V.agg zE0),(V.sc (.int .i64 zE1)),(V.sc (.int .i64 zFn))]) [])
 | _,_=>none
end
end Go.Proofs.Ytpbbfpfmdckclaa
