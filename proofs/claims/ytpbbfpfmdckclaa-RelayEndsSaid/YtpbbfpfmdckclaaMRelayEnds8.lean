/- Part 8 of the proof of RelayEnds: an abstract machine over plain values, its soundness, and the functions of the program on plain values. -/
import Derived.Test.YtpbbfpfmdckclaaRows
import Derived.Test.YtpbbfpfmdckclaaMRelayEnds7
namespace Go.Proofs.Ytpbbfpfmdckclaa
section
set_option maxRecDepth 100000
set_option linter.unusedVariables false
set_option linter.unusedSimpArgs false
def zcD:CC:=(.seq (.seq (.reg [oo 41 (.move (tq 10) false),
   oo 42 (.bin .geq (tq 41) (.const (.sc (.int .i64 0)))),
   oo 43 (.move (tq 42) false),
   ⟨(some 44),false,(some (43,true)),.move (tq 10) false⟩,
   ⟨(some 45),false,(some (43,true)),.move (tq 7) false⟩,
   ⟨(some 46),false,(some (43,true)),.bin .lss (tq 44) (tq 45)⟩,
   oo 47 (.pick (tq 43) (tq 46) (.const (.sc (.bool false)))),
   oo 48 (.move (tq 47) false),
   ⟨(some 49),false,(some (48,true)),.move (tq 8) false⟩,
   ⟨(some 50),false,(some (48,true)),.move (tq 10) false⟩,
   ⟨(some 51),false,(some (48,true)),.indexAddrS 1 (tq 49) (tq 50)⟩,
   ⟨(some 52),false,(some (48,true)),.load false 1 (tq 51) false⟩,
   ⟨(some 53),false,(some (48,true)),.un .not (tq 52)⟩,
   oo 54 (.pick (tq 48) (tq 53) (.const (.sc (.bool false))))])
 (.cond (tq 54)
 .skip
 (.seq (.mask (bl 512 71) (bl 2305843009213693950975 71))
 (.exit 0))))
 (.seq (.block 1 (.seq (.reg [oo 59 (.move (tq 8) false),
   oo 60 (.move (tq 10) false),
   oo 61 (.indexAddrS 1 (tq 59) (tq 60)),
   oz (.store 1 (tq 61) (.const (.sc (.bool true))))])
 (.seq (.reg [oo 62 (.move (tq 9) true),
   oo 63 (.move (tq 10) false),
   oo 64 (.buildSlice 1 1 [(.sc (.int .i64 0))] [(0,1,(tq 63))]),
   oo 65 (.append 1 8 (tq 62) (tq 64)),
   oo 9 (.move (tq 65) true)])
 (.seq (.reg [oo 66 (.move (tq 1) false),
   oo 67 (.move (tq 10) false),
   oo 68 (.indexAddrS 1 (tq 66) (tq 67)),
   oo 69 (.load false 1 (tq 68) false)])
 (.cond (tq 69)
 (.seq (.mask (bl 512 71) (bl 2305843009213693950975 71))
 (.exit 0))
 .skip)))))
 (.reg [oo 55 (.move (tq 0) false),
   oo 56 (.move (tq 10) false),
   oo 57 (.indexAddrS 1 (tq 55) (tq 56)),
   oo 58 (.load false 1 (tq 57) false),
   oo 10 (.move (tq 58) false)])))
def zgh:CC:=(.seq (.reg [oo 70 (.move (tq 9) true),
   oo 6 (.move (tq 70) true)])
 .ret)
def zdS:CF:=⟨71,[.tmp 6],
 (.seq (.reg [oo 6 (.move (.const (.gs 1 [])) true)])
 (.seq (.reg [oo 11 (.move (tq 0) false),
   oo 12 (.lenS (tq 11)),
   oo 7 (.move (tq 12) false)])
 (.seq (.seq (.reg [oo 13 (.move (tq 7) false),
   oo 14 (.move (tq 1) false),
   oo 15 (.lenS (tq 14)),
   oo 16 (.bin .neq (tq 13) (tq 15)),
   oo 17 (.move (tq 16) false),
   ⟨(some 18),false,(some (17,false)),.move (tq 7) false⟩,
   ⟨(some 19),false,(some (17,false)),.bin .gtr (tq 18) (.const (.sc (.int .i64 64)))⟩,
   oo 20 (.pick (tq 17) (.const (.sc (.bool true))) (tq 19)),
   oo 21 (.move (tq 20) false),
   ⟨(some 22),false,(some (21,false)),.move (tq 2) false⟩,
   ⟨(some 23),false,(some (21,false)),.bin .lss (tq 22) (.const (.sc (.int .i64 0)))⟩,
   oo 24 (.pick (tq 21) (.const (.sc (.bool true))) (tq 23)),
   oo 25 (.move (tq 24) false),
   ⟨(some 26),false,(some (25,false)),.move (tq 2) false⟩,
   ⟨(some 27),false,(some (25,false)),.move (tq 7) false⟩,
   ⟨(some 28),false,(some (25,false)),.bin .geq (tq 26) (tq 27)⟩,
   oo 29 (.pick (tq 25) (.const (.sc (.bool true))) (tq 28))])
 (.cond (tq 29)
 (.seq (.reg [oo 6 (.move (.const (.gs 1 [])) true)])
 .ret)
 .skip))
 (.seq (.reg [oo 30 (.move (tq 7) false),
   ⟨(some 31),true,none,.makeSlice 1 1 [(.sc (.bool false))] (tq 30) (tq 30)⟩,
   oo 8 (.move (tq 31) false)])
 (.seq (.reg [oo 32 (.move (tq 8) false),
   oo 33 (.move (tq 2) false),
   oo 34 (.indexAddrS 1 (tq 32) (tq 33)),
   oz (.store 1 (tq 34) (.const (.sc (.bool true))))])
 (.seq (.reg [oo 35 (.move (tq 2) false),
   oo 36 (.buildSlice 1 1 [(.sc (.int .i64 0))] [(0,1,(tq 35))]),
   oo 9 (.move (tq 36) true)])
 (.seq (.seq (.reg [oo 37 (.move (tq 0) false),
   oo 38 (.move (tq 2) false),
   oo 39 (.indexAddrS 1 (tq 37) (tq 38)),
   oo 40 (.load false 1 (tq 39) false),
   oo 10 (.move (tq 40) false)])
 (.block 0 (.loop (bl 1923 71) (bl 2305843009213693951999 71)
 zcD)))
 zgh)))))))⟩
def zmu:Hint:=⟨[(0,0),(3,0),(6,2),(11,0),(11,4),(13,0),(13,1)],[(4,1)],[none,none,none,some ((bl 1923 71),(bl 2305843009213693951999 71)),none,some ((bl 512 71),(bl 2305843009213693950975 71)),none,none,some ((bl 512 71),(bl 2305843009213693950975 71)),none],[],[],false,false⟩
def zb4:Nat→Sh:=zay [(40,(.int .i64)),(52,.bool),(69,.bool),(58,(.int .i64))]
def zb7 (L:Nat):CBC:=noC
def zdP:St→St:=zab 0 (bl 1923 71) (bl 2305843009213693951999 71)
def zc3 (p0 p1:List (List V)) (p7:Int) (p8l:Nat) (p9:List (List V)) (p10:Int) (b31:List V):St:=⟨((V.sl 1 p0)::((V.sl 1 p1)::(jn 5 ((V.sc (.int .i64 p7))::((V.own 31 0 p8l 1)::((V.gs 1 p9)::((V.sc (.int .i64 p10))::(jn 60 [])))))))),(gn 31 ((.live true b31)::(gn 39 [])))⟩
def zij (p9:List (List V)) (b31:List V):St:=⟨(jn 9 ((V.gs 1 p9)::(jn 61 []))),(gn 31 ((.live true b31)::(gn 39 [])))⟩
abbrev zhQ (β:Type):Type:=List (List V)→List (List V)→Int→Nat→List (List V)→Int→List V→Option β
def zpc {β:Type} (L:Nat) (p0 p1:List (List V)) (p2:Int) (k_fin:List (List V)→Option β) (k_hbbbbbbaba:zhQ β):Option β :=
 ifb ((((List.length p0:Nat):Int):Int) != ((List.length p1:Nat):Int)) (
 k_fin ([]:List (List V))) (
 ifb (decide (((List.length p0:Nat):Int) > (64:Int))) (
 k_fin ([]:List (List V))) (
 ifb (decide (p2 < (0:Int))) (
 k_fin ([]:List (List V))) (
 ifb (decide (p2 ≥ ((List.length p0:Nat):Int))) (
 k_fin ([]:List (List V))) (
 chk (0≤((List.length p0:Nat):Int)∧((List.length p0:Nat):Int)≤((List.length p0:Nat):Int)∧(Int.toNat ((List.length p0:Nat):Int)) * 1≤yi∧((List.length p0:Nat):Int)≤yi) (
 chk (0≤p2∧p2 < (((Int.toNat ((List.length p0:Nat):Int)):Nat):Int)) (
 chk (1=1∧(0+((Int.toNat p2) * 1))+1≤(List.length (List.flatten (List.replicate (Int.toNat ((List.length p0:Nat):Int)) [(V.sc (.bool false))])))) (
 lt (ya (List.flatten (List.replicate (Int.toNat ((List.length p0:Nat):Int)) [(V.sc (.bool false))])) (0+((Int.toNat p2) * 1)) [(V.sc (.bool true))]) fun r0 =>
 idx p0 p2 fun c1 =>
 cI .i64 c1 0 fun v2 =>
 k_hbbbbbbaba p0 p1 ((List.length p0:Nat):Int) (Int.toNat ((List.length p0:Nat):Int)) (xb 1 1 [(V.sc (.int .i64 p2))]) v2 r0)))))))
theorem zsC {β:Type} (L:Nat) (p0 p1:List (List V)) (p2:Int) (k:KK β):xH zb4 (zb7 L) L zdS [(V.sl 1 p0),(V.sl 1 p1),(V.sc (.int .i64 p2))] [] k=zpc L p0 p1 p2 (fun p0=>k (V.gs 1 p0) []) (fun p0 p1 p7 p8l p9 p10 b31=>yR (yu zb4 (zb7 L) 0 L zcD) zdP L (zc3 p0 p1 p7 p8l p9 p10 b31) (yH 0 (zaC (yu zb4 (zb7 L) 0 L zgh) (za1 0 (CF.res zdS) k)))):=by kernel_rfl
def ziq {β:Type} (L:Nat) (p0 p1:List (List V)) (p7:Int) (p8l:Nat) (p9:List (List V)) (p10:Int) (b31:List V) (k_x0:List (List V)→List V→Option β) (k_hbbbbbbaba:zhQ β):Option β :=
 ifb (decide (p10 ≥ (0:Int))) (
 ifb (decide (p10 < p7)) (
 chk (0≤p10∧p10 < ((p8l:Nat):Int)) (
 cB b31 (0+((Int.toNat p10) * 1)) fun v3 =>
 ifb (!v3) (
 chk (0≤p10∧p10 < ((p8l:Nat):Int)) (
 chk (1=1∧(0+((Int.toNat p10) * 1))+1≤(List.length b31)) (
 lt (ya b31 (0+((Int.toNat p10) * 1)) [(V.sc (.bool true))]) fun r4 =>
 chk ((List.length p9+List.length (xb 1 1 [(V.sc (.int .i64 p10))])) * 8≤yi∧List.length p9+List.length (xb 1 1 [(V.sc (.int .i64 p10))])≤yi) (
 lt (p9++(xb 1 1 [(V.sc (.int .i64 p10))])) fun l5 =>
 idx p1 p10 fun c6 =>
 cB c6 0 fun v7 =>
 ifb v7 (
 k_x0 l5 r4) (
 idx p0 p10 fun c8 =>
 cI .i64 c8 0 fun v9 =>
 k_hbbbbbbaba p0 p1 p7 p8l l5 v9 r4))))) (
 k_x0 p9 b31))) (
 k_x0 p9 b31)) (
 k_x0 p9 b31)
theorem zlH {β:Type} (L:Nat) (p0 p1:List (List V)) (p7:Int) (p8l:Nat) (p9:List (List V)) (p10:Int) (b31:List V) (X:St→Option β) (K:KT β):yu zb4 (zb7 L) 0 L zcD (zc3 p0 p1 p7 p8l p9 p10 b31) (zdL zdP X K)=ziq L p0 p1 p7 p8l p9 p10 b31 (fun p9 b31=>K (.exit 0) (zij p9 b31)) (fun p0 p1 p7 p8l p9 p10 b31=>X (zc3 p0 p1 p7 p8l p9 p10 b31)):=by kernel_rfl
def zhu {β:Type} (L:Nat) (p9:List (List V)) (b31:List V) (k_fin:List (List V)→Option β):Option β :=
 k_fin p9
theorem zkK {β:Type} (L:Nat) (p9:List (List V)) (b31:List V) (k:KK β):(yH 0 (zaC (yu zb4 (zb7 L) 0 L zgh) (za1 0 (CF.res zdS) k))) (.exit 0) (zij p9 b31)=zhu L p9 b31 (fun p0=>k (V.gs 1 p0) []):=by kernel_rfl
def zfi {β:Type} (L:Nat) (k_x0:List (List V)→List V→Option β):Nat→List (List V)→List (List V)→Int→Nat→List (List V)→Int→List V→Option β
 | 0,_,_,_,_,_,_,_=>none
 | n+1,p0,p1,p7,p8l,p9,p10,b31=>ziq L p0 p1 p7 p8l p9 p10 b31 k_x0 (fun p0 p1 p7 p8l p9 p10 b31=>zfi L k_x0 n p0 p1 p7 p8l p9 p10 b31)
theorem zgV {β:Type} (L:Nat) (K:KT β):∀ (n:Nat) (p0 p1:List (List V)) (p7:Int) (p8l:Nat) (p9:List (List V)) (p10:Int) (b31:List V),yR (yu zb4 (zb7 L) 0 L zcD) zdP n (zc3 p0 p1 p7 p8l p9 p10 b31) K=zfi L (fun p9 b31=>K (.exit 0) (zij p9 b31)) n p0 p1 p7 p8l p9 p10 b31:=by
 intro n
 induction n with
 | zero=>intros; rfl
 | succ n ih =>
  intro p0 p1 p7 p8l p9 p10 b31
  refine (zlH L p0 p1 p7 p8l p9 p10 b31 (fun σ=>yR (yu zb4 (zb7 L) 0 L zcD) zdP n σ K) K).trans ?_
  simp only [ih]
  rfl
def zlL {β:Type} (L:Nat) (p0 p1:List (List V)) (p2:Int) (k_fin:List (List V)→Option β):Option β :=
 zpc L p0 p1 p2 k_fin (fun p0 p1 p7 p8l p9 p10 b31=>zfi L (fun p9 b31=>zhu L p9 b31 k_fin) L p0 p1 p7 p8l p9 p10 b31)
theorem zsE {β:Type} (L:Nat) (p0 p1:List (List V)) (p2:Int) (k:KK β):xH zb4 (zb7 L) L zdS [(V.sl 1 p0),(V.sl 1 p1),(V.sc (.int .i64 p2))] [] k=zlL L p0 p1 p2 (fun p0=>k (V.gs 1 p0) []):=by
 refine (zsC L p0 p1 p2 k).trans ?_
 unfold zlL
 first
  | (simp only [zgV,zkK]; done)
  | (simp only [zgV]; rfl)
abbrev ziW:=∀ (β:Type),Nat→List (List V)→List (List V)→Int→(List (List V)→Option β)→Option β
def zaD (β:Type) (L:Nat) (p0 p1:List (List V)) (p2:Int) (k_fin:List (List V)→Option β):Option β:=zlL L p0 p1 p2 k_fin
def ziR (zaD:ziW) (L:Nat) (β:Type) (args:List V) (bor:Bor) (k:KK β):Option β:=match args,bor with
 | [a0,a1,a2],[]=>aL 1 a0 fun p0=>aL 1 a1 fun p1=>aI .i64 a2 fun p2=>zaD β L p0 p1 p2 (fun p0=>k (V.gs 1 p0) [])
 | _,_=>none
theorem zsd (L:Nat) (β:Type) (args:List V) (bor:Bor) (k:KK β) (r:β) (h:ziR zaD L β args bor k=some r):xH zb4 (zb7 L) L zdS args bor k=some r:=by
 unfold ziR at h
 split at h
 ·have q:=zb0 h; clear h; obtain ⟨p0,rfl,h⟩:=q
  have q:=zb0 h; clear h; obtain ⟨p1,rfl,h⟩:=q
  have q:=zcp h; clear h; obtain ⟨p2,rfl,h⟩:=q
  exact (zsE L p0 p1 p2 k).trans h
 ·cases h
def zd3:CC:=(.seq (.reg [oo 11 (.bin .lss (tq 10) (tq 9))])
 (.seq (.cond (tq 11)
 .skip
 (.seq (.mask (bl 0 40) (bl 1099494850319 40))
 (.exit 0)))
 (.seq (.block 1 (.seq (.reg [oo 12 (.move (tq 10) false),
   oo 13 (.indexAddrS 1 (tq 8) (tq 10)),
   oo 14 (.load false 1 (tq 13) false),
   oo 6 (.move (tq 12) false),
   oo 7 (.move (tq 14) false)])
 (.seq (.reg [oo 15 (.move (tq 6) false),
   oo 16 (.bin .gtr (tq 15) (.const (.sc (.int .i64 0)))),
   oo 17 (.move (tq 16) false),
   ⟨(some 18),false,(some (17,true)),.move (tq 7) false⟩,
   ⟨(some 19),false,(some (17,true)),.bin .geq (tq 18) (.const (.sc (.int .i64 0)))⟩,
   oo 20 (.pick (tq 17) (tq 19) (.const (.sc (.bool false)))),
   oo 21 (.move (tq 20) false),
   ⟨(some 22),false,(some (21,true)),.move (tq 7) false⟩,
   ⟨(some 23),false,(some (21,true)),.move (tq 1) false⟩,
   ⟨(some 24),false,(some (21,true)),.lenS (tq 23)⟩,
   ⟨(some 25),false,(some (21,true)),.bin .lss (tq 22) (tq 24)⟩,
   oo 26 (.pick (tq 21) (tq 25) (.const (.sc (.bool false)))),
   oo 27 (.move (tq 26) false),
   ⟨(some 28),false,(some (27,true)),.move (tq 1) false⟩,
   ⟨(some 29),false,(some (27,true)),.move (tq 7) false⟩,
   ⟨(some 30),false,(some (27,true)),.indexAddrS 1 (tq 28) (tq 29)⟩,
   ⟨(some 31),false,(some (27,true)),.load false 1 (tq 30) false⟩,
   oo 32 (.pick (tq 27) (tq 31) (.const (.sc (.bool false))))])
 (.cond (tq 32)
 (.seq (.dreg [] [(oo 33 (.move (tq 6) false),q0),
   (oo 34 (.move (tq 0) false),q0),
   (oo 35 (.move (tq 6) false),q0),
   (oo 36 (.bin .sub (tq 35) (.const (.sc (.int .i64 1)))),q0),
   (oo 37 (.indexAddrS 1 (tq 34) (tq 36)),q0),
   (oo 38 (.load false 1 (tq 37) false),q0),
   (oo 4 (.move (tq 33) false),q0),
   (oo 5 (.move (tq 38) false),q0)])
 (.seq (.mask (bl 48 40) (bl 1099494850367 40))
 .ret))
 .skip))))
 (.reg [oo 39 (.bin .add (tq 10) (.const (.sc (.int .i64 1)))),
   oo 10 (.move (tq 39) false)]))))
def zhe:CC:=(.seq (.reg [oo 4 (.move (.const (.sc (.int .i64 (-1)))) false),
   oo 5 (.move (.const (.sc (.int .i64 (-1)))) false)])
 .ret)
def zdg:CF:=⟨40,[.tmp 4,.tmp 5],
 (.seq (.reg [oo 4 (.move (.const (.sc (.int .i64 0))) false),
   oo 5 (.move (.const (.sc (.int .i64 0))) false)])
 (.seq (.seq (.reg [oo 8 (.move (tq 0) false),
   oo 9 (.lenS (tq 8)),
   oo 10 (.move (.const (.sc (.int .i64 0))) false)])
 (.block 0 (.loop (bl 1795 40) (bl 1099494850319 40)
 zd3)))
 zhe))⟩
def zmx:Hint:=⟨[],[],[none,some ((bl 1795 40),(bl 1099494850319 40)),none,some ((bl 0 40),(bl 1099494850319 40)),none,none,some ((bl 48 40),(bl 1099494850367 40)),none],[],[],false,false⟩
def zbK:Nat→Sh:=zay [(14,(.int .i64)),(31,.bool),(38,(.int .i64))]
def zbJ (L:Nat):CBC:=noC
def zfW:St→St:=zab 0 (bl 1795 40) (bl 1099494850319 40)
def zez (p0 p1 p8:List (List V)) (p9 p10:Int):St:=⟨((V.sl 1 p0)::((V.sl 1 p1)::(jn 6 ((V.sl 1 p8)::((V.sc (.int .i64 p9))::((V.sc (.int .i64 p10))::(jn 29 []))))))),(gn 40 [])⟩
def zhy (p4 p5:Int):St:=⟨(jn 4 ((V.sc (.int .i64 p4))::((V.sc (.int .i64 p5))::(jn 34 [])))),(gn 40 [])⟩
def zh9:St:=⟨(jn 40 []),(gn 40 [])⟩
abbrev zlb (β:Type):Type:=List (List V)→List (List V)→List (List V)→Int→Int→Option β
def zp0 {β:Type} (L:Nat) (p0 p1:List (List V)) (k_hbaba:zlb β):Option β :=
 k_hbaba p0 p1 p0 ((List.length p0:Nat):Int) (0:Int)
theorem zr2 {β:Type} (L:Nat) (p0 p1:List (List V)) (k:KK β):xH zbK (zbJ L) L zdg [(V.sl 1 p0),(V.sl 1 p1)] [] k=zp0 L p0 p1 (fun p0 p1 p8 p9 p10=>yR (yu zbK (zbJ L) 0 L zd3) zfW L (zez p0 p1 p8 p9 p10) (yH 0 (zaC (yu zbK (zbJ L) 0 L zhe) (za1 0 (CF.res zdg) k)))):=by kernel_rfl
def zl4 {β:Type} (L:Nat) (p0 p1 p8:List (List V)) (p9 p10:Int) (k_ret:Int→Int→Option β) (k_hbaba:zlb β) (k_x0:Option β):Option β :=
 ifb (decide (p10 < p9)) (
 idx p8 p10 fun c0 =>
 cI .i64 c0 0 fun v1 =>
 ifb (decide (p10 > (0:Int))) (
 ifb (decide (v1 ≥ (0:Int))) (
 ifb (decide (v1 < ((List.length p1:Nat):Int))) (
 idx p1 v1 fun c2 =>
 cB c2 0 fun v3 =>
 ifb v3 (
 lt (IntKind.wrap .i64 ((p10:Int) - (1:Int))) fun x4 =>
 idx p0 x4 fun c5 =>
 cI .i64 c5 0 fun v6 =>
 k_ret p10 v6) (
 lt (IntKind.wrap .i64 ((p10:Int)+(1:Int))) fun x7 =>
 k_hbaba p0 p1 p8 p9 x7)) (
 lt (IntKind.wrap .i64 ((p10:Int)+(1:Int))) fun x8 =>
 k_hbaba p0 p1 p8 p9 x8)) (
 lt (IntKind.wrap .i64 ((p10:Int)+(1:Int))) fun x9 =>
 k_hbaba p0 p1 p8 p9 x9)) (
 lt (IntKind.wrap .i64 ((p10:Int)+(1:Int))) fun x10 =>
 k_hbaba p0 p1 p8 p9 x10)) (
 k_x0)
theorem zoQ {β:Type} (L:Nat) (p0 p1 p8:List (List V)) (p9 p10:Int) (X:St→Option β) (K:KT β):yu zbK (zbJ L) 0 L zd3 (zez p0 p1 p8 p9 p10) (zdL zfW X K)=zl4 L p0 p1 p8 p9 p10 (fun p4 p5=>K .ret (zhy p4 p5)) (fun p0 p1 p8 p9 p10=>X (zez p0 p1 p8 p9 p10)) (K (.exit 0) (zh9)):=by kernel_rfl
def zjB {β:Type} (L:Nat) (p4 p5:Int) (k_fin:Int→Int→Option β):Option β :=
 k_fin p4 p5
theorem zmZ {β:Type} (L:Nat) (p4 p5:Int) (k:KK β):(yH 0 (zaC (yu zbK (zbJ L) 0 L zhe) (za1 0 (CF.res zdg) k))) .ret (zhy p4 p5)=zjB L p4 p5 (fun zBO zBP=>k (V.tup [(V.sc (.int .i64 zBO)),(V.sc (.int .i64 zBP))]) []):=by kernel_rfl
def zkl {β:Type} (L:Nat) (k_fin:Int→Int→Option β):Option β :=
 k_fin (-1:Int) (-1:Int)
theorem znF {β:Type} (L:Nat) (k:KK β):(yH 0 (zaC (yu zbK (zbJ L) 0 L zhe) (za1 0 (CF.res zdg) k))) (.exit 0) (zh9)=zkl L (fun zBO zBP=>k (V.tup [(V.sc (.int .i64 zBO)),(V.sc (.int .i64 zBP))]) []):=by kernel_rfl
def zh5 {β:Type} (L:Nat) (k_ret:Int→Int→Option β) (k_x0:Option β):Nat→List (List V)→List (List V)→List (List V)→Int→Int→Option β
 | 0,_,_,_,_,_=>none
 | n+1,p0,p1,p8,p9,p10=>zl4 L p0 p1 p8 p9 p10 k_ret (fun p0 p1 p8 p9 p10=>zh5 L k_ret k_x0 n p0 p1 p8 p9 p10) k_x0
theorem zjv {β:Type} (L:Nat) (K:KT β):∀ (n:Nat) (p0 p1 p8:List (List V)) (p9 p10:Int),yR (yu zbK (zbJ L) 0 L zd3) zfW n (zez p0 p1 p8 p9 p10) K=zh5 L (fun p4 p5=>K .ret (zhy p4 p5)) (K (.exit 0) (zh9)) n p0 p1 p8 p9 p10:=by
 intro n
 induction n with
 | zero=>intros; rfl
 | succ n ih =>
  intro p0 p1 p8 p9 p10
  refine (zoQ L p0 p1 p8 p9 p10 (fun σ=>yR (yu zbK (zbJ L) 0 L zd3) zfW n σ K) K).trans ?_
  simp only [ih]
  rfl
def zl7 {β:Type} (L:Nat) (p0 p1:List (List V)) (k_fin:Int→Int→Option β):Option β :=
 zp0 L p0 p1 (fun p0 p1 p8 p9 p10=>zh5 L (fun p4 p5=>zjB L p4 p5 k_fin) (zkl L k_fin) L p0 p1 p8 p9 p10)
theorem zr3 {β:Type} (L:Nat) (p0 p1:List (List V)) (k:KK β):xH zbK (zbJ L) L zdg [(V.sl 1 p0),(V.sl 1 p1)] [] k=zl7 L p0 p1 (fun zBO zBP=>k (V.tup [(V.sc (.int .i64 zBO)),(V.sc (.int .i64 zBP))]) []):=by
 refine (zr2 L p0 p1 k).trans ?_
 unfold zl7
 first
  | (simp only [zjv,zmZ,znF]; done)
  | (simp only [zjv]; rfl)
abbrev zjs:=∀ (β:Type),Nat→List (List V)→List (List V)→(Int→Int→Option β)→Option β
def zaB (β:Type) (L:Nat) (p0 p1:List (List V)) (k_fin:Int→Int→Option β):Option β:=zl7 L p0 p1 k_fin
def ziO (zaB:zjs) (L:Nat) (β:Type) (args:List V) (bor:Bor) (k:KK β):Option β:=match args,bor with
 | [a0,a1],[]=>aL 1 a0 fun p0=>aL 1 a1 fun p1=>zaB β L p0 p1 (fun zBO zBP=>k (V.tup [(V.sc (.int .i64 zBO)),(V.sc (.int .i64 zBP))]) [])
 | _,_=>none
theorem zrI (L:Nat) (β:Type) (args:List V) (bor:Bor) (k:KK β) (r:β) (h:ziO zaB L β args bor k=some r):xH zbK (zbJ L) L zdg args bor k=some r:=by
 unfold ziO at h
 split at h
 ·have q:=zb0 h; clear h; obtain ⟨p0,rfl,h⟩:=q
  have q:=zb0 h; clear h; obtain ⟨p1,rfl,h⟩:=q
  exact (zr3 L p0 p1 k).trans h
 ·cases h
def zcH:CC:=(.seq (.seq (.reg [oo 11 (.move (tq 5) false),
   oo 12 (.move (tq 0) false),
   oo 13 (.lenS (tq 12)),
   oo 14 (.bin .lss (tq 11) (tq 13))])
 (.cond (tq 14)
 .skip
 (.seq (.mask (bl 0 26) (bl 67100623 26))
 (.exit 0))))
 (.seq (.block 1 (.seq (.dreg [] [(oo 17 (.move (tq 0) false),q0),
   (oo 18 (.move (tq 5) false),q0),
   (oo 19 (.indexAddrS 1 (tq 17) (tq 18)),q0),
   (oo 20 (.load false 1 (tq 19) false),qc [] []),
   (oo 21 (.move (tq 1) false),q0),
   (oo 22 (.move (tq 5) false),q0),
   (oo 23 (.indexAddrS 1 (tq 21) (tq 22)),q0),
   (oo 24 (.load false 1 (tq 23) false),qc [] []),
   (oo 25 (.bin .neq (tq 20) (tq 24)),q0)])
 (.cond (tq 25)
 (.seq (.reg [oo 4 (.move (.const (.sc (.bool false))) false)])
 (.seq (.mask (bl 16 26) (bl 67100639 26))
 .ret))
 .skip)))
 (.reg [oo 15 (.move (tq 5) false),
   oo 16 (.bin .add (tq 15) (.const (.sc (.int .i64 1)))),
   oo 5 (.move (tq 16) false)])))
def zeD:CC:=(.seq (.reg [oo 4 (.move (.const (.sc (.bool true))) false)])
 .ret)
def zbN:CF:=⟨26,[.tmp 4],
 (.seq (.reg [oo 4 (.move (.const (.sc (.bool false))) false)])
 (.seq (.seq (.reg [oo 6 (.move (tq 0) false),
   oo 7 (.lenS (tq 6)),
   oo 8 (.move (tq 1) false),
   oo 9 (.lenS (tq 8)),
   oo 10 (.bin .neq (tq 7) (tq 9))])
 (.cond (tq 10)
 (.seq (.reg [oo 4 (.move (.const (.sc (.bool false))) false)])
 .ret)
 .skip))
 (.seq (.seq (.reg [oo 5 (.move (.const (.sc (.int .i64 0))) false)])
 (.block 0 (.loop (bl 35 26) (bl 67100655 26)
 zcH)))
 zeD)))⟩
def zjF:Hint:=⟨[],[],[none,none,none,some ((bl 35 26),(bl 67100655 26)),none,some ((bl 0 26),(bl 67100623 26)),none,none,some ((bl 16 26),(bl 67100639 26)),none],[],[],false,false⟩
def zaj:Nat→Sh:=zay [(20,(.int .i64)),(24,(.int .i64))]
def zah (L:Nat):CBC:=noC
def zdO:St→St:=zab 0 (bl 35 26) (bl 67100655 26)
def zc8 (p0 p1:List (List V)) (p5:Int):St:=⟨((V.sl 1 p0)::((V.sl 1 p1)::(jn 3 ((V.sc (.int .i64 p5))::(jn 20 []))))),(gn 26 [])⟩
def zfs (p4:Bool):St:=⟨(jn 4 ((V.sc (.bool p4))::(jn 21 []))),(gn 26 [])⟩
def zfP:St:=⟨(jn 26 []),(gn 26 [])⟩
def zik {β:Type} (L:Nat) (p0 p1:List (List V)) (k_fin:Bool→Option β) (k_hbbaba:List (List V)→List (List V)→Int→Option β):Option β :=
 ifb ((((List.length p0:Nat):Int):Int) != ((List.length p1:Nat):Int)) (
 k_fin false) (
 k_hbbaba p0 p1 (0:Int))
theorem zoT {β:Type} (L:Nat) (p0 p1:List (List V)) (k:KK β):xH zaj (zah L) L zbN [(V.sl 1 p0),(V.sl 1 p1)] [] k=zik L p0 p1 (fun p0=>k (V.sc (.bool p0)) []) (fun p0 p1 p5=>yR (yu zaj (zah L) 0 L zcH) zdO L (zc8 p0 p1 p5) (yH 0 (zaC (yu zaj (zah L) 0 L zeD) (za1 0 (CF.res zbN) k)))):=by kernel_rfl
def zfk {β:Type} (L:Nat) (p0 p1:List (List V)) (p5:Int) (k_ret:Bool→Option β) (k_hbbaba:List (List V)→List (List V)→Int→Option β) (k_x0:Option β):Option β :=
 ifb (decide (p5 < ((List.length p0:Nat):Int))) (
 idx p0 p5 fun c0 =>
 cI .i64 c0 0 fun v1 =>
 idx p1 p5 fun c2 =>
 cI .i64 c2 0 fun v3 =>
 ifb ((v1:Int) != v3) (
 k_ret false) (
 lt (IntKind.wrap .i64 ((p5:Int)+(1:Int))) fun x4 =>
 k_hbbaba p0 p1 x4)) (
 k_x0)
theorem zlK {β:Type} (L:Nat) (p0 p1:List (List V)) (p5:Int) (X:St→Option β) (K:KT β):yu zaj (zah L) 0 L zcH (zc8 p0 p1 p5) (zdL zdO X K)=zfk L p0 p1 p5 (fun p4=>K .ret (zfs p4)) (fun p0 p1 p5=>X (zc8 p0 p1 p5)) (K (.exit 0) (zfP)):=by kernel_rfl
def zgU {β:Type} (L:Nat) (p4:Bool) (k_fin:Bool→Option β):Option β :=
 k_fin p4
theorem zkC {β:Type} (L:Nat) (p4:Bool) (k:KK β):(yH 0 (zaC (yu zaj (zah L) 0 L zeD) (za1 0 (CF.res zbN) k))) .ret (zfs p4)=zgU L p4 (fun p0=>k (V.sc (.bool p0)) []):=by kernel_rfl
def zhs {β:Type} (L:Nat) (k_fin:Bool→Option β):Option β :=
 k_fin true
theorem zkS {β:Type} (L:Nat) (k:KK β):(yH 0 (zaC (yu zaj (zah L) 0 L zeD) (za1 0 (CF.res zbN) k))) (.exit 0) (zfP)=zhs L (fun p0=>k (V.sc (.bool p0)) []):=by kernel_rfl
def zcR {β:Type} (L:Nat) (k_ret:Bool→Option β) (k_x0:Option β):Nat→List (List V)→List (List V)→Int→Option β
 | 0,_,_,_=>none
 | n+1,p0,p1,p5=>zfk L p0 p1 p5 k_ret (fun p0 p1 p5=>zcR L k_ret k_x0 n p0 p1 p5) k_x0
theorem zg0 {β:Type} (L:Nat) (K:KT β):∀ (n:Nat) (p0 p1:List (List V)) (p5:Int),yR (yu zaj (zah L) 0 L zcH) zdO n (zc8 p0 p1 p5) K=zcR L (fun p4=>K .ret (zfs p4)) (K (.exit 0) (zfP)) n p0 p1 p5:=by
 intro n
 induction n with
 | zero=>intros; rfl
 | succ n ih =>
  intro p0 p1 p5
  refine (zlK L p0 p1 p5 (fun σ=>yR (yu zaj (zah L) 0 L zcH) zdO n σ K) K).trans ?_
  simp only [ih]
  rfl
def zfH {β:Type} (L:Nat) (p0 p1:List (List V)) (k_fin:Bool→Option β):Option β :=
 zik L p0 p1 k_fin (fun p0 p1 p5=>zcR L (fun p4=>zgU L p4 k_fin) (zhs L k_fin) L p0 p1 p5)
theorem zoV {β:Type} (L:Nat) (p0 p1:List (List V)) (k:KK β):xH zaj (zah L) L zbN [(V.sl 1 p0),(V.sl 1 p1)] [] k=zfH L p0 p1 (fun p0=>k (V.sc (.bool p0)) []):=by
 refine (zoT L p0 p1 k).trans ?_
 unfold zfH
 first
  | (simp only [zg0,zkC,zkS]; done)
  | (simp only [zg0]; rfl)
abbrev zaE:=∀ (β:Type),Nat→List (List V)→List (List V)→(Bool→Option β)→Option β
def zp (β:Type) (L:Nat) (p0 p1:List (List V)) (k_fin:Bool→Option β):Option β:=zfH L p0 p1 k_fin
def zeu (zp:zaE) (L:Nat) (β:Type) (args:List V) (bor:Bor) (k:KK β):Option β:=match args,bor with
 | [a0,a1],[]=>aL 1 a0 fun p0=>aL 1 a1 fun p1=>zp β L p0 p1 (fun p0=>k (V.sc (.bool p0)) [])
 | _,_=>none
theorem zoO (L:Nat) (β:Type) (args:List V) (bor:Bor) (k:KK β) (r:β) (h:zeu zp L β args bor k=some r):xH zaj (zah L) L zbN args bor k=some r:=by
 unfold zeu at h
 split at h
 ·have q:=zb0 h; clear h; obtain ⟨p0,rfl,h⟩:=q
  have q:=zb0 h; clear h; obtain ⟨p1,rfl,h⟩:=q
  exact (zoV L p0 p1 k).trans h
 ·cases h
def zh3:CF:=⟨24,[.tmp 0],
 (.seq (.reg [oo 0 (.move (.const (.sc (.bool false))) false)])
 (.seq (.reg [oo 4 (.buildSlice 1 4 [(.sc (.int .i64 0))] [(0,1,(.const (.sc (.int .i64 1)))),(1,1,(.const (.sc (.int .i64 2)))),(2,1,(.const (.sc (.int .i64 3)))),(3,1,(.const (.sc (.int .i64 (-1)))))]),
   oo 5 (.makeSlice 1 1 [(.sc (.bool false))] (.const (.sc (.int .i64 4))) (.const (.sc (.int .i64 4)))),
   oo 6 (.call 334 [((tq 4),0),((tq 5),0),((.const (.sc (.int .i64 0))),0)] []),
   oo 1 (.move (tq 6) false)])
 (.seq (.reg [oo 8 (.move (tq 1) false),
   oo 9 (.buildSlice 1 4 [(.sc (.bool false))] [(0,1,(.const (.sc (.bool false)))),(1,1,(.const (.sc (.bool false)))),(2,1,(.const (.sc (.bool true)))),(3,1,(.const (.sc (.bool false))))]),
   oo 10 (.call 336 [((tq 8),0),((tq 9),0)] []),
   oo 7 (.move (tq 10) true),
   oo 11 (.pull (tq 7) 0),
   oo 12 (.pull (tq 7) 1),
   oo 2 (.move (tq 11) false),
   oo 3 (.move (tq 12) false)])
 (.seq (.reg [oo 13 (.move (tq 1) false),
   oo 14 (.buildSlice 1 4 [(.sc (.int .i64 0))] [(0,1,(.const (.sc (.int .i64 0)))),(1,1,(.const (.sc (.int .i64 1)))),(2,1,(.const (.sc (.int .i64 2)))),(3,1,(.const (.sc (.int .i64 3))))]),
   oo 15 (.call 338 [((tq 13),0),((tq 14),0)] []),
   oo 16 (.move (tq 15) false),
   ⟨(some 17),false,(some (16,true)),.move (tq 2) false⟩,
   ⟨(some 18),false,(some (16,true)),.bin .eql (tq 17) (.const (.sc (.int .i64 2)))⟩,
   oo 19 (.pick (tq 16) (tq 18) (.const (.sc (.bool false)))),
   oo 20 (.move (tq 19) false),
   ⟨(some 21),false,(some (20,true)),.move (tq 3) false⟩,
   ⟨(some 22),false,(some (20,true)),.bin .eql (tq 21) (.const (.sc (.int .i64 1)))⟩,
   oo 23 (.pick (tq 20) (tq 22) (.const (.sc (.bool false)))),
   oo 0 (.move (tq 23) false)])
 .ret))))⟩
def zmM:Hint:=⟨[(2,3)],[],[none],[],[],false,false⟩
def zk5:Nat→Sh:=zay []
def zkZ (zaD:ziW) (zaB:zjs) (zp:zaE) (L:Nat):CBC:=(zI 338 (zeu zp L) (zI 336 (ziO zaB L) (zI 334 (ziR zaD L) noC)))
def zpr {β:Type} (zaD:ziW) (zaB:zjs) (zp:zaE) (L:Nat) (k_fin:Bool→Option β):Option β :=
 zaD β L (xb 1 4 [(V.sc (.int .i64 (1:Int))),(V.sc (.int .i64 (2:Int))),(V.sc (.int .i64 (3:Int))),(V.sc (.int .i64 (-1:Int)))]) (List.replicate 4 [(V.sc (.bool false))]) (0:Int) (fun v0 =>
 zaB β L v0 (xb 1 4 [(V.sc (.bool false)),(V.sc (.bool false)),(V.sc (.bool true)),(V.sc (.bool false))]) (fun v1 v2 =>
 zp β L v0 (xb 1 4 [(V.sc (.int .i64 (0:Int))),(V.sc (.int .i64 (1:Int))),(V.sc (.int .i64 (2:Int))),(V.sc (.int .i64 (3:Int)))]) (fun v3 =>
 ifb v3 (
 ifb ((v1:Int) == (2:Int)) (
 k_fin ((v2:Int) == (1:Int))) (
 k_fin false)) (
 k_fin false))))
theorem zrM {β:Type} (zaD:ziW) (zaB:zjs) (zp:zaE) (L:Nat) (k:KK β):xH zk5 (zkZ zaD zaB zp L) L zh3 [] [] k=zpr zaD zaB zp L (fun p0=>k (V.sc (.bool p0)) []):=by kernel_rfl
abbrev zi:=∀ (β:Type),Nat→(Bool→Option β)→Option β
def xa (β:Type) (L:Nat) (k_fin:Bool→Option β):Option β:=zpr zaD zaB zp L k_fin
def zfg (xa:zi) (L:Nat) (β:Type) (args:List V) (bor:Bor) (k:KK β):Option β:=match args,bor with
 | [],[]=>xa β L (fun p0=>k (V.sc (.bool p0)) [])
 | _,_=>none
theorem zr7 (L:Nat) (β:Type) (args:List V) (bor:Bor) (k:KK β) (r:β) (h:zfg xa L β args bor k=some r):xH zk5 (zkZ zaD zaB zp L) L zh3 args bor k=some r:=by
 unfold zfg at h
 split at h
 ·exact (zrM zaD zaB zp L k).trans h
 ·cases h
def zj3:CF:=⟨6,[.tmp 2],
 (.seq (.reg [oo 2 (.move (.const (.sc (.pointer none))) false)])
 (.seq (.reg [oo 3 (.move (tq 0) false),
   oo 4 (.build [(.sl 1 []),(.sc (.int .i64 0))] [(0,1,(tq 3))]),
   oo 5 (.box false (tq 4)),
   oo 2 (.move (tq 5) false)])
 .ret))⟩
def zos:Hint:=⟨[],[],[none],[],[],false,false⟩
def zmO:Nat→Sh:=zay []
def zm1 (L:Nat):CBC:=noC
def zn2 {β:Type} (L:Nat) (p0:List (List V)) (k_fin:List (List V)→Int→Option β):Option β :=
 k_fin p0 (0:Int)
theorem zud {β:Type} (L:Nat) (p0:List (List V)) (k:KK β):xH zmO (zm1 L) L zj3 [(V.sl 1 p0)] [] k=zn2 L p0 (fun zBO zBP=>k (V.bx false [(V.sl 1 zBO),(V.sc (.int .i64 zBP))]) []):=by kernel_rfl
abbrev xj:=∀ (β:Type),Nat→List (List V)→(List (List V)→Int→Option β)→Option β
def zc (β:Type) (L:Nat) (p0:List (List V)) (k_fin:List (List V)→Int→Option β):Option β:=zn2 L p0 k_fin
def zhm (zc:xj) (L:Nat) (β:Type) (args:List V) (bor:Bor) (k:KK β):Option β:=match args,bor with
 | [a0],[]=>aL 1 a0 fun p0=>zc β L p0 (fun zBO zBP=>k (V.bx false [(V.sl 1 zBO),(V.sc (.int .i64 zBP))]) [])
 | _,_=>none
theorem zt5 (L:Nat) (β:Type) (args:List V) (bor:Bor) (k:KK β) (r:β) (h:zhm zc L β args bor k=some r):xH zmO (zm1 L) L zj3 args bor k=some r:=by
 unfold zhm at h
 split at h
 ·have q:=zb0 h; clear h; obtain ⟨p0,rfl,h⟩:=q
  exact (zud L p0 k).trans h
 ·cases h
def zfd:CF:=⟨13,[.tmp 2],
 (.seq (.reg [oo 2 (.move (.const (.sc (.bool false))) false)])
 (.seq (.dreg [] [(oo 3 (.move (tq 0) false),q0),
   (oo 4 (.nilCheck (tq 3)),q0),
   (oo 5 (.fieldAddr 1 (tq 4)),q0),
   (oo 6 (.load false 1 (tq 5) false),ql 0 [] []),
   (oo 7 (.move (tq 0) false),q0),
   (oo 8 (.nilCheck (tq 7)),q0),
   (oo 9 (.fieldAddr 0 (tq 8)),q0),
   (oo 10 (.load false 1 (tq 9) false),ql 0 [] []),
   (oo 11 (.lenS (tq 10)),q0),
   (oo 12 (.bin .lss (tq 6) (tq 11)),q0),
   (oo 2 (.move (tq 12) false),q0)])
 .ret))⟩
def zjy:Hint:=⟨[],[],[none],[],[],false,false⟩
def zhE:Nat→Sh:=zay []
def zhv (L:Nat):CBC:=noC
def zev {β:Type} (L:Nat) (zBI:List (List V)) (zBN:Int) (k_fin:Bool→List (List V)→Int→Option β):Option β :=
 k_fin (decide (zBN < ((List.length zBI:Nat):Int))) zBI zBN
theorem zoR {β:Type} (L:Nat) (zBI:List (List V)) (zBN:Int) (k:KK β):xH zhE (zhv L) L zfd [(V.ptr 0 0)] [(.live false [(V.sl 1 zBI),(V.sc (.int .i64 zBN))])] k=zev L zBI zBN (fun p0 zBI zBN=>k (V.sc (.bool p0)) [(.live false [(V.sl 1 zBI),(V.sc (.int .i64 zBN))])]):=by kernel_rfl
abbrev ym:=∀ (β:Type),Nat→List (List V)→Int→(Bool→List (List V)→Int→Option β)→Option β
def zb (β:Type) (L:Nat) (zBI:List (List V)) (zBN:Int) (k_fin:Bool→List (List V)→Int→Option β):Option β:=zev L zBI zBN k_fin
def zem (zb:ym) (L:Nat) (β:Type) (args:List V) (bor:Bor) (k:KK β):Option β:=match args,bor with
 | [a0],[(.live false [w0_0,w0_1])]=>aP 0 0 a0 (aL 1 w0_0 fun zBI=>aI .i64 w0_1 fun zBN=>zb β L zBI zBN (fun p0 zBI zBN=>k (V.sc (.bool p0)) [(.live false [(V.sl 1 zBI),(V.sc (.int .i64 zBN))])]))
 | _,_=>none
theorem zoI (L:Nat) (β:Type) (args:List V) (bor:Bor) (k:KK β) (r:β) (h:zem zb L β args bor k=some r):xH zhE (zhv L) L zfd args bor k=some r:=by
 unfold zem at h
 split at h
 ·have q:=znk h; clear h; obtain ⟨rfl,h⟩:=q
  have q:=zb0 h; clear h; obtain ⟨zBI,rfl,h⟩:=q
  have q:=zcp h; clear h; obtain ⟨zBN,rfl,h⟩:=q
  exact (zoR L zBI zBN k).trans h
 ·cases h
def zj5:CF:=⟨15,[.tmp 4],
 (.seq (.reg [oo 4 (.move (.const (.sc (.int .i64 0))) false)])
 (.seq (.reg [oo 6 (.move (tq 0) false),
   oo 7 (.move (tq 1) false),
   oo 8 (.bin .rem (tq 6) (tq 7)),
   oo 5 (.move (tq 8) false)])
 (.seq (.seq (.reg [oo 9 (.move (tq 5) false),
   oo 10 (.bin .lss (tq 9) (.const (.sc (.int .i64 0))))])
 (.cond (tq 10)
 (.reg [oo 11 (.move (tq 5) false),
   oo 12 (.move (tq 1) false),
   oo 13 (.bin .add (tq 11) (tq 12)),
   oo 5 (.move (tq 13) false)])
 .skip))
 (.seq (.reg [oo 14 (.move (tq 5) false),
   oo 4 (.move (tq 14) false)])
 .ret))))⟩
def zoA:Hint:=⟨[],[],[none,none],[],[],false,false⟩
def zm4:Nat→Sh:=zay []
def zm0 (L:Nat):CBC:=noC
def zlp {β:Type} (L:Nat) (p0 p1:Int) (k_fin:Int→Option β):Option β :=
 chk (p1≠0) (
 lt (Int.tmod p0 p1) fun x0 =>
 ifb (decide (x0 < (0:Int))) (
 lt (IntKind.wrap .i64 ((x0:Int)+p1)) fun x1 =>
 k_fin x1) (
 k_fin x0))
theorem ztZ {β:Type} (L:Nat) (p0 p1:Int) (k:KK β):xH zm4 (zm0 L) L zj5 [(V.sc (.int .i64 p0)),(V.sc (.int .i64 p1))] [] k=zlp L p0 p1 (fun p0=>k (V.sc (.int .i64 p0)) []):=by kernel_rfl
abbrev zA:=∀ (β:Type),Nat→Int→Int→(Int→Option β)→Option β
def xf (β:Type) (L:Nat) (p0 p1:Int) (k_fin:Int→Option β):Option β:=zlp L p0 p1 k_fin
def zfN (xf:zA) (L:Nat) (β:Type) (args:List V) (bor:Bor) (k:KK β):Option β:=match args,bor with
 | [a0,a1],[]=>aI .i64 a0 fun p0=>aI .i64 a1 fun p1=>xf β L p0 p1 (fun p0=>k (V.sc (.int .i64 p0)) [])
 | _,_=>none
theorem ztP (L:Nat) (β:Type) (args:List V) (bor:Bor) (k:KK β) (r:β) (h:zfN xf L β args bor k=some r):xH zm4 (zm0 L) L zj5 args bor k=some r:=by
 unfold zfN at h
 split at h
 ·have q:=zcp h; clear h; obtain ⟨p0,rfl,h⟩:=q
  have q:=zcp h; clear h; obtain ⟨p1,rfl,h⟩:=q
  exact (ztZ L p0 p1 k).trans h
 ·cases h
def zfe:CF:=⟨28,[.tmp 4],
 (.seq (.reg [oo 4 (.move (.const (.sc (.int .i64 0))) false)])
 (.seq (.seq (.reg [oo 5 (.move (tq 0) false),
   oo 6 (.call 247 [((tq 5),0)] []),
   oo 7 (.un .not (tq 6))])
 (.cond (tq 7)
 (.seq (.reg [oo 4 (.move (.const (.sc (.int .i64 0))) false)])
 .ret)
 .skip))
 (.seq (.reg [oo 8 (.move (tq 0) false),
   oo 9 (.nilCheck (tq 8)),
   oo 10 (.fieldAddr 1 (tq 9)),
   oo 11 (.load false 1 (tq 10) false),
   oo 12 (.bin .add (tq 11) (.const (.sc (.int .i64 1)))),
   oo 13 (.nilCheck (tq 8)),
   oo 14 (.fieldAddr 1 (tq 13)),
   oz (.store 1 (tq 14) (tq 12))])
 (.seq (.dreg [] [(oo 15 (.move (tq 0) false),q0),
   (oo 16 (.nilCheck (tq 15)),q0),
   (oo 17 (.fieldAddr 0 (tq 16)),q0),
   (oo 18 (.load false 1 (tq 17) false),ql 0 [] []),
   (oo 19 (.move (tq 0) false),q0),
   (oo 20 (.nilCheck (tq 19)),q0),
   (oo 21 (.fieldAddr 1 (tq 20)),q0),
   (oo 22 (.load false 1 (tq 21) false),ql 0 [] []),
   (oo 23 (.bin .sub (tq 22) (.const (.sc (.int .i64 1)))),q0),
   (oo 24 (.indexAddrS 1 (tq 18) (tq 23)),q0),
   (oo 25 (.load false 1 (tq 24) false),q0),
   (oo 26 (.move (tq 1) false),q0),
   (oo 27 (.call 217 [((tq 25),0),((tq 26),0)] []),q0),
   (oo 4 (.move (tq 27) false),q0)])
 .ret))))⟩
def zjE:Hint:=⟨[],[],[none,none,none],[],[],false,false⟩
def zhI:Nat→Sh:=zay [(25,(.int .i64))]
def zhA (zb:ym) (xf:zA) (L:Nat):CBC:=(zI 217 (zfN xf L) (zI 247 (zem zb L) noC))
def zfY {β:Type} (zb:ym) (xf:zA) (L:Nat) (p1:Int) (zBI:List (List V)) (zBN:Int) (k_fin:Int→List (List V)→Int→Option β):Option β :=
 zb β L zBI zBN (fun v0 v1 v2 =>
 ifb (!v0) (
 k_fin (0:Int) v1 v2) (
 lt (IntKind.wrap .i64 ((v2:Int)+(1:Int))) fun x3 =>
 lt (IntKind.wrap .i64 ((x3:Int) - (1:Int))) fun x4 =>
 idx v1 x4 fun c5 =>
 cI .i64 c5 0 fun v6 =>
 xf β L v6 p1 (fun v7 =>
 k_fin v7 v1 x3)))
theorem zoG {β:Type} (zb:ym) (xf:zA) (L:Nat) (p1:Int) (zBI:List (List V)) (zBN:Int) (k:KK β):xH zhI (zhA zb xf L) L zfe [(V.ptr 0 0),(V.sc (.int .i64 p1))] [(.live false [(V.sl 1 zBI),(V.sc (.int .i64 zBN))])] k=zfY zb xf L p1 zBI zBN (fun p0 zBI zBN=>k (V.sc (.int .i64 p0)) [(.live false [(V.sl 1 zBI),(V.sc (.int .i64 zBN))])]):=by kernel_rfl
abbrev zj:=∀ (β:Type),Nat→Int→List (List V)→Int→(Int→List (List V)→Int→Option β)→Option β
def za (β:Type) (L:Nat) (p1:Int) (zBI:List (List V)) (zBN:Int) (k_fin:Int→List (List V)→Int→Option β):Option β:=zfY zb xf L p1 zBI zBN k_fin
def zeo (za:zj) (L:Nat) (β:Type) (args:List V) (bor:Bor) (k:KK β):Option β:=match args,bor with
 | [a0,a1],[(.live false [w0_0,w0_1])]=>aP 0 0 a0 (aI .i64 a1 fun p1=>aL 1 w0_0 fun zBI=>aI .i64 w0_1 fun zBN=>za β L p1 zBI zBN (fun p0 zBI zBN=>k (V.sc (.int .i64 p0)) [(.live false [(V.sl 1 zBI),(V.sc (.int .i64 zBN))])]))
 | _,_=>none
theorem zoP (L:Nat) (β:Type) (args:List V) (bor:Bor) (k:KK β) (r:β) (h:zeo za L β args bor k=some r):xH zhI (zhA zb xf L) L zfe args bor k=some r:=by
 unfold zeo at h
 split at h
 ·have q:=znk h; clear h; obtain ⟨rfl,h⟩:=q
  have q:=zcp h; clear h; obtain ⟨p1,rfl,h⟩:=q
  have q:=zb0 h; clear h; obtain ⟨zBI,rfl,h⟩:=q
  have q:=zcp h; clear h; obtain ⟨zBN,rfl,h⟩:=q
  exact (zoG zb xf L p1 zBI zBN k).trans h
 ·cases h
def zoM:CC:=(.seq (.seq (.reg [oo 32 (.move (tq 5) false),
   oo 33 (.bin .lss (tq 32) (.const (.sc (.int .i64 8))))])
 (.cond (tq 33)
 .skip
 (.seq (.mask (bl 12 67) (bl 119501746176346029983 67))
 (.exit 2))))
 (.seq (.block 3 (.seq (.reg [oo 36 (.move (tq 5) false),
   oo 37 (.conv .u8 (tq 36)),
   oo 38 (.build (rp 32 (.sc (.int .u8 0)) []) [(0,1,(tq 37))]),
   oo 6 (.alloc true (rp 32 (.sc (.int .u8 0)) [])),
   oz (.store 32 (tq 6) (tq 38))])
 (.seq (.reg [oo 39 (.move (tq 0) false),
   oo 40 (.call 231 [((tq 39),0),((.const (.sc (.int .i64 3))),0)] [])])
 (.block 4 (.seq (.reg [oo 42 (.bin .eql (tq 40) (.const (.sc (.int .i64 0)))),
   oo 41 (.move (tq 42) false)])
 (.cond (tq 41)
 (.dreg [] [(oo 43 (.fieldAddr 3 (tq 3)),q0),
   (oo 44 (.load false 1 (tq 43) true),ql 3 [6] [55]),
   (oo 45 (.load true 32 (tq 6) false),ql 6 [3] []),
   (oo 46 (.move (tq 0) false),q0),
   (oo 47 (.call 231 [((tq 46),0),((.const (.sc (.int .i64 5))),0)] []),qc [3,6] []),
   (oo 48 (.bin .sub (tq 47) (.const (.sc (.int .i64 1)))),q0),
   (oo 49 (.move (tq 0) false),q0),
   (oo 50 (.call 231 [((tq 49),0),((.const (.sc (.int .i64 5))),0)] []),qc [3,6] []),
   (oo 51 (.move (tq 0) false),q0),
   (oo 52 (.call 231 [((tq 51),0),((.const (.sc (.int .i64 50))),0)] []),qc [3,6] []),
   (oo 53 (.conv .u32 (tq 52)),q0),
   (oo 54 (.build (rp 32 (.sc (.int .u8 0)) (rp 2 (.sc (.int .i64 0)) (rp 1 (.sc (.int .u32 0)) []))) [(0,32,(tq 45)),(32,1,(tq 48)),(33,1,(tq 50)),(34,1,(tq 53))]),q0),
   (oo 55 (.buildSlice 35 1 (rp 32 (.sc (.int .u8 0)) (rp 2 (.sc (.int .i64 0)) (rp 1 (.sc (.int .u32 0)) []))) [(0,35,(tq 54))]),qn [3] []),
   (oo 56 (.append 35 56 (tq 44) (tq 55)),q0),
   (oo 57 (.fieldAddr 3 (tq 3)),q0),
   (oz (.store 1 (tq 57) (tq 56)),q0)])
 (.seq (.reg [oo 59 (.bin .eql (tq 40) (.const (.sc (.int .i64 1)))),
   oo 58 (.move (tq 59) false)])
 (.cond (tq 58)
 (.reg [oo 60 (.fieldAddr 4 (tq 3)),
   oo 61 (.load false 1 (tq 60) true),
   oo 62 (.load true 32 (tq 6) false),
   oo 63 (.buildSlice 32 1 (rp 32 (.sc (.int .u8 0)) []) [(0,32,(tq 62))]),
   oo 64 (.append 32 32 (tq 61) (tq 63)),
   oo 65 (.fieldAddr 4 (tq 3)),
   oz (.store 1 (tq 65) (tq 64))])
 .skip))))))))
 (.reg [oo 34 (.move (tq 5) false),
   oo 35 (.bin .add (tq 34) (.const (.sc (.int .i64 1)))),
   oo 5 (.move (tq 35) false)])))
def zpZ:CC:=(.seq (.seq (.reg [oo 16 (.move (tq 4) false),
   oo 17 (.bin .gtr (tq 16) (.const (.sc (.int .i64 0))))])
 (.cond (tq 17)
 .skip
 (.seq (.mask (bl 13 67) (bl 147573952587914805167 67))
 (.exit 0))))
 (.seq (.block 1 (.dreg [] [(oo 20 (.fieldAddr 2 (tq 3)),q0),
   (oo 21 (.load false 1 (tq 20) true),ql 3 [] [29]),
   (oo 22 (.fieldAddr 2 (tq 3)),q0),
   (oo 23 (.load false 1 (tq 22) false),ql 3 [] []),
   (oo 24 (.lenS (tq 23)),q0),
   (oo 25 (.bin .mul (.const (.sc (.int .i64 3))) (tq 24)),q0),
   (oo 26 (.move (tq 0) false),q0),
   (oo 27 (.call 231 [((tq 26),0),((.const (.sc (.int .i64 3))),0)] []),qc [3] []),
   (oo 28 (.bin .add (tq 25) (tq 27)),q0),
   (oo 29 (.buildSlice 1 1 [(.sc (.int .i64 0))] [(0,1,(tq 28))]),qn [3] []),
   (oo 30 (.append 1 8 (tq 21) (tq 29)),q0),
   (oo 31 (.fieldAddr 2 (tq 3)),q0),
   (oz (.store 1 (tq 31) (tq 30)),q0)]))
 (.reg [oo 18 (.move (tq 4) false),
   oo 19 (.bin .sub (tq 18) (.const (.sc (.int .i64 1)))),
   oo 4 (.move (tq 19) false)])))
def zq6:CC:=(.seq (.reg [oo 66 (.load true 5 (tq 3) false),
   oz (.store 5 (tq 2) (tq 66))])
 .ret)
def zru:CC:=(.seq (.seq (.reg [oo 5 (.move (.const (.sc (.int .i64 0))) false)])
 (.block 2 (.loop (bl 45 67) (bl 119501746176346030015 67)
 zoM)))
 zq6)
def zoo:CF:=⟨67,[.cell 2 true 5],
 (.seq (.reg [oo 2 (.alloc true [(.sc (.int .u32 0)),(.sc (.bool false)),(.gs 1 []),(.gs 35 []),(.gs 32 [])])])
 (.seq (.reg [oo 7 (.move (tq 0) false),
   oo 8 (.call 231 [((tq 7),0),((.const (.sc (.int .i64 99))),0)] []),
   oo 9 (.conv .u32 (tq 8)),
   oo 10 (.move (tq 0) false),
   oo 11 (.call 231 [((tq 10),0),((.const (.sc (.int .i64 3))),0)] []),
   oo 12 (.bin .eql (tq 11) (.const (.sc (.int .i64 0)))),
   oo 13 (.buildSt [(.sc (.int .u32 0)),(.sc (.bool false)),(.gs 1 []),(.gs 35 []),(.gs 32 [])] [(0,1,(tq 9)),(1,1,(tq 12))]),
   oo 3 (.alloc false [(.sc (.int .u32 0)),(.sc (.bool false)),(.gs 1 []),(.gs 35 []),(.gs 32 [])]),
   oz (.store 5 (tq 3) (tq 13))])
 (.seq (.seq (.reg [oo 14 (.move (tq 0) false),
   oo 15 (.call 231 [((tq 14),0),((.const (.sc (.int .i64 3))),0)] []),
   oo 4 (.move (tq 15) false)])
 (.block 0 (.loop (bl 29 67) (bl 147573952587914805183 67)
 zpZ)))
 zru)))⟩
def zmD:Hint:=⟨[(0,0),(1,6),(5,1),(12,1),(14,1)],[],[none,some ((bl 29 67),(bl 147573952587914805183 67)),none,some ((bl 13 67),(bl 147573952587914805167 67)),none,none,some ((bl 45 67),(bl 119501746176346030015 67)),none,some ((bl 12 67),(bl 119501746176346029983 67)),none,none,none,none,none],[],[],false,false⟩
def zAf:Nat→Sh:=zay []
def zAd (za:zj) (L:Nat):CBC:=(zI 231 (zeo za L) noC)
def zyn:St→St:=zab 1 (bl 29 67) (bl 147573952587914805183 67)
def zxB:St→St:=zab 1 (bl 45 67) (bl 119501746176346030015 67)
def zwB (p4:Int) (zBI:List (List V)) (zBN zBV:Int) (zBW:Bool) (zBX zBY zBZ:List (List V)) (zBT:Int) (zBU:Bool) (zBQ zBR zBS:List (List V)):St:=⟨((V.ptr 0 0)::(jn 1 ((V.ptr 3 0)::((V.ptr 4 0)::((V.sc (.int .i64 p4))::(jn 62 [])))))),((.live false [(V.sl 1 zBI),(V.sc (.int .i64 zBN))])::(gn 2 ((.live true [(V.sc (.int .u32 zBV)),(V.sc (.bool zBW)),(V.gs 1 zBX),(V.gs 35 zBY),(V.gs 32 zBZ)])::((.live false [(V.sc (.int .u32 zBT)),(V.sc (.bool zBU)),(V.gs 1 zBQ),(V.gs 35 zBR),(V.gs 32 zBS)])::(gn 63 [])))))⟩
def zyV (zBI:List (List V)) (zBN zBV:Int) (zBW:Bool) (zBX zBY zBZ:List (List V)) (zBT:Int) (zBU:Bool) (zBQ zBR zBS:List (List V)):St:=⟨((V.ptr 0 0)::(jn 1 ((V.ptr 3 0)::((V.ptr 4 0)::(jn 63 []))))),((.live false [(V.sl 1 zBI),(V.sc (.int .i64 zBN))])::(gn 2 ((.live true [(V.sc (.int .u32 zBV)),(V.sc (.bool zBW)),(V.gs 1 zBX),(V.gs 35 zBY),(V.gs 32 zBZ)])::((.live false [(V.sc (.int .u32 zBT)),(V.sc (.bool zBU)),(V.gs 1 zBQ),(V.gs 35 zBR),(V.gs 32 zBS)])::(gn 63 [])))))⟩
def zv4 (p5:Int) (zBI:List (List V)) (zBN zBV:Int) (zBW:Bool) (zBX zBY zBZ:List (List V)) (zBT:Int) (zBU:Bool) (zBQ zBR zBS:List (List V)):St:=⟨((V.ptr 0 0)::(jn 1 ((V.ptr 3 0)::((V.ptr 4 0)::(jn 1 ((V.sc (.int .i64 p5))::(jn 61 []))))))),((.live false [(V.sl 1 zBI),(V.sc (.int .i64 zBN))])::(gn 2 ((.live true [(V.sc (.int .u32 zBV)),(V.sc (.bool zBW)),(V.gs 1 zBX),(V.gs 35 zBY),(V.gs 32 zBZ)])::((.live false [(V.sc (.int .u32 zBT)),(V.sc (.bool zBU)),(V.gs 1 zBQ),(V.gs 35 zBR),(V.gs 32 zBS)])::(gn 63 [])))))⟩
def zyR (zBI:List (List V)) (zBN zBV:Int) (zBW:Bool) (zBX zBY zBZ:List (List V)) (zBT:Int) (zBU:Bool) (zBQ zBR zBS:List (List V)):St:=⟨(jn 2 ((V.ptr 3 0)::((V.ptr 4 0)::(jn 63 [])))),((.live false [(V.sl 1 zBI),(V.sc (.int .i64 zBN))])::(gn 2 ((.live true [(V.sc (.int .u32 zBV)),(V.sc (.bool zBW)),(V.gs 1 zBX),(V.gs 35 zBY),(V.gs 32 zBZ)])::((.live false [(V.sc (.int .u32 zBT)),(V.sc (.bool zBU)),(V.gs 1 zBQ),(V.gs 35 zBR),(V.gs 32 zBS)])::(gn 63 [])))))⟩
abbrev zkA (β:Type):Type:=Int→List (List V)→Int→Int→Bool→List (List V)→List (List V)→List (List V)→Int→Bool→List (List V)→List (List V)→List (List V)→Option β
abbrev znA (β:Type):Type:=List (List V)→Int→Int→Bool→List (List V)→List (List V)→List (List V)→Int→Bool→List (List V)→List (List V)→List (List V)→Option β
abbrev zjD (β:Type):Type:=Int→List (List V)→Int→Int→Bool→List (List V)→List (List V)→List (List V)→Int→Bool→List (List V)→List (List V)→List (List V)→Option β
abbrev znc (β:Type):Type:=List (List V)→Int→Int→Bool→List (List V)→List (List V)→List (List V)→Int→Bool→List (List V)→List (List V)→List (List V)→Option β
def zvl {β:Type} (za:zj) (L:Nat) (zBI:List (List V)) (zBN:Int) (k_hbbaba:zkA β):Option β :=
 za β L (99:Int) zBI zBN (fun v0 v1 v2 =>
 lt (IntKind.wrap .u32 v0) fun x3 =>
 za β L (3:Int) v1 v2 (fun v4 v5 v6 =>
 za β L (3:Int) v5 v6 (fun v7 v8 v9 =>
 k_hbbaba v7 v8 v9 (0:Int) false ([]:List (List V)) ([]:List (List V)) ([]:List (List V)) x3 ((v4:Int) == (0:Int)) ([]:List (List V)) ([]:List (List V)) ([]:List (List V)))))
def zqw {β:Type} (za:zj) (L:Nat) (p4:Int) (zBI:List (List V)) (zBN zBV:Int) (zBW:Bool) (zBX zBY zBZ:List (List V)) (zBT:Int) (zBU:Bool) (zBQ zBR zBS:List (List V)) (k_hbbaba:zkA β) (k_x0:znA β):Option β :=
 ifb (decide (p4 > (0:Int))) (
 lt (IntKind.wrap .i64 (((3:Int):Int) * ((List.length zBQ:Nat):Int))) fun x10 =>
 za β L (3:Int) zBI zBN (fun v11 v12 v13 =>
 lt (IntKind.wrap .i64 ((x10:Int)+v11)) fun x14 =>
 chk ((List.length zBQ+List.length (xb 1 1 [(V.sc (.int .i64 x14))])) * 8≤yi∧List.length zBQ+List.length (xb 1 1 [(V.sc (.int .i64 x14))])≤yi) (
 lt (zBQ++(xb 1 1 [(V.sc (.int .i64 x14))])) fun l15 =>
 lt (IntKind.wrap .i64 ((p4:Int) - (1:Int))) fun x16 =>
 k_hbbaba x16 v12 v13 zBV zBW zBX zBY zBZ zBT zBU l15 zBR zBS))) (
 k_x0 zBI zBN zBV zBW zBX zBY zBZ zBT zBU zBQ zBR zBS)
def zoW {β:Type} (za:zj) (L:Nat) (zBI:List (List V)) (zBN zBV:Int) (zBW:Bool) (zBX zBY zBZ:List (List V)) (zBT:Int) (zBU:Bool) (zBQ zBR zBS:List (List V)) (k_hbbbaba:zjD β):Option β :=
 k_hbbbaba (0:Int) zBI zBN zBV zBW zBX zBY zBZ zBT zBU zBQ zBR zBS
def zpw {β:Type} (za:zj) (L:Nat) (p5:Int) (zBI:List (List V)) (zBN zBV:Int) (zBW:Bool) (zBX zBY zBZ:List (List V)) (zBT:Int) (zBU:Bool) (zBQ zBR zBS:List (List V)) (k_hbbbaba:zjD β) (k_x2:znc β):Option β :=
 ifb (decide (p5 < (8:Int))) (
 lt (IntKind.wrap .u8 p5) fun x17 =>
 lt ([(V.sc (.int .u8 x17))]++List.replicate 31 (V.sc (.int .u8 (0:Int)))) fun r18 =>
 za β L (3:Int) zBI zBN (fun v19 v20 v21 =>
 ifb ((v19:Int) == (0:Int)) (
 chk (0+32≤(List.length r18)) (
 za β L (5:Int) v20 v21 (fun v22 v23 v24 =>
 lt (IntKind.wrap .i64 ((v22:Int) - (1:Int))) fun x25 =>
 za β L (5:Int) v23 v24 (fun v26 v27 v28 =>
 za β L (50:Int) v27 v28 (fun v29 v30 v31 =>
 lt (IntKind.wrap .u32 v29) fun x32 =>
 chk ((List.length (List.take 32 r18))=32∧0+32≤35) (
 chk (1=1∧32+1≤(List.length (ya (List.replicate 32 (V.sc (.int .u8 (0:Int)))++[(V.sc (.int .i64 (0:Int))),(V.sc (.int .i64 (0:Int))),(V.sc (.int .u32 (0:Int)))]) 0 (List.take 32 r18)))) (
 chk (1=1∧33+1≤(List.length (ya (ya (List.replicate 32 (V.sc (.int .u8 (0:Int)))++[(V.sc (.int .i64 (0:Int))),(V.sc (.int .i64 (0:Int))),(V.sc (.int .u32 (0:Int)))]) 0 (List.take 32 r18)) 32 [(V.sc (.int .i64 x25))]))) (
 chk (1=1∧34+1≤(List.length (ya (ya (ya (List.replicate 32 (V.sc (.int .u8 (0:Int)))++[(V.sc (.int .i64 (0:Int))),(V.sc (.int .i64 (0:Int))),(V.sc (.int .u32 (0:Int)))]) 0 (List.take 32 r18)) 32 [(V.sc (.int .i64 x25))]) 33 [(V.sc (.int .i64 v26))]))) (
 chk ((List.length (ya (ya (ya (ya (List.replicate 32 (V.sc (.int .u8 (0:Int)))++[(V.sc (.int .i64 (0:Int))),(V.sc (.int .i64 (0:Int))),(V.sc (.int .u32 (0:Int)))]) 0 (List.take 32 r18)) 32 [(V.sc (.int .i64 x25))]) 33 [(V.sc (.int .i64 v26))]) 34 [(V.sc (.int .u32 x32))]))=35∧0+35≤35) (
 chk ((List.length zBR+List.length (xb 35 1 (ya (List.replicate 32 (V.sc (.int .u8 (0:Int)))++[(V.sc (.int .i64 (0:Int))),(V.sc (.int .i64 (0:Int))),(V.sc (.int .u32 (0:Int)))]) 0 (ya (ya (ya (ya (List.replicate 32 (V.sc (.int .u8 (0:Int)))++[(V.sc (.int .i64 (0:Int))),(V.sc (.int .i64 (0:Int))),(V.sc (.int .u32 (0:Int)))]) 0 (List.take 32 r18)) 32 [(V.sc (.int .i64 x25))]) 33 [(V.sc (.int .i64 v26))]) 34 [(V.sc (.int .u32 x32))])))) * 56≤yi∧List.length zBR+List.length (xb 35 1 (ya (List.replicate 32 (V.sc (.int .u8 (0:Int)))++[(V.sc (.int .i64 (0:Int))),(V.sc (.int .i64 (0:Int))),(V.sc (.int .u32 (0:Int)))]) 0 (ya (ya (ya (ya (List.replicate 32 (V.sc (.int .u8 (0:Int)))++[(V.sc (.int .i64 (0:Int))),(V.sc (.int .i64 (0:Int))),(V.sc (.int .u32 (0:Int)))]) 0 (List.take 32 r18)) 32 [(V.sc (.int .i64 x25))]) 33 [(V.sc (.int .i64 v26))]) 34 [(V.sc (.int .u32 x32))])))≤yi) (
 lt (zBR++(xb 35 1 (ya (List.replicate 32 (V.sc (.int .u8 (0:Int)))++[(V.sc (.int .i64 (0:Int))),(V.sc (.int .i64 (0:Int))),(V.sc (.int .u32 (0:Int)))]) 0 (ya (ya (ya (ya (List.replicate 32 (V.sc (.int .u8 (0:Int)))++[(V.sc (.int .i64 (0:Int))),(V.sc (.int .i64 (0:Int))),(V.sc (.int .u32 (0:Int)))]) 0 (List.take 32 r18)) 32 [(V.sc (.int .i64 x25))]) 33 [(V.sc (.int .i64 v26))]) 34 [(V.sc (.int .u32 x32))])))) fun l33 =>
 lt (IntKind.wrap .i64 ((p5:Int)+(1:Int))) fun x34 =>
 k_hbbbaba x34 v30 v31 zBV zBW zBX zBY zBZ zBT zBU zBQ l33 zBS))))))))))) (
 ifb ((v19:Int) == (1:Int)) (
 chk (0+32≤(List.length r18)) (
 chk ((List.length (List.take 32 r18))=32∧0+32≤32) (
 chk ((List.length zBS+List.length (xb 32 1 (ya (List.replicate 32 (V.sc (.int .u8 (0:Int)))) 0 (List.take 32 r18)))) * 32≤yi∧List.length zBS+List.length (xb 32 1 (ya (List.replicate 32 (V.sc (.int .u8 (0:Int)))) 0 (List.take 32 r18)))≤yi) (
 lt (zBS++(xb 32 1 (ya (List.replicate 32 (V.sc (.int .u8 (0:Int)))) 0 (List.take 32 r18)))) fun l35 =>
 lt (IntKind.wrap .i64 ((p5:Int)+(1:Int))) fun x36 =>
 k_hbbbaba x36 v20 v21 zBV zBW zBX zBY zBZ zBT zBU zBQ zBR l35)))) (
 lt (IntKind.wrap .i64 ((p5:Int)+(1:Int))) fun x37 =>
 k_hbbbaba x37 v20 v21 zBV zBW zBX zBY zBZ zBT zBU zBQ zBR zBS)))) (
 k_x2 zBI zBN zBV zBW zBX zBY zBZ zBT zBU zBQ zBR zBS)
def zn3 {β:Type} (za:zj) (L:Nat) (zBI:List (List V)) (zBN zBV:Int) (zBW:Bool) (zBX zBY zBZ:List (List V)) (zBT:Int) (zBU:Bool) (zBQ zBR zBS:List (List V)) (k_fin:List V→List (List V)→Int→Option β):Option β :=
 lt [(V.sc (.int .u32 zBT)),(V.sc (.bool zBU)),(V.sl 1 zBQ),(V.sl 35 zBR),(V.sl 32 zBS)] fun r38 =>
 chk (0=0∧(List.length r38)=5∧5≠0) (
 k_fin r38 zBI zBN)
def zlg {β:Type} (za:zj) (L:Nat) (k_x0:znA β):Nat→Int→List (List V)→Int→Int→Bool→List (List V)→List (List V)→List (List V)→Int→Bool→List (List V)→List (List V)→List (List V)→Option β
 | 0,_,_,_,_,_,_,_,_,_,_,_,_,_=>none
 | n+1,p4,zBI,zBN,zBV,zBW,zBX,zBY,zBZ,zBT,zBU,zBQ,zBR,zBS=>zqw za L p4 zBI zBN zBV zBW zBX zBY zBZ zBT zBU zBQ zBR zBS (fun p4 zBI zBN zBV zBW zBX zBY zBZ zBT zBU zBQ zBR zBS=>zlg za L k_x0 n p4 zBI zBN zBV zBW zBX zBY zBZ zBT zBU zBQ zBR zBS) k_x0
def zkp {β:Type} (za:zj) (L:Nat) (k_x2:znc β):Nat→Int→List (List V)→Int→Int→Bool→List (List V)→List (List V)→List (List V)→Int→Bool→List (List V)→List (List V)→List (List V)→Option β
 | 0,_,_,_,_,_,_,_,_,_,_,_,_,_=>none
 | n+1,p5,zBI,zBN,zBV,zBW,zBX,zBY,zBZ,zBT,zBU,zBQ,zBR,zBS=>zpw za L p5 zBI zBN zBV zBW zBX zBY zBZ zBT zBU zBQ zBR zBS (fun p5 zBI zBN zBV zBW zBX zBY zBZ zBT zBU zBQ zBR zBS=>zkp za L k_x2 n p5 zBI zBN zBV zBW zBX zBY zBZ zBT zBU zBQ zBR zBS) k_x2
def zoi {β:Type} (za:zj) (L:Nat) (zBI:List (List V)) (zBN zBV:Int) (zBW:Bool) (zBX zBY zBZ:List (List V)) (zBT:Int) (zBU:Bool) (zBQ zBR zBS:List (List V)) (k_fin:List V→List (List V)→Int→Option β):Option β :=
 zoW za L zBI zBN zBV zBW zBX zBY zBZ zBT zBU zBQ zBR zBS (fun p5 zBI zBN zBV zBW zBX zBY zBZ zBT zBU zBQ zBR zBS=>zkp za L (fun zBI zBN zBV zBW zBX zBY zBZ zBT zBU zBQ zBR zBS=>zn3 za L zBI zBN zBV zBW zBX zBY zBZ zBT zBU zBQ zBR zBS k_fin) L p5 zBI zBN zBV zBW zBX zBY zBZ zBT zBU zBQ zBR zBS)
def zvu {β:Type} (za:zj) (L:Nat) (zBI:List (List V)) (zBN:Int) (k_fin:List V→List (List V)→Int→Option β):Option β :=
 zvl za L zBI zBN (fun p4 zBI zBN zBV zBW zBX zBY zBZ zBT zBU zBQ zBR zBS=>zlg za L (fun zBI zBN zBV zBW zBX zBY zBZ zBT zBU zBQ zBR zBS=>zoi za L zBI zBN zBV zBW zBX zBY zBZ zBT zBU zBQ zBR zBS k_fin) L p4 zBI zBN zBV zBW zBX zBY zBZ zBT zBU zBQ zBR zBS)
abbrev xx:=∀ (β:Type),Nat→List (List V)→Int→(List V→List (List V)→Int→Option β)→Option β
def yh (β:Type) (L:Nat) (zBI:List (List V)) (zBN:Int) (k_fin:List V→List (List V)→Int→Option β):Option β:=zvu za L zBI zBN k_fin
def zpi (yh:xx) (L:Nat) (β:Type) (args:List V) (bor:Bor) (k:KK β):Option β:=match args,bor with
 | [a0],[(.live false [w0_0,w0_1])]=>aP 0 0 a0 (aL 1 w0_0 fun zBI=>aI .i64 w0_1 fun zBN=>yh β L zBI zBN (fun p0 zBI zBN=>k (V.agg p0) [(.live false [(V.sl 1 zBI),(V.sc (.int .i64 zBN))])]))
 | _,_=>none
def zmL:CF:=⟨19,[.cellS 2 5 false],
 (.seq (.reg [oo 1 (.box false (tq 0)),
   oo 2 (.alloc false [(.sc (.int .u32 0)),(.sc (.bool false)),(.gs 1 []),(.gs 35 []),(.gs 32 [])])])
 (.seq (.reg [⟨(some 3),true,none,.buildSlice 1 0 [(.sc (.int .i64 0))] []⟩,
   oo 4 (.fieldAddr 2 (tq 1)),
   oo 5 (.load false 1 (tq 4) false),
   ⟨(some 6),true,none,.append 1 8 (tq 3) (tq 5)⟩,
   oo 7 (.fieldAddr 2 (tq 1)),
   oz (.store 1 (tq 7) (tq 6))])
 (.seq (.reg [⟨(some 8),true,none,.buildSlice 35 0 (rp 32 (.sc (.int .u8 0)) (rp 2 (.sc (.int .i64 0)) (rp 1 (.sc (.int .u32 0)) []))) []⟩,
   oo 9 (.fieldAddr 3 (tq 1)),
   oo 10 (.load false 1 (tq 9) false),
   ⟨(some 11),true,none,.append 35 56 (tq 8) (tq 10)⟩,
   oo 12 (.fieldAddr 3 (tq 1)),
   oz (.store 1 (tq 12) (tq 11))])
 (.seq (.reg [⟨(some 13),true,none,.buildSlice 32 0 (rp 32 (.sc (.int .u8 0)) []) []⟩,
   oo 14 (.fieldAddr 4 (tq 1)),
   oo 15 (.load false 1 (tq 14) false),
   ⟨(some 16),true,none,.append 32 32 (tq 13) (tq 15)⟩,
   oo 17 (.fieldAddr 4 (tq 1)),
   oz (.store 1 (tq 17) (tq 16))])
 (.seq (.reg [oo 18 (.load true 5 (tq 1) true),
   oz (.store 5 (tq 2) (tq 18))])
 .ret)))))⟩
def zk9:Hint:=⟨[(4,0)],[(1,0),(1,3),(2,0),(2,3),(3,0),(3,3)],[none],[],[],false,true⟩
def zzd:Nat→Sh:=zay [(1,(.row [(.int .u32),.bool,(.sl 1),(.sl 35),(.sl 32)]))]
def zzk (L:Nat):CBC:=noC
abbrev zlc (β:Type):Type:=Int→Bool→Nat→Nat→Nat→List V→List V→List V→Option β
def znE {β:Type} (L:Nat) (p0:List V) (k_fin:zlc β):Option β :=
 chk (List.length p0=5) (
 cI .u32 p0 0 fun v0 =>
 cB p0 1 fun v1 =>
 cL 1 p0 2 fun v2 =>
 cL 35 p0 3 fun v3 =>
 cL 32 p0 4 fun v4 =>
 chk ((0+List.length v2) * 8≤yi∧0+List.length v2≤yi) (
 chk ((0+List.length v3) * 56≤yi∧0+List.length v3≤yi) (
 chk ((0+List.length v4) * 32≤yi∧0+List.length v4≤yi) (
 k_fin v0 v1 (List.length v2) (List.length v3) (List.length v4) (List.flatten v2) (List.flatten v3) (List.flatten v4)))))
abbrev zaz:=∀ (β:Type),Nat→List V→(Int→Bool→Nat→Nat→Nat→List V→List V→List V→Option β)→Option β
def zu (β:Type) (L:Nat) (p0:List V) (k_fin:zlc β):Option β:=znE L p0 k_fin
def zhb (zu:zaz) (L:Nat) (β:Type) (args:List V) (bor:Bor) (k:KK β):Option β:=match args,bor with
 | [a0],[]=>aG a0 fun p0=>zu β L p0 (fun zBO zBP zB6 zB5 zB7 b0 b1 b2=>k (V.st [(V.sc (.int .u32 zBO)),(V.sc (.bool zBP)),(V.own 0 0 zB6 1),(V.own 1 0 zB5 35),(V.own 2 0 zB7 32)]) [(.live true b0),(.live true b1),(.live true b2)])
 | _,_=>none
def znC:CF:=⟨83,[.cellS 6 5 true],
 (.seq (.reg [oo 3 (.box false (tq 0)),
   oo 6 (.alloc false [(.sc (.int .u32 0)),(.sc (.bool false)),(.gs 1 []),(.gs 35 []),(.gs 32 [])])])
 (.seq (.reg [oo 7 (.load true 5 (tq 3) false),
   oo 8 (.call 355 [((tq 7),1)] [12,13,17]),
   oz (.store 5 (tq 3) (tq 8))])
 (.seq (.seq (.reg [oo 9 (.move (tq 1) false),
   oo 10 (.call 217 [((tq 9),0),((.const (.sc (.int .i64 5))),0)] [])])
 (.block 0 (.seq (.reg [oo 12 (.bin .eql (tq 10) (.const (.sc (.int .i64 0)))),
   oo 11 (.move (tq 12) false)])
 (.cond (tq 11)
 (.dreg [] [(oo 13 (.fieldAddr 2 (tq 3)),q0),
   (oo 14 (.load false 1 (tq 13) true),ql 3 [] [18]),
   (oo 15 (.move (tq 2) false),q0),
   (oo 16 (.call 217 [((tq 15),0),((.const (.sc (.int .i64 5))),0)] []),qc [3] []),
   (oo 17 (.bin .sub (tq 16) (.const (.sc (.int .i64 1)))),q0),
   (oo 18 (.buildSlice 1 1 [(.sc (.int .i64 0))] [(0,1,(tq 17))]),qn [3] []),
   (oo 19 (.append 1 8 (tq 14) (tq 18)),q0),
   (oo 20 (.fieldAddr 2 (tq 3)),q0),
   (oz (.store 1 (tq 20) (tq 19)),q0)])
 (.seq (.reg [oo 22 (.bin .eql (tq 10) (.const (.sc (.int .i64 1)))),
   oo 21 (.move (tq 22) false)])
 (.cond (tq 21)
 (.seq (.reg [oo 23 (.fieldAddr 3 (tq 3)),
   oo 24 (.load false 1 (tq 23) false),
   oo 25 (.lenS (tq 24)),
   oo 26 (.bin .gtr (tq 25) (.const (.sc (.int .i64 0))))])
 (.cond (tq 26)
 (.dreg [] [(oo 27 (.fieldAddr 4 (tq 3)),q0),
   (oo 28 (.load false 1 (tq 27) true),ql 3 [] [39]),
   (oo 29 (.fieldAddr 3 (tq 3)),q0),
   (oo 30 (.load false 1 (tq 29) false),ql 3 [] []),
   (oo 31 (.move (tq 2) false),q0),
   (oo 32 (.fieldAddr 3 (tq 3)),q0),
   (oo 33 (.load false 1 (tq 32) false),ql 3 [] []),
   (oo 34 (.lenS (tq 33)),q0),
   (oo 35 (.call 217 [((tq 31),0),((tq 34),0)] []),qc [3] []),
   (oo 36 (.indexAddrS 35 (tq 30) (tq 35)),q0),
   (oo 37 (.fieldAddr 0 (tq 36)),q0),
   (oo 38 (.load true 32 (tq 37) false),qc [3] []),
   (oo 39 (.buildSlice 32 1 (rp 32 (.sc (.int .u8 0)) []) [(0,32,(tq 38))]),qn [3] []),
   (oo 40 (.append 32 32 (tq 28) (tq 39)),q0),
   (oo 41 (.fieldAddr 4 (tq 3)),q0),
   (oz (.store 1 (tq 41) (tq 40)),q0)])
 .skip))
 (.seq (.reg [oo 43 (.bin .eql (tq 10) (.const (.sc (.int .i64 2)))),
   oo 42 (.move (tq 43) false)])
 (.cond (tq 42)
 (.seq (.reg [oo 44 (.fieldAddr 3 (tq 3)),
   oo 45 (.load false 1 (tq 44) false),
   oo 46 (.lenS (tq 45)),
   oo 47 (.bin .gtr (tq 46) (.const (.sc (.int .i64 0))))])
 (.cond (tq 47)
 (.dreg [] [(oo 48 (.fieldAddr 3 (tq 3)),q0),
   (oo 49 (.load false 1 (tq 48) true),ql 3 [] [59]),
   (oo 50 (.fieldAddr 3 (tq 3)),q0),
   (oo 51 (.load false 1 (tq 50) false),ql 3 [] []),
   (oo 52 (.move (tq 2) false),q0),
   (oo 53 (.fieldAddr 3 (tq 3)),q0),
   (oo 54 (.load false 1 (tq 53) false),ql 3 [] []),
   (oo 55 (.lenS (tq 54)),q0),
   (oo 56 (.call 217 [((tq 52),0),((tq 55),0)] []),qc [3] []),
   (oo 57 (.indexAddrS 35 (tq 51) (tq 56)),q0),
   (oo 58 (.load true 35 (tq 57) false),qc [3] []),
   (oo 59 (.buildSlice 35 1 (rp 32 (.sc (.int .u8 0)) (rp 2 (.sc (.int .i64 0)) (rp 1 (.sc (.int .u32 0)) []))) [(0,35,(tq 58))]),qn [3] []),
   (oo 60 (.append 35 56 (tq 49) (tq 59)),q0),
   (oo 61 (.fieldAddr 3 (tq 3)),q0),
   (oz (.store 1 (tq 61) (tq 60)),q0)])
 .skip))
 (.seq (.reg [oo 63 (.bin .eql (tq 10) (.const (.sc (.int .i64 3)))),
   oo 62 (.move (tq 63) false)])
 (.cond (tq 62)
 (.seq (.reg [oo 64 (.fieldAddr 4 (tq 3)),
   oo 65 (.load false 1 (tq 64) false),
   oo 66 (.lenS (tq 65)),
   oo 67 (.bin .gtr (tq 66) (.const (.sc (.int .i64 0))))])
 (.cond (tq 67)
 (.dreg [] [(oo 68 (.fieldAddr 4 (tq 3)),q0),
   (oo 69 (.load false 1 (tq 68) true),ql 3 [] [79]),
   (oo 70 (.fieldAddr 4 (tq 3)),q0),
   (oo 71 (.load false 1 (tq 70) false),ql 3 [] []),
   (oo 72 (.move (tq 2) false),q0),
   (oo 73 (.fieldAddr 4 (tq 3)),q0),
   (oo 74 (.load false 1 (tq 73) false),ql 3 [] []),
   (oo 75 (.lenS (tq 74)),q0),
   (oo 76 (.call 217 [((tq 72),0),((tq 75),0)] []),qc [3] []),
   (oo 77 (.indexAddrS 32 (tq 71) (tq 76)),q0),
   (oo 78 (.load true 32 (tq 77) false),qc [3] []),
   (oo 79 (.buildSlice 32 1 (rp 32 (.sc (.int .u8 0)) []) [(0,32,(tq 78))]),qn [3] []),
   (oo 80 (.append 32 32 (tq 69) (tq 79)),q0),
   (oo 81 (.fieldAddr 4 (tq 3)),q0),
   (oz (.store 1 (tq 81) (tq 80)),q0)])
 .skip))
 .skip))))))))))
 (.seq (.reg [oo 82 (.load true 5 (tq 3) true),
   oz (.store 5 (tq 6) (tq 82))])
 .ret))))⟩
def zmg:Hint:=⟨[(4,1),(7,1),(10,1),(13,1),(14,0)],[],[none,none,none,none,none,none,none,none,none],[],[(1,1,[12,13,17])],true,true⟩
def zzX:Nat→Sh:=zay [(3,(.row [(.int .u32),.bool,(.sl 1),(.sl 35),(.sl 32)]))]
def zzB (zu:zaz) (xf:zA) (L:Nat):CBC:=(zI 217 (zfN xf L) (zI 355 (zhb zu L) noC))
def zuc {β:Type} (zu:zaz) (xf:zA) (L:Nat) (p0:List V) (p1 p2:Int) (k_fin:List V→Option β):Option β :=
 chk (List.length p0=5) (
 cI .u32 p0 0 fun v0 =>
 cB p0 1 fun v1 =>
 cL 1 p0 2 fun v2 =>
 cL 35 p0 3 fun v3 =>
 cL 32 p0 4 fun v4 =>
 zu β L [(V.sc (.int .u32 v0)),(V.sc (.bool v1)),(V.sl 1 v2),(V.sl 35 v3),(V.sl 32 v4)] (fun v5 v6 v7 v8 v9 v10 v11 v12 =>
 xf β L p1 (5:Int) (fun v13 =>
 ifb ((v13:Int) == (0:Int)) (
 xf β L p2 (5:Int) (fun v14 =>
 lt (IntKind.wrap .i64 ((v14:Int) - (1:Int))) fun x15 =>
 chk ((v7+List.length (xb 1 1 [(V.sc (.int .i64 x15))])) * 8≤yi∧(v7+List.length (xb 1 1 [(V.sc (.int .i64 x15))]))≤yi∧((v7+List.length (xb 1 1 [(V.sc (.int .i64 x15))]))≠0∨(List.length v10)=0)) (
 lt (List.take (v7 * 1) v10++List.flatten (xb 1 1 [(V.sc (.int .i64 x15))])) fun r16 =>
 k_fin [(V.sc (.int .u32 v5)),(V.sc (.bool v6)),(V.sl 1 (xb 1 (v7+List.length (xb 1 1 [(V.sc (.int .i64 x15))])) r16)),(V.sl 35 (xb 35 v8 v11)),(V.sl 32 (xb 32 v9 v12))]))) (
 ifb ((v13:Int) == (1:Int)) (
 ifb (decide (((v8:Nat):Int) > (0:Int))) (
 xf β L p2 ((v8:Nat):Int) (fun v17 =>
 chk (0≤v17∧v17 < ((v8:Nat):Int)) (
 chk (((0+((Int.toNat v17) * 35))+0)+32≤(List.length v11)) (
 chk ((List.length (List.take 32 (List.drop ((0+((Int.toNat v17) * 35))+0) v11)))=32∧0+32≤32) (
 chk ((v9+List.length (xb 32 1 (ya (List.replicate 32 (V.sc (.int .u8 (0:Int)))) 0 (List.take 32 (List.drop ((0+((Int.toNat v17) * 35))+0) v11))))) * 32≤yi∧(v9+List.length (xb 32 1 (ya (List.replicate 32 (V.sc (.int .u8 (0:Int)))) 0 (List.take 32 (List.drop ((0+((Int.toNat v17) * 35))+0) v11)))))≤yi∧((v9+List.length (xb 32 1 (ya (List.replicate 32 (V.sc (.int .u8 (0:Int)))) 0 (List.take 32 (List.drop ((0+((Int.toNat v17) * 35))+0) v11)))))≠0∨(List.length v12)=0)) (
 lt (List.take (v9 * 32) v12++List.flatten (xb 32 1 (ya (List.replicate 32 (V.sc (.int .u8 (0:Int)))) 0 (List.take 32 (List.drop ((0+((Int.toNat v17) * 35))+0) v11))))) fun r18 =>
 k_fin [(V.sc (.int .u32 v5)),(V.sc (.bool v6)),(V.sl 1 (xb 1 v7 v10)),(V.sl 35 (xb 35 v8 v11)),(V.sl 32 (xb 32 (v9+List.length (xb 32 1 (ya (List.replicate 32 (V.sc (.int .u8 (0:Int)))) 0 (List.take 32 (List.drop ((0+((Int.toNat v17) * 35))+0) v11))))) r18))])))))) (
 k_fin [(V.sc (.int .u32 v5)),(V.sc (.bool v6)),(V.sl 1 (xb 1 v7 v10)),(V.sl 35 (xb 35 v8 v11)),(V.sl 32 (xb 32 v9 v12))])) (
 ifb ((v13:Int) == (2:Int)) (
 ifb (decide (((v8:Nat):Int) > (0:Int))) (
 xf β L p2 ((v8:Nat):Int) (fun v19 =>
 chk (0≤v19∧v19 < ((v8:Nat):Int)) (
 chk ((0+((Int.toNat v19) * 35))+35≤(List.length v11)) (
 chk ((List.length (List.take 35 (List.drop (0+((Int.toNat v19) * 35)) v11)))=35∧0+35≤35) (
 chk ((v8+List.length (xb 35 1 (ya (List.replicate 32 (V.sc (.int .u8 (0:Int)))++[(V.sc (.int .i64 (0:Int))),(V.sc (.int .i64 (0:Int))),(V.sc (.int .u32 (0:Int)))]) 0 (List.take 35 (List.drop (0+((Int.toNat v19) * 35)) v11))))) * 56≤yi∧(v8+List.length (xb 35 1 (ya (List.replicate 32 (V.sc (.int .u8 (0:Int)))++[(V.sc (.int .i64 (0:Int))),(V.sc (.int .i64 (0:Int))),(V.sc (.int .u32 (0:Int)))]) 0 (List.take 35 (List.drop (0+((Int.toNat v19) * 35)) v11)))))≤yi∧((v8+List.length (xb 35 1 (ya (List.replicate 32 (V.sc (.int .u8 (0:Int)))++[(V.sc (.int .i64 (0:Int))),(V.sc (.int .i64 (0:Int))),(V.sc (.int .u32 (0:Int)))]) 0 (List.take 35 (List.drop (0+((Int.toNat v19) * 35)) v11)))))≠0∨(List.length v11)=0)) (
 lt (List.take (v8 * 35) v11++List.flatten (xb 35 1 (ya (List.replicate 32 (V.sc (.int .u8 (0:Int)))++[(V.sc (.int .i64 (0:Int))),(V.sc (.int .i64 (0:Int))),(V.sc (.int .u32 (0:Int)))]) 0 (List.take 35 (List.drop (0+((Int.toNat v19) * 35)) v11))))) fun r20 =>
 k_fin [(V.sc (.int .u32 v5)),(V.sc (.bool v6)),(V.sl 1 (xb 1 v7 v10)),(V.sl 35 (xb 35 (v8+List.length (xb 35 1 (ya (List.replicate 32 (V.sc (.int .u8 (0:Int)))++[(V.sc (.int .i64 (0:Int))),(V.sc (.int .i64 (0:Int))),(V.sc (.int .u32 (0:Int)))]) 0 (List.take 35 (List.drop (0+((Int.toNat v19) * 35)) v11))))) r20)),(V.sl 32 (xb 32 v9 v12))])))))) (
 k_fin [(V.sc (.int .u32 v5)),(V.sc (.bool v6)),(V.sl 1 (xb 1 v7 v10)),(V.sl 35 (xb 35 v8 v11)),(V.sl 32 (xb 32 v9 v12))])) (
 ifb ((v13:Int) == (3:Int)) (
 ifb (decide (((v9:Nat):Int) > (0:Int))) (
 xf β L p2 ((v9:Nat):Int) (fun v21 =>
 chk (0≤v21∧v21 < ((v9:Nat):Int)) (
 chk ((0+((Int.toNat v21) * 32))+32≤(List.length v12)) (
 chk ((List.length (List.take 32 (List.drop (0+((Int.toNat v21) * 32)) v12)))=32∧0+32≤32) (
 chk ((v9+List.length (xb 32 1 (ya (List.replicate 32 (V.sc (.int .u8 (0:Int)))) 0 (List.take 32 (List.drop (0+((Int.toNat v21) * 32)) v12))))) * 32≤yi∧(v9+List.length (xb 32 1 (ya (List.replicate 32 (V.sc (.int .u8 (0:Int)))) 0 (List.take 32 (List.drop (0+((Int.toNat v21) * 32)) v12)))))≤yi∧((v9+List.length (xb 32 1 (ya (List.replicate 32 (V.sc (.int .u8 (0:Int)))) 0 (List.take 32 (List.drop (0+((Int.toNat v21) * 32)) v12)))))≠0∨(List.length v12)=0)) (
 lt (List.take (v9 * 32) v12++List.flatten (xb 32 1 (ya (List.replicate 32 (V.sc (.int .u8 (0:Int)))) 0 (List.take 32 (List.drop (0+((Int.toNat v21) * 32)) v12))))) fun r22 =>
 k_fin [(V.sc (.int .u32 v5)),(V.sc (.bool v6)),(V.sl 1 (xb 1 v7 v10)),(V.sl 35 (xb 35 v8 v11)),(V.sl 32 (xb 32 (v9+List.length (xb 32 1 (ya (List.replicate 32 (V.sc (.int .u8 (0:Int)))) 0 (List.take 32 (List.drop (0+((Int.toNat v21) * 32)) v12))))) r22))])))))) (
 k_fin [(V.sc (.int .u32 v5)),(V.sc (.bool v6)),(V.sl 1 (xb 1 v7 v10)),(V.sl 35 (xb 35 v8 v11)),(V.sl 32 (xb 32 v9 v12))])) (
 k_fin [(V.sc (.int .u32 v5)),(V.sc (.bool v6)),(V.sl 1 (xb 1 v7 v10)),(V.sl 35 (xb 35 v8 v11)),(V.sl 32 (xb 32 v9 v12))])))))))
abbrev xu:=∀ (β:Type),Nat→List V→Int→Int→(List V→Option β)→Option β
def zg (β:Type) (L:Nat) (p0:List V) (p1 p2:Int) (k_fin:List V→Option β):Option β:=zuc zu xf L p0 p1 p2 k_fin
def zoz (zg:xu) (L:Nat) (β:Type) (args:List V) (bor:Bor) (k:KK β):Option β:=match args,bor with
 | [a0,a1,a2],[]=>aG a0 fun p0=>aI .i64 a1 fun p1=>aI .i64 a2 fun p2=>zg β L p0 p1 p2 (fun p0=>k (V.agg p0) [])
 | _,_=>none
def zfG:CF:=⟨12,[.tmp 3],
 (.seq (.reg [oo 2 (.box true (tq 0)),
   oo 3 (.move (.const (.sc (.bool false))) false)])
 (.seq (.reg [oo 5 (.load false 1 (tq 1) false),
   oo 6 (.load true 32 (tq 2) false),
   oo 7 (.mlook 34 false (.sc (.bool false)) (tq 5) (tq 6)),
   oo 4 (.move (tq 7) false)])
 (.seq (.reg [oo 8 (.load false 1 (tq 1) false),
   oo 9 (.load true 32 (tq 2) false),
   oz (.mput 34 (tq 8) (tq 9) (.const (.sc (.bool true))))])
 (.seq (.reg [oo 10 (.move (tq 4) false),
   oo 11 (.un .not (tq 10)),
   oo 3 (.move (tq 11) false)])
 .ret))))⟩
def zkt:Hint:=⟨[],[],[none],[],[],false,false⟩
def zig:Nat→Sh:=zay [(7,.bool)]
def zh6 (L:Nat):CBC:=noC
def zi2 {β:Type} (L:Nat) (p0:List V) (b1:List (V × V)) (k_fin:Bool→List (V × V)→Option β):Option β :=
 chk (0+32≤(List.length p0)) (
 mAt 34 (V.agg (List.take 32 p0)) b1 fun q0 =>
 aB (Option.getD q0 (V.sc (.bool false))) fun v1 =>
 chk (0+32≤(List.length p0)) (
 zww 34 (V.agg (List.take 32 p0)) (V.sc (.bool true)) b1 fun m2 =>
 k_fin (!v1) m2))
theorem zpf {β:Type} (L:Nat) (p0:List V) (b1:List (V × V)) (k:KK β):xH zig (zh6 L) L zfG [(V.agg p0),(V.ptr 0 0)] [(.live false [(V.mp 1)]),(.mp b1)] k=zi2 L p0 b1 (fun p0 b1=>k (V.sc (.bool p0)) [(.live false [(V.mp 1)]),(.mp b1)]):=by kernel_rfl
abbrev yq:=∀ (β:Type),Nat→List V→List (V × V)→(Bool→List (V × V)→Option β)→Option β
def zd (β:Type) (L:Nat) (p0:List V) (b1:List (V × V)) (k_fin:Bool→List (V × V)→Option β):Option β:=zi2 L p0 b1 k_fin
def zgv (zd:yq) (L:Nat) (β:Type) (args:List V) (bor:Bor) (k:KK β):Option β:=match args,bor with
 | [a0,a1],[(.live false [w0_0]),(.mp b1)]=>aG a0 fun p0=>aP 0 0 a1 (aM 1 w0_0 (zd β L p0 b1 (fun p0 b1=>k (V.sc (.bool p0)) [(.live false [(V.mp 1)]),(.mp b1)])))
 | _,_=>none
theorem zpJ (L:Nat) (β:Type) (args:List V) (bor:Bor) (k:KK β) (r:β) (h:zgv zd L β args bor k=some r):xH zig (zh6 L) L zfG args bor k=some r:=by
 unfold zgv at h
 split at h
 ·have q:=zdX h; clear h; obtain ⟨p0,rfl,h⟩:=q
  have q:=znk h; clear h; obtain ⟨rfl,h⟩:=q
  have q:=zAs h; clear h; obtain ⟨rfl,h⟩:=q
  exact (zpf L p0 _ k).trans h
 ·cases h
def zb1:CC:=(.seq (.reg [oo 71 (.bin .lss (tq 70) (tq 69))])
 (.seq (.cond (tq 71)
 .skip
 (.seq (.mask (bl 0 79) (bl 528905046081400263932633 79))
 (.exit 4)))
 (.seq (.block 5 (.seq (.reg [oo 72 (.indexAddrS 32 (tq 68) (tq 70)),
   oo 73 (.load true 32 (tq 72) false),
   oo 10 (.alloc true (rp 32 (.sc (.int .u8 0)) [])),
   oz (.store 32 (tq 10) (tq 73))])
 (.seq (.reg [oo 74 (.move (tq 6) false),
   oo 75 (.load true 32 (tq 10) false),
   oo 76 (.callv (tq 74) [((tq 75),0)] []),
   oo 77 (.un .not (tq 76))])
 (.cond (tq 77)
 (.seq (.reg [oo 2 (.move (.const (.sc (.bool false))) false)])
 (.seq (.mask (bl 4 79) (bl 528905046081400263932637 79))
 .ret))
 .skip))))
 (.reg [oo 78 (.bin .add (tq 70) (.const (.sc (.int .i64 1)))),
   oo 70 (.move (tq 78) false)]))))
def zco:CC:=(.seq (.reg [oo 58 (.bin .lss (tq 57) (tq 56))])
 (.seq (.cond (tq 58)
 .skip
 (.seq (.mask (bl 66 79) (bl 604444463063240877800187 79))
 (.exit 2)))
 (.seq (.block 3 (.seq (.reg [oo 59 (.indexAddrS 35 (tq 55) (tq 57)),
   oo 60 (.load true 35 (tq 59) false),
   oo 8 (.alloc true (rp 32 (.sc (.int .u8 0)) (rp 2 (.sc (.int .i64 0)) (rp 1 (.sc (.int .u32 0)) [])))),
   oz (.store 35 (tq 8) (tq 60))])
 (.seq (.reg [oo 61 (.move (tq 6) false),
   oo 62 (.fieldAddr 0 (tq 8)),
   oo 63 (.load true 32 (tq 62) false),
   oo 64 (.callv (tq 61) [((tq 63),0)] []),
   oo 65 (.un .not (tq 64))])
 (.cond (tq 65)
 (.seq (.reg [oo 2 (.move (.const (.sc (.bool false))) false)])
 (.seq (.mask (bl 4 79) (bl 604444463063240877800157 79))
 .ret))
 .skip))))
 (.reg [oo 66 (.bin .add (tq 57) (.const (.sc (.int .i64 1)))),
   oo 57 (.move (tq 66) false)]))))
def zdI:CC:=(.seq (.reg [oo 2 (.move (.const (.sc (.bool true))) false)])
 .ret)
def zc4:CC:=(.seq (.seq (.reg [oo 67 (.fieldAddr 4 (tq 1)),
   oo 68 (.load false 1 (tq 67) false),
   oo 69 (.lenS (tq 68)),
   oo 70 (.move (.const (.sc (.int .i64 0))) false)])
 (.block 4 (.loop (bl 2066035336255469781056 79) (bl 528905046081400263932665 79)
 zb1)))
 zdI)
def zdq:CC:=(.seq (.reg [oo 31 (.bin .lss (tq 30) (tq 29))])
 (.seq (.cond (tq 31)
 .skip
 (.seq (.mask (bl 2 79) (bl 604462909807314587351755 79))
 (.exit 0)))
 (.seq (.block 1 (.seq (.reg [oo 32 (.indexAddrS 1 (tq 28) (tq 30)),
   oo 33 (.load false 1 (tq 32) false),
   oo 4 (.move (tq 33) false)])
 (.seq (.reg [oo 34 (.move (tq 4) false),
   oo 35 (.bin .lss (tq 34) (.const (.sc (.int .i64 0))))])
 (.cond (tq 35)
 (.seq (.reg [oo 2 (.move (.const (.sc (.bool false))) false)])
 (.seq (.mask (bl 4 79) (bl 604462909807314587351757 79))
 .ret))
 .skip))))
 (.reg [oo 36 (.bin .add (tq 30) (.const (.sc (.int .i64 1)))),
   oo 30 (.move (tq 36) false)]))))
def zeq:CC:=(.seq (.seq (.dreg [] [(oo 37 (.fieldAddr 2 (tq 1)),q0),
   (oo 38 (.load false 1 (tq 37) false),q0),
   (oo 39 (.lenS (tq 38)),q0),
   (oo 40 (.bin .eql (tq 39) (.const (.sc (.int .i64 2)))),q0),
   (oo 41 (.move (tq 40) false),q0),
   (⟨(some 42),false,(some (41,true)),.fieldAddr 2 (tq 1)⟩,q0),
   (⟨(some 43),false,(some (41,true)),.load false 1 (tq 42) false⟩,ql 1 [] []),
   (⟨(some 44),false,(some (41,true)),.indexAddrS 1 (tq 43) (.const (.sc (.int .i64 0)))⟩,q0),
   (⟨(some 45),false,(some (41,true)),.load false 1 (tq 44) false⟩,qc [1] []),
   (⟨(some 46),false,(some (41,true)),.fieldAddr 2 (tq 1)⟩,q0),
   (⟨(some 47),false,(some (41,true)),.load false 1 (tq 46) false⟩,ql 1 [] []),
   (⟨(some 48),false,(some (41,true)),.indexAddrS 1 (tq 47) (.const (.sc (.int .i64 1)))⟩,q0),
   (⟨(some 49),false,(some (41,true)),.load false 1 (tq 48) false⟩,qc [1] []),
   (⟨(some 50),false,(some (41,true)),.bin .eql (tq 45) (tq 49)⟩,q0),
   (oo 51 (.pick (tq 41) (tq 50) (.const (.sc (.bool false)))),q0)])
 (.cond (tq 51)
 (.seq (.reg [oo 2 (.move (.const (.sc (.bool false))) false)])
 .ret)
 .skip))
 (.seq (.reg [oo 52 (.makeMap),
   oo 5 (.alloc false [(.sc (.map none))]),
   oz (.store 1 (tq 5) (tq 52))])
 (.seq (.reg [oo 53 (.makeFunc 369 [(tq 5)]),
   oo 6 (.move (tq 53) false)])
 (.seq (.seq (.reg [oo 54 (.fieldAddr 3 (tq 1)),
   oo 55 (.load false 1 (tq 54) false),
   oo 56 (.lenS (tq 55)),
   oo 57 (.move (.const (.sc (.int .i64 0))) false)])
 (.block 2 (.loop (bl 252201579132747842 79) (bl 604444463063240877800187 79)
 zco)))
 zc4))))
def xS:CF:=⟨79,[.tmp 2],
 (.seq (.reg [oo 1 (.box true (tq 0)),
   oo 2 (.move (.const (.sc (.bool false))) false)])
 (.seq (.seq (.reg [oo 11 (.fieldAddr 2 (tq 1)),
   oo 12 (.load false 1 (tq 11) false),
   oo 13 (.lenS (tq 12)),
   oo 14 (.bin .gtr (tq 13) (.const (.sc (.int .i64 2)))),
   oo 15 (.move (tq 14) false),
   ⟨(some 16),false,(some (15,false)),.fieldAddr 3 (tq 1)⟩,
   ⟨(some 17),false,(some (15,false)),.load false 1 (tq 16) false⟩,
   ⟨(some 18),false,(some (15,false)),.lenS (tq 17)⟩,
   ⟨(some 19),false,(some (15,false)),.bin .gtr (tq 18) (.const (.sc (.int .i64 64)))⟩,
   oo 20 (.pick (tq 15) (.const (.sc (.bool true))) (tq 19)),
   oo 21 (.move (tq 20) false),
   ⟨(some 22),false,(some (21,false)),.fieldAddr 4 (tq 1)⟩,
   ⟨(some 23),false,(some (21,false)),.load false 1 (tq 22) false⟩,
   ⟨(some 24),false,(some (21,false)),.lenS (tq 23)⟩,
   ⟨(some 25),false,(some (21,false)),.bin .gtr (tq 24) (.const (.sc (.int .i64 2048)))⟩,
   oo 26 (.pick (tq 21) (.const (.sc (.bool true))) (tq 25))])
 (.cond (tq 26)
 (.seq (.reg [oo 2 (.move (.const (.sc (.bool false))) false)])
 .ret)
 .skip))
 (.seq (.seq (.reg [oo 27 (.fieldAddr 2 (tq 1)),
   oo 28 (.load false 1 (tq 27) false),
   oo 29 (.lenS (tq 28)),
   oo 30 (.move (.const (.sc (.int .i64 0))) false)])
 (.block 0 (.loop (bl 1879048194 79) (bl 604462909807314587351755 79)
 zdq)))
 zeq)))⟩
def zlX:Hint:=⟨[(0,0)],[],[none,none,none,some ((bl 1879048194 79),(bl 604462909807314587351755 79)),none,some ((bl 2 79),(bl 604462909807314587351755 79)),none,none,some ((bl 4 79),(bl 604462909807314587351757 79)),none,none,none,some ((bl 252201579132747842 79),(bl 604444463063240877800187 79)),none,some ((bl 66 79),(bl 604444463063240877800187 79)),none,none,some ((bl 4 79),(bl 604444463063240877800157 79)),none,some ((bl 2066035336255469781056 79),(bl 528905046081400263932665 79)),none,some ((bl 0 79),(bl 528905046081400263932633 79)),none,none,some ((bl 4 79),(bl 528905046081400263932637 79)),none],[],[],false,false⟩
def xB:Nat→Sh:=zay [(12,(.sl 1)),(17,(.sl 35)),(23,(.sl 32)),(28,(.sl 1)),(33,(.int .i64)),(38,(.sl 1)),(43,(.sl 1)),(45,(.int .i64)),(47,(.sl 1)),(49,(.int .i64)),(55,(.sl 35)),(68,(.sl 32))]
def zC (zd:yq) (L:Nat):CBC:=(zI 369 (zgv zd L) noC)
def zeQ:St→St:=zab 0 (bl 1879048194 79) (bl 604462909807314587351755 79)
def zdA:St→St:=zab 0 (bl 252201579132747842 79) (bl 604444463063240877800187 79)
def zdn:St→St:=zab 0 (bl 2066035336255469781056 79) (bl 528905046081400263932665 79)
def zdK (p28:List (List V)) (p29 p30:Int) (b1:List V):St:=⟨(jn 1 ((V.ptr 1 0)::(jn 26 ((V.sl 1 p28)::((V.sc (.int .i64 p29))::((V.sc (.int .i64 p30))::(jn 48 []))))))),(gn 1 ((.live true b1)::(gn 77 [])))⟩
def zg5 (p2:Bool):St:=⟨(jn 2 ((V.sc (.bool p2))::(jn 76 []))),(gn 79 [])⟩
def zff (b1:List V):St:=⟨(jn 1 ((V.ptr 1 0)::(jn 77 []))),(gn 1 ((.live true b1)::(gn 77 [])))⟩
def zcV (p55:List (List V)) (p56 p57:Int) (b1:List V) (b52:List (V × V)):St:=⟨(jn 1 ((V.ptr 1 0)::(jn 4 ((V.fn 369 [(V.ptr 5 0)])::(jn 48 ((V.sl 35 p55)::((V.sc (.int .i64 p56))::((V.sc (.int .i64 p57))::(jn 21 []))))))))),(gn 1 ((.live true b1)::(gn 3 ((.live false [(V.mp 52)])::(gn 46 ((.mp b52)::(gn 26 [])))))))⟩
def zcj (p2:Bool) (b52:List (V × V)):St:=⟨(jn 2 ((V.sc (.bool p2))::(jn 76 []))),(gn 52 ((.mp b52)::(gn 26 [])))⟩
def zfc (b1:List V) (b52:List (V × V)):St:=⟨(jn 1 ((V.ptr 1 0)::(jn 4 ((V.fn 369 [(V.ptr 5 0)])::(jn 72 []))))),(gn 1 ((.live true b1)::(gn 3 ((.live false [(V.mp 52)])::(gn 46 ((.mp b52)::(gn 26 [])))))))⟩
def zcO (p68:List (List V)) (p69 p70:Int) (b52:List (V × V)):St:=⟨(jn 6 ((V.fn 369 [(V.ptr 5 0)])::(jn 61 ((V.sl 32 p68)::((V.sc (.int .i64 p69))::((V.sc (.int .i64 p70))::(jn 8 []))))))),(gn 5 ((.live false [(V.mp 52)])::(gn 46 ((.mp b52)::(gn 26 [])))))⟩
def zhz (b52:List (V × V)):St:=⟨(jn 79 []),(gn 52 ((.mp b52)::(gn 26 [])))⟩
def zk6 {β:Type} (zd:yq) (L:Nat) (p0:List V) (k_fin:Bool→Option β) (k_hbbaba:List (List V)→Int→Int→List V→Option β):Option β :=
 cLd 1 p0 2 fun v0 =>
 ifb (decide (((List.length v0:Nat):Int) > (2:Int))) (
 k_fin false) (
 cLd 35 p0 3 fun v1 =>
 ifb (decide (((List.length v1:Nat):Int) > (64:Int))) (
 k_fin false) (
 cLd 32 p0 4 fun v2 =>
 ifb (decide (((List.length v2:Nat):Int) > (2048:Int))) (
 k_fin false) (
 cLd 1 p0 2 fun v3 =>
 k_hbbaba v3 ((List.length v3:Nat):Int) (0:Int) p0)))
theorem zq4 {β:Type} (zd:yq) (L:Nat) (p0:List V) (k:KK β):xH xB (zC zd L) L xS [(V.agg p0)] [] k=zk6 zd L p0 (fun p0=>k (V.sc (.bool p0)) []) (fun p28 p29 p30 b1=>yR (yu xB (zC zd L) 0 L zdq) zeQ L (zdK p28 p29 p30 b1) (yH 0 (zaC (yu xB (zC zd L) 0 L zeq) (za1 0 (CF.res xS) k)))):=by kernel_rfl
def zg1 {β:Type} (zd:yq) (L:Nat) (p28:List (List V)) (p29 p30:Int) (b1:List V) (k_ret:Bool→Option β) (k_hbbaba:List (List V)→Int→Int→List V→Option β) (k_x0:List V→Option β):Option β :=
 ifb (decide (p30 < p29)) (
 idx p28 p30 fun c4 =>
 cI .i64 c4 0 fun v5 =>
 ifb (decide (v5 < (0:Int))) (
 k_ret false) (
 lt (IntKind.wrap .i64 ((p30:Int)+(1:Int))) fun x6 =>
 k_hbbaba p28 p29 x6 b1)) (
 k_x0 b1)
theorem znI {β:Type} (zd:yq) (L:Nat) (p28:List (List V)) (p29 p30:Int) (b1:List V) (X:St→Option β) (K:KT β):yu xB (zC zd L) 0 L zdq (zdK p28 p29 p30 b1) (zdL zeQ X K)=zg1 zd L p28 p29 p30 b1 (fun p2=>K .ret (zg5 p2)) (fun p28 p29 p30 b1=>X (zdK p28 p29 p30 b1)) (fun b1=>K (.exit 0) (zff b1)):=by kernel_rfl
def ziE {β:Type} (zd:yq) (L:Nat) (p2:Bool) (k_fin:Bool→Option β):Option β :=
 k_fin p2
theorem zlO {β:Type} (zd:yq) (L:Nat) (p2:Bool) (k:KK β):(yH 0 (zaC (yu xB (zC zd L) 0 L zeq) (za1 0 (CF.res xS) k))) .ret (zg5 p2)=ziE zd L p2 (fun p0=>k (V.sc (.bool p0)) []):=by kernel_rfl
def zfO {β:Type} (zd:yq) (L:Nat) (b1:List V) (k_fin:Bool→Option β) (k_hbbbbbbaba:List (List V)→Int→Int→List V→List (V × V)→Option β):Option β :=
 cLd 1 b1 2 fun v7 =>
 ifb ((((List.length v7:Nat):Int):Int) == (2:Int)) (
 cLd 1 b1 2 fun v8 =>
 idx v8 (0:Int) fun c9 =>
 cI .i64 c9 0 fun v10 =>
 cLd 1 b1 2 fun v11 =>
 idx v11 (1:Int) fun c12 =>
 cI .i64 c12 0 fun v13 =>
 ifb ((v10:Int) == v13) (
 k_fin false) (
 cLd 35 b1 3 fun v14 =>
 k_hbbbbbbaba v14 ((List.length v14:Nat):Int) (0:Int) b1 ([]:List (V × V)))) (
 cLd 35 b1 3 fun v15 =>
 k_hbbbbbbaba v15 ((List.length v15:Nat):Int) (0:Int) b1 ([]:List (V × V)))
theorem zmj {β:Type} (zd:yq) (L:Nat) (b1:List V) (k:KK β):(yH 0 (zaC (yu xB (zC zd L) 0 L zeq) (za1 0 (CF.res xS) k))) (.exit 0) (zff b1)=zfO zd L b1 (fun p0=>k (V.sc (.bool p0)) []) (fun p55 p56 p57 b1 b52=>yR (yu xB (zC zd L) 0 L zco) zdA L (zcV p55 p56 p57 b1 b52) (yH 2 (zaC (yu xB (zC zd L) 0 L zc4) (za1 0 (CF.res xS) k)))):=by kernel_rfl
def ze0 {β:Type} (zd:yq) (L:Nat) (p55:List (List V)) (p56 p57:Int) (b1:List V) (b52:List (V × V)) (k_retv1:Bool→List (V × V)→Option β) (k_hbbbbbbaba:List (List V)→Int→Int→List V→List (V × V)→Option β) (k_x2:List V→List (V × V)→Option β):Option β :=
 ifb (decide (p57 < p56)) (
 idx p55 p57 fun c16 =>
 chk ((List.length (List.take 35 c16))=35∧0+35≤35) (
 lt (ya (List.replicate 32 (V.sc (.int .u8 (0:Int)))++[(V.sc (.int .i64 (0:Int))),(V.sc (.int .i64 (0:Int))),(V.sc (.int .u32 (0:Int)))]) 0 (List.take 35 c16)) fun r17 =>
 chk (0+32≤(List.length r17)) (
 zd β L (List.take 32 r17) b52 (fun v18 v19 =>
 ifb (!v18) (
 k_retv1 false v19) (
 lt (IntKind.wrap .i64 ((p57:Int)+(1:Int))) fun x20 =>
 k_hbbbbbbaba p55 p56 x20 b1 v19))))) (
 k_x2 b1 b52)
theorem zlh {β:Type} (zd:yq) (L:Nat) (p55:List (List V)) (p56 p57:Int) (b1:List V) (b52:List (V × V)) (X:St→Option β) (K:KT β):yu xB (zC zd L) 0 L zco (zcV p55 p56 p57 b1 b52) (zdL zdA X K)=ze0 zd L p55 p56 p57 b1 b52 (fun p2 b52=>K .ret (zcj p2 b52)) (fun p55 p56 p57 b1 b52=>X (zcV p55 p56 p57 b1 b52)) (fun b1 b52=>K (.exit 2) (zfc b1 b52)):=by kernel_rfl
def zdC {β:Type} (zd:yq) (L:Nat) (p2:Bool) (b52:List (V × V)) (k_fin:Bool→Option β):Option β :=
 k_fin p2
theorem zi8 {β:Type} (zd:yq) (L:Nat) (p2:Bool) (b52:List (V × V)) (k:KK β):(yH 2 (zaC (yu xB (zC zd L) 0 L zc4) (za1 0 (CF.res xS) k))) .ret (zcj p2 b52)=zdC zd L p2 b52 (fun p0=>k (V.sc (.bool p0)) []):=by kernel_rfl
def zep {β:Type} (zd:yq) (L:Nat) (b1:List V) (b52:List (V × V)) (k_hbbbbbbbaba:List (List V)→Int→Int→List (V × V)→Option β):Option β :=
 cLd 32 b1 4 fun v21 =>
 k_hbbbbbbbaba v21 ((List.length v21:Nat):Int) (0:Int) b52
theorem zkq {β:Type} (zd:yq) (L:Nat) (b1:List V) (b52:List (V × V)) (k:KK β):(yH 2 (zaC (yu xB (zC zd L) 0 L zc4) (za1 0 (CF.res xS) k))) (.exit 2) (zfc b1 b52)=zep zd L b1 b52 (fun p68 p69 p70 b52=>yR (yu xB (zC zd L) 0 L zb1) zdn L (zcO p68 p69 p70 b52) (yH 4 (zaC (yu xB (zC zd L) 0 L zdI) (za1 0 (CF.res xS) k)))):=by kernel_rfl
def zeM {β:Type} (zd:yq) (L:Nat) (p68:List (List V)) (p69 p70:Int) (b52:List (V × V)) (k_retv1:Bool→List (V × V)→Option β) (k_hbbbbbbbaba:List (List V)→Int→Int→List (V × V)→Option β) (k_x4:List (V × V)→Option β):Option β :=
 ifb (decide (p70 < p69)) (
 idx p68 p70 fun c22 =>
 chk ((List.length (List.take 32 c22))=32∧0+32≤32) (
 lt (ya (List.replicate 32 (V.sc (.int .u8 (0:Int)))) 0 (List.take 32 c22)) fun r23 =>
 chk (0+32≤(List.length r23)) (
 zd β L (List.take 32 r23) b52 (fun v24 v25 =>
 ifb (!v24) (
 k_retv1 false v25) (
 lt (IntKind.wrap .i64 ((p70:Int)+(1:Int))) fun x26 =>
 k_hbbbbbbbaba p68 p69 x26 v25))))) (
 k_x4 b52)
theorem zkU {β:Type} (zd:yq) (L:Nat) (p68:List (List V)) (p69 p70:Int) (b52:List (V × V)) (X:St→Option β) (K:KT β):yu xB (zC zd L) 0 L zb1 (zcO p68 p69 p70 b52) (zdL zdn X K)=zeM zd L p68 p69 p70 b52 (fun p2 b52=>K .ret (zcj p2 b52)) (fun p68 p69 p70 b52=>X (zcO p68 p69 p70 b52)) (fun b52=>K (.exit 4) (zhz b52)):=by kernel_rfl
def zdt {β:Type} (zd:yq) (L:Nat) (p2:Bool) (b52:List (V × V)) (k_fin:Bool→Option β):Option β :=
 k_fin p2
theorem ziF {β:Type} (zd:yq) (L:Nat) (p2:Bool) (b52:List (V × V)) (k:KK β):(yH 4 (zaC (yu xB (zC zd L) 0 L zdI) (za1 0 (CF.res xS) k))) .ret (zcj p2 b52)=zdt zd L p2 b52 (fun p0=>k (V.sc (.bool p0)) []):=by kernel_rfl
def zeb {β:Type} (zd:yq) (L:Nat) (b52:List (V × V)) (k_fin:Bool→Option β):Option β :=
 k_fin true
theorem zjG {β:Type} (zd:yq) (L:Nat) (b52:List (V × V)) (k:KK β):(yH 4 (zaC (yu xB (zC zd L) 0 L zdI) (za1 0 (CF.res xS) k))) (.exit 4) (zhz b52)=zeb zd L b52 (fun p0=>k (V.sc (.bool p0)) []):=by kernel_rfl
def zdF {β:Type} (zd:yq) (L:Nat) (k_ret:Bool→Option β) (k_x0:List V→Option β):Nat→List (List V)→Int→Int→List V→Option β
 | 0,_,_,_,_=>none
 | n+1,p28,p29,p30,b1=>zg1 zd L p28 p29 p30 b1 k_ret (fun p28 p29 p30 b1=>zdF zd L k_ret k_x0 n p28 p29 p30 b1) k_x0
theorem ziw {β:Type} (zd:yq) (L:Nat) (K:KT β):∀ (n:Nat) (p28:List (List V)) (p29 p30:Int) (b1:List V),yR (yu xB (zC zd L) 0 L zdq) zeQ n (zdK p28 p29 p30 b1) K=zdF zd L (fun p2=>K .ret (zg5 p2)) (fun b1=>K (.exit 0) (zff b1)) n p28 p29 p30 b1:=by
 intro n
 induction n with
 | zero=>intros; rfl
 | succ n ih =>
  intro p28 p29 p30 b1
  refine (znI zd L p28 p29 p30 b1 (fun σ=>yR (yu xB (zC zd L) 0 L zdq) zeQ n σ K) K).trans ?_
  simp only [ih]
  rfl
def zbM {β:Type} (zd:yq) (L:Nat) (k_retv1:Bool→List (V × V)→Option β) (k_x2:List V→List (V × V)→Option β):Nat→List (List V)→Int→Int→List V→List (V × V)→Option β
 | 0,_,_,_,_,_=>none
 | n+1,p55,p56,p57,b1,b52=>ze0 zd L p55 p56 p57 b1 b52 k_retv1 (fun p55 p56 p57 b1 b52=>zbM zd L k_retv1 k_x2 n p55 p56 p57 b1 b52) k_x2
theorem zgi {β:Type} (zd:yq) (L:Nat) (K:KT β):∀ (n:Nat) (p55:List (List V)) (p56 p57:Int) (b1:List V) (b52:List (V × V)),yR (yu xB (zC zd L) 0 L zco) zdA n (zcV p55 p56 p57 b1 b52) K=zbM zd L (fun p2 b52=>K .ret (zcj p2 b52)) (fun b1 b52=>K (.exit 2) (zfc b1 b52)) n p55 p56 p57 b1 b52:=by
 intro n
 induction n with
 | zero=>intros; rfl
 | succ n ih =>
  intro p55 p56 p57 b1 b52
  refine (zlh zd L p55 p56 p57 b1 b52 (fun σ=>yR (yu xB (zC zd L) 0 L zco) zdA n σ K) K).trans ?_
  simp only [ih]
  rfl
def zcm {β:Type} (zd:yq) (L:Nat) (k_retv1:Bool→List (V × V)→Option β) (k_x4:List (V × V)→Option β):Nat→List (List V)→Int→Int→List (V × V)→Option β
 | 0,_,_,_,_=>none
 | n+1,p68,p69,p70,b52=>zeM zd L p68 p69 p70 b52 k_retv1 (fun p68 p69 p70 b52=>zcm zd L k_retv1 k_x4 n p68 p69 p70 b52) k_x4
theorem zf4 {β:Type} (zd:yq) (L:Nat) (K:KT β):∀ (n:Nat) (p68:List (List V)) (p69 p70:Int) (b52:List (V × V)),yR (yu xB (zC zd L) 0 L zb1) zdn n (zcO p68 p69 p70 b52) K=zcm zd L (fun p2 b52=>K .ret (zcj p2 b52)) (fun b52=>K (.exit 4) (zhz b52)) n p68 p69 p70 b52:=by
 intro n
 induction n with
 | zero=>intros; rfl
 | succ n ih =>
  intro p68 p69 p70 b52
  refine (zkU zd L p68 p69 p70 b52 (fun σ=>yR (yu xB (zC zd L) 0 L zb1) zdn n σ K) K).trans ?_
  simp only [ih]
  rfl
def zbQ {β:Type} (zd:yq) (L:Nat) (b1:List V) (b52:List (V × V)) (k_fin:Bool→Option β):Option β :=
 zep zd L b1 b52 (fun p68 p69 p70 b52=>zcm zd L (fun p2 b52=>zdt zd L p2 b52 k_fin) (fun b52=>zeb zd L b52 k_fin) L p68 p69 p70 b52)
theorem zj1 {β:Type} (zd:yq) (L:Nat) (b1:List V) (b52:List (V × V)) (k:KK β):(yH 2 (zaC (yu xB (zC zd L) 0 L zc4) (za1 0 (CF.res xS) k))) (.exit 2) (zfc b1 b52)=zbQ zd L b1 b52 (fun p0=>k (V.sc (.bool p0)) []):=by
 refine (zkq zd L b1 b52 k).trans ?_
 unfold zbQ
 first
  | (simp only [zf4,ziF,zjG]; done)
  | (simp only [zf4]; rfl)
def zdR {β:Type} (zd:yq) (L:Nat) (b1:List V) (k_fin:Bool→Option β):Option β :=
 zfO zd L b1 k_fin (fun p55 p56 p57 b1 b52=>zbM zd L (fun p2 b52=>zdC zd L p2 b52 k_fin) (fun b1 b52=>zbQ zd L b1 b52 k_fin) L p55 p56 p57 b1 b52)
theorem zlP {β:Type} (zd:yq) (L:Nat) (b1:List V) (k:KK β):(yH 0 (zaC (yu xB (zC zd L) 0 L zeq) (za1 0 (CF.res xS) k))) (.exit 0) (zff b1)=zdR zd L b1 (fun p0=>k (V.sc (.bool p0)) []):=by
 refine (zmj zd L b1 k).trans ?_
 unfold zdR
 first
  | (simp only [zgi,zi8,zj1]; done)
  | (simp only [zgi]; rfl)
def zhX {β:Type} (zd:yq) (L:Nat) (p0:List V) (k_fin:Bool→Option β):Option β :=
 zk6 zd L p0 k_fin (fun p28 p29 p30 b1=>zdF zd L (fun p2=>ziE zd L p2 k_fin) (fun b1=>zdR zd L b1 k_fin) L p28 p29 p30 b1)
theorem zrr {β:Type} (zd:yq) (L:Nat) (p0:List V) (k:KK β):xH xB (zC zd L) L xS [(V.agg p0)] [] k=zhX zd L p0 (fun p0=>k (V.sc (.bool p0)) []):=by
 refine (zq4 zd L p0 k).trans ?_
 unfold zhX
 first
  | (simp only [ziw,zlO,zlP]; done)
  | (simp only [ziw]; rfl)
abbrev zb8:=∀ (β:Type),Nat→List V→(Bool→Option β)→Option β
def zr (β:Type) (L:Nat) (p0:List V) (k_fin:Bool→Option β):Option β:=zhX zd L p0 k_fin
def zeP (zr:zb8) (L:Nat) (β:Type) (args:List V) (bor:Bor) (k:KK β):Option β:=match args,bor with
 | [a0],[]=>aG a0 fun p0=>zr β L p0 (fun p0=>k (V.sc (.bool p0)) [])
 | _,_=>none
theorem zrd (L:Nat) (β:Type) (args:List V) (bor:Bor) (k:KK β) (r:β) (h:zeP zr L β args bor k=some r):xH xB (zC zd L) L xS args bor k=some r:=by
 unfold zeP at h
 split at h
 ·have q:=zdX h; clear h; obtain ⟨p0,rfl,h⟩:=q
  exact (zrr zd L p0 k).trans h
 ·cases h
def zgj:CF:=⟨8,[.tmp 3],
 (.seq (.reg [oo 2 (.box true (tq 0)),
   oo 3 (.move (.const (.sc (.bool false))) false)])
 (.seq (.reg [oo 4 (.fieldAddr 0 (tq 2)),
   oo 5 (.load true 32 (tq 4) false),
   oo 6 (.load true 32 (tq 1) false),
   oo 7 (.eqAgg false 32 (tq 5) (tq 6)),
   oo 3 (.move (tq 7) false)])
 .ret))⟩
def zle:Hint:=⟨[],[],[none],[],[],false,false⟩
def zjk:Nat→Sh:=zay []
def ziK (L:Nat):CBC:=noC
def zjP {β:Type} (L:Nat) (p0 b0:List V) (k_fin:Bool→List V→Option β):Option β :=
 chk (0+32≤(List.length p0)) (
 chk (0+32≤(List.length b0)) (
 eqC 32 (List.take 32 p0) (List.take 32 b0) fun v0 =>
 k_fin v0 b0))
theorem zqr {β:Type} (L:Nat) (p0 b0:List V) (k:KK β):xH zjk (ziK L) L zgj [(V.agg p0),(V.ptr 0 0)] [(.live true b0)] k=zjP L p0 b0 (fun p0 b0=>k (V.sc (.bool p0)) [(.live true b0)]):=by kernel_rfl
abbrev yB:=∀ (β:Type),Nat→List V→List V→(Bool→List V→Option β)→Option β
def xd (β:Type) (L:Nat) (p0 b0:List V) (k_fin:Bool→List V→Option β):Option β:=zjP L p0 b0 k_fin
def zfv (xd:yB) (L:Nat) (β:Type) (args:List V) (bor:Bor) (k:KK β):Option β:=match args,bor with
 | [a0,a1],[(.live true b0)]=>aG a0 fun p0=>aP 0 0 a1 (xd β L p0 b0 (fun p0 b0=>k (V.sc (.bool p0)) [(.live true b0)]))
 | _,_=>none
theorem zqn (L:Nat) (β:Type) (args:List V) (bor:Bor) (k:KK β) (r:β) (h:zfv xd L β args bor k=some r):xH zjk (ziK L) L zgj args bor k=some r:=by
 unfold zfv at h
 split at h
 ·have q:=zdX h; clear h; obtain ⟨p0,rfl,h⟩:=q
  have q:=znk h; clear h; obtain ⟨rfl,h⟩:=q
  exact (zqr L p0 _ k).trans h
 ·cases h
def xP:CC:=(.seq (.reg [oo 9 (.bin .lss (tq 8) (tq 7))])
 (.seq (.cond (tq 9)
 .skip
 (.seq (.mask (bl 0 19) (bl 458703 19))
 (.exit 0)))
 (.seq (.block 1 (.seq (.reg [oo 10 (.move (tq 8) false),
   oo 5 (.move (tq 10) false)])
 (.seq (.reg [oo 11 (.move (tq 1) false),
   oo 12 (.move (tq 0) false),
   oo 13 (.move (tq 5) false),
   oo 14 (.indexAddrS 35 (tq 12) (tq 13)),
   oo 15 (.load true 35 (tq 14) false),
   oo 16 (.callv (tq 11) [((tq 15),0)] [])])
 (.cond (tq 16)
 (.seq (.reg [oo 17 (.move (tq 5) false),
   oo 4 (.move (tq 17) false)])
 (.seq (.mask (bl 16 19) (bl 458719 19))
 .ret))
 .skip))))
 (.reg [oo 18 (.bin .add (tq 8) (.const (.sc (.int .i64 1)))),
   oo 8 (.move (tq 18) false)]))))
def zaA:CC:=(.seq (.reg [oo 4 (.move (.const (.sc (.int .i64 (-1)))) false)])
 .ret)
def zz:CF:=⟨19,[.tmp 4],
 (.seq (.reg [oo 4 (.move (.const (.sc (.int .i64 0))) false)])
 (.seq (.seq (.reg [oo 6 (.move (tq 0) false),
   oo 7 (.lenS (tq 6)),
   oo 8 (.move (.const (.sc (.int .i64 0))) false)])
 (.block 0 (.loop (bl 387 19) (bl 458703 19)
 xP)))
 zaA))⟩
def zda:Hint:=⟨[],[],[none,some ((bl 387 19),(bl 458703 19)),none,some ((bl 0 19),(bl 458703 19)),none,none,some ((bl 16 19),(bl 458719 19)),none],[],[],false,false⟩
def yw:Nat→Sh:=zay []
def xw (xd:yB) (L:Nat):CBC:=(zI 373 (zfv xd L) noC)
def zaf:St→St:=zab 1 (bl 387 19) (bl 458703 19)
def z5 (p0:List (List V)) (p7 p8:Int) (b0:List V):St:=⟨((V.sl 35 p0)::((V.fn 373 [(V.ptr 0 0)])::(jn 5 ((V.sc (.int .i64 p7))::((V.sc (.int .i64 p8))::(jn 10 [])))))),((.live true b0)::(gn 19 []))⟩
def zbm (p4:Int) (b0:List V):St:=⟨(jn 4 ((V.sc (.int .i64 p4))::(jn 14 []))),((.live true b0)::(gn 19 []))⟩
def zbz (b0:List V):St:=⟨(jn 19 []),((.live true b0)::(gn 19 []))⟩
def zbW {β:Type} (xd:yB) (L:Nat) (p0:List (List V)) (b0:List V) (k_hbaba:List (List V)→Int→Int→List V→Option β):Option β :=
 k_hbaba p0 ((List.length p0:Nat):Int) (0:Int) b0
theorem zfQ {β:Type} (xd:yB) (L:Nat) (p0:List (List V)) (b0:List V) (k:KK β):xH yw (xw xd L) L zz [(V.sl 35 p0),(V.fn 373 [(V.ptr 0 0)])] [(.live true b0)] k=zbW xd L p0 b0 (fun p0 p7 p8 b0=>yR (yu yw (xw xd L) 1 L xP) zaf L (z5 p0 p7 p8 b0) (yH 0 (zaC (yu yw (xw xd L) 1 L zaA) (za1 1 (CF.res zz) k)))):=by kernel_rfl
def zby {β:Type} (xd:yB) (L:Nat) (p0:List (List V)) (p7 p8:Int) (b0:List V) (k_ret:Int→List V→Option β) (k_hbaba:List (List V)→Int→Int→List V→Option β) (k_x0:List V→Option β):Option β :=
 ifb (decide (p8 < p7)) (
 idx p0 p8 fun c0 =>
 xd β L (List.take 35 c0) b0 (fun v1 v2 =>
 chk ([(List.length v2)]=[(List.length b0)]) (
 ifb v1 (
 k_ret p8 v2) (
 lt (IntKind.wrap .i64 ((p8:Int)+(1:Int))) fun x3 =>
 k_hbaba p0 p7 x3 v2)))) (
 k_x0 b0)
theorem zeX {β:Type} (xd:yB) (L:Nat) (p0:List (List V)) (p7 p8:Int) (b0:List V) (X:St→Option β) (K:KT β):yu yw (xw xd L) 1 L xP (z5 p0 p7 p8 b0) (zdL zaf X K)=zby xd L p0 p7 p8 b0 (fun p4 b0=>K .ret (zbm p4 b0)) (fun p0 p7 p8 b0=>X (z5 p0 p7 p8 b0)) (fun b0=>K (.exit 0) (zbz b0)):=by kernel_rfl
def zcG {β:Type} (xd:yB) (L:Nat) (p4:Int) (b0:List V) (k_fin:Int→List V→Option β):Option β :=
 k_fin p4 b0
theorem zeH {β:Type} (xd:yB) (L:Nat) (p4:Int) (b0:List V) (k:KK β):(yH 0 (zaC (yu yw (xw xd L) 1 L zaA) (za1 1 (CF.res zz) k))) .ret (zbm p4 b0)=zcG xd L p4 b0 (fun p0 b0=>k (V.sc (.int .i64 p0)) [(.live true b0)]):=by kernel_rfl
def zcP {β:Type} (xd:yB) (L:Nat) (b0:List V) (k_fin:Int→List V→Option β):Option β :=
 k_fin (-1:Int) b0
theorem zeK {β:Type} (xd:yB) (L:Nat) (b0:List V) (k:KK β):(yH 0 (zaC (yu yw (xw xd L) 1 L zaA) (za1 1 (CF.res zz) k))) (.exit 0) (zbz b0)=zcP xd L b0 (fun p0 b0=>k (V.sc (.int .i64 p0)) [(.live true b0)]):=by kernel_rfl
def zR {β:Type} (xd:yB) (L:Nat) (k_ret:Int→List V→Option β) (k_x0:List V→Option β):Nat→List (List V)→Int→Int→List V→Option β
 | 0,_,_,_,_=>none
 | n+1,p0,p7,p8,b0=>zby xd L p0 p7 p8 b0 k_ret (fun p0 p7 p8 b0=>zR xd L k_ret k_x0 n p0 p7 p8 b0) k_x0
theorem zcE {β:Type} (xd:yB) (L:Nat) (K:KT β):∀ (n:Nat) (p0:List (List V)) (p7 p8:Int) (b0:List V),yR (yu yw (xw xd L) 1 L xP) zaf n (z5 p0 p7 p8 b0) K=zR xd L (fun p4 b0=>K .ret (zbm p4 b0)) (fun b0=>K (.exit 0) (zbz b0)) n p0 p7 p8 b0:=by
 intro n
 induction n with
 | zero=>intros; rfl
 | succ n ih =>
  intro p0 p7 p8 b0
  refine (zeX xd L p0 p7 p8 b0 (fun σ=>yR (yu yw (xw xd L) 1 L xP) zaf n σ K) K).trans ?_
  simp only [ih]
  rfl
def zaQ {β:Type} (xd:yB) (L:Nat) (p0:List (List V)) (b0:List V) (k_fin:Int→List V→Option β):Option β :=
 zbW xd L p0 b0 (fun p0 p7 p8 b0=>zR xd L (fun p4 b0=>zcG xd L p4 b0 k_fin) (fun b0=>zcP xd L b0 k_fin) L p0 p7 p8 b0)
theorem zfZ {β:Type} (xd:yB) (L:Nat) (p0:List (List V)) (b0:List V) (k:KK β):xH yw (xw xd L) L zz [(V.sl 35 p0),(V.fn 373 [(V.ptr 0 0)])] [(.live true b0)] k=zaQ xd L p0 b0 (fun p0 b0=>k (V.sc (.int .i64 p0)) [(.live true b0)]):=by
 refine (zfQ xd L p0 b0 k).trans ?_
 unfold zaQ
 first
  | (simp only [zcE,zeH,zeK]; done)
  | (simp only [zcE]; rfl)
abbrev zaT:=∀ (β:Type),Nat→List (List V)→List V→(Int→List V→Option β)→Option β
def xk (β:Type) (L:Nat) (p0:List (List V)) (b0:List V) (k_fin:Int→List V→Option β):Option β:=zaQ xd L p0 b0 k_fin
def zaP (xk:zaT) (L:Nat) (β:Type) (args:List V) (bor:Bor) (k:KK β):Option β:=match args,bor with
 | [a0,a1],[(.live true b0)]=>aL 35 a0 fun p0=>aF 373 [(0,0)] a1 (xk β L p0 b0 (fun p0 b0=>k (V.sc (.int .i64 p0)) [(.live true b0)]))
 | _,_=>none
theorem zfL (L:Nat) (β:Type) (args:List V) (bor:Bor) (k:KK β) (r:β) (h:zaP xk L β args bor k=some r):xH yw (xw xd L) L zz args bor k=some r:=by
 unfold zaP at h
 split at h
 ·have q:=zb0 h; clear h; obtain ⟨p0,rfl,h⟩:=q
  have q:=zrX h; clear h; obtain ⟨rfl,h⟩:=q
  exact (zfZ xd L p0 _ k).trans h
 ·cases h
def zf2:CF:=⟨9,[.tmp 4],
 (.seq (.reg [oo 2 (.box false (tq 0)),
   oo 3 (.box true (tq 1)),
   oo 4 (.move (.const (.sc (.int .i64 0))) false)])
 (.seq (.reg [oo 5 (.fieldAddr 3 (tq 2)),
   oo 6 (.load false 1 (tq 5) false),
   oo 7 (.makeFunc 373 [(tq 3)]),
   oo 8 (.call 372 [((tq 6),2),((tq 7),2)] []),
   oo 4 (.move (tq 8) false)])
 .ret))⟩
def zmG:Hint:=⟨[(1,3)],[],[none],[],[],false,false⟩
def zkI:Nat→Sh:=zay []
def zkJ (xk:zaT) (L:Nat):CBC:=(zI 372 (zaP xk L) noC)
def zlM {β:Type} (xk:zaT) (L:Nat) (zBO:Int) (zBP:Bool) (zCb zCc zCd:List (List V)) (p1:List V) (k_fin:Int→Option β):Option β :=
 xk β L zCc p1 (fun v0 v1 =>
 chk ([(List.length v1)]=[(List.length p1)]) (
 k_fin v0))
theorem zsB {β:Type} (xk:zaT) (L:Nat) (zBO:Int) (zBP:Bool) (zCb zCc zCd:List (List V)) (p1:List V) (k:KK β):xH zkI (zkJ xk L) L zf2 [(V.st [(V.sc (.int .u32 zBO)),(V.sc (.bool zBP)),(V.sl 1 zCb),(V.sl 35 zCc),(V.sl 32 zCd)]),(V.agg p1)] [] k=zlM xk L zBO zBP zCb zCc zCd p1 (fun p0=>k (V.sc (.int .i64 p0)) []):=by kernel_rfl
abbrev zjj:=∀ (β:Type),Nat→Int→Bool→List (List V)→List (List V)→List (List V)→List V→(Int→Option β)→Option β
def z7 (β:Type) (L:Nat) (zBO:Int) (zBP:Bool) (zCb zCc zCd:List (List V)) (p1:List V) (k_fin:Int→Option β):Option β:=zlM xk L zBO zBP zCb zCc zCd p1 k_fin
def zjd (z7:zjj) (L:Nat) (β:Type) (args:List V) (bor:Bor) (k:KK β):Option β:=match args,bor with
 | [(.st [a0_0,a0_1,a0_2,a0_3,a0_4]),a1],[]=>aI .u32 a0_0 fun zBO=>aB a0_1 fun zBP=>aL 1 a0_2 fun zCb=>aL 35 a0_3 fun zCc=>aL 32 a0_4 fun zCd=>aG a1 fun p1=>z7 β L zBO zBP zCb zCc zCd p1 (fun p0=>k (V.sc (.int .i64 p0)) [])
 | _,_=>none
theorem zrx (L:Nat) (β:Type) (args:List V) (bor:Bor) (k:KK β) (r:β) (h:zjd z7 L β args bor k=some r):xH zkI (zkJ xk L) L zf2 args bor k=some r:=by
 unfold zjd at h
 split at h
 ·have q:=zcp h; clear h; obtain ⟨zBO,rfl,h⟩:=q
  have q:=zlU h; clear h; obtain ⟨zBP,rfl,h⟩:=q
  have q:=zb0 h; clear h; obtain ⟨zCb,rfl,h⟩:=q
  have q:=zb0 h; clear h; obtain ⟨zCc,rfl,h⟩:=q
  have q:=zb0 h; clear h; obtain ⟨zCd,rfl,h⟩:=q
  have q:=zdX h; clear h; obtain ⟨p1,rfl,h⟩:=q
  exact (zsB xk L zBO zBP zCb zCc zCd p1 k).trans h
 ·cases h
def xW:CC:=(.seq (.reg [oo 9 (.bin .lss (tq 8) (tq 7))])
 (.seq (.cond (tq 9)
 .skip
 (.seq (.mask (bl 0 19) (bl 524231 19))
 (.exit 0)))
 (.seq (.block 1 (.seq (.reg [oo 10 (.move (tq 8) false),
   oo 5 (.move (tq 10) false)])
 (.seq (.dreg [] [(oo 11 (.load true 32 (tq 3) false),ql 3 [] []),
   (oo 12 (.move (tq 0) false),q0),
   (oo 13 (.move (tq 5) false),q0),
   (oo 14 (.indexAddrS 32 (tq 12) (tq 13)),q0),
   (oo 15 (.load true 32 (tq 14) false),qc [3] []),
   (oo 16 (.eqAgg false 32 (tq 11) (tq 15)),q0)])
 (.cond (tq 16)
 (.seq (.reg [oo 17 (.move (tq 5) false),
   oo 4 (.move (tq 17) false)])
 (.seq (.mask (bl 16 19) (bl 524247 19))
 .ret))
 .skip))))
 (.reg [oo 18 (.bin .add (tq 8) (.const (.sc (.int .i64 1)))),
   oo 8 (.move (tq 18) false)]))))
def za8:CC:=(.seq (.reg [oo 4 (.move (.const (.sc (.int .i64 (-1)))) false)])
 .ret)
def zJ:CF:=⟨19,[.tmp 4],
 (.seq (.reg [oo 3 (.box true (tq 1)),
   oo 4 (.move (.const (.sc (.int .i64 0))) false)])
 (.seq (.seq (.reg [oo 6 (.move (tq 0) false),
   oo 7 (.lenS (tq 6)),
   oo 8 (.move (.const (.sc (.int .i64 0))) false)])
 (.block 0 (.loop (bl 393 19) (bl 524239 19)
 xW)))
 za8))⟩
def zdE:Hint:=⟨[],[],[none,some ((bl 393 19),(bl 524239 19)),none,some ((bl 0 19),(bl 524231 19)),none,none,some ((bl 16 19),(bl 524247 19)),none],[],[],false,false⟩
def xA:Nat→Sh:=zay []
def yA (L:Nat):CBC:=noC
def zaS:St→St:=zab 0 (bl 393 19) (bl 524239 19)
def zav (p0:List (List V)) (p7 p8:Int) (b3:List V):St:=⟨((V.sl 32 p0)::(jn 2 ((V.ptr 3 0)::(jn 3 ((V.sc (.int .i64 p7))::((V.sc (.int .i64 p8))::(jn 10 []))))))),(gn 3 ((.live true b3)::(gn 15 [])))⟩
def zbO (p4:Int):St:=⟨(jn 4 ((V.sc (.int .i64 p4))::(jn 14 []))),(gn 19 [])⟩
def zbS:St:=⟨(jn 19 []),(gn 19 [])⟩
def zcI {β:Type} (L:Nat) (p0:List (List V)) (p1:List V) (k_hbaba:List (List V)→Int→Int→List V→Option β):Option β :=
 k_hbaba p0 ((List.length p0:Nat):Int) (0:Int) p1
theorem zgX {β:Type} (L:Nat) (p0:List (List V)) (p1:List V) (k:KK β):xH xA (yA L) L zJ [(V.sl 32 p0),(V.agg p1)] [] k=zcI L p0 p1 (fun p0 p7 p8 b3=>yR (yu xA (yA L) 0 L xW) zaS L (zav p0 p7 p8 b3) (yH 0 (zaC (yu xA (yA L) 0 L za8) (za1 0 (CF.res zJ) k)))):=by kernel_rfl
def zbT {β:Type} (L:Nat) (p0:List (List V)) (p7 p8:Int) (b3:List V) (k_ret:Int→Option β) (k_hbaba:List (List V)→Int→Int→List V→Option β) (k_x0:Option β):Option β :=
 ifb (decide (p8 < p7)) (
 chk (0+32≤(List.length b3)) (
 idx p0 p8 fun c0 =>
 eqC 32 (List.take 32 b3) (List.take 32 c0) fun v1 =>
 ifb v1 (
 k_ret p8) (
 lt (IntKind.wrap .i64 ((p8:Int)+(1:Int))) fun x2 =>
 k_hbaba p0 p7 x2 b3))) (
 k_x0)
theorem zfM {β:Type} (L:Nat) (p0:List (List V)) (p7 p8:Int) (b3:List V) (X:St→Option β) (K:KT β):yu xA (yA L) 0 L xW (zav p0 p7 p8 b3) (zdL zaS X K)=zbT L p0 p7 p8 b3 (fun p4=>K .ret (zbO p4)) (fun p0 p7 p8 b3=>X (zav p0 p7 p8 b3)) (K (.exit 0) (zbS)):=by kernel_rfl
def zc2 {β:Type} (L:Nat) (p4:Int) (k_fin:Int→Option β):Option β :=
 k_fin p4
theorem ze4 {β:Type} (L:Nat) (p4:Int) (k:KK β):(yH 0 (zaC (yu xA (yA L) 0 L za8) (za1 0 (CF.res zJ) k))) .ret (zbO p4)=zc2 L p4 (fun p0=>k (V.sc (.int .i64 p0)) []):=by kernel_rfl
def zdh {β:Type} (L:Nat) (k_fin:Int→Option β):Option β :=
 k_fin (-1:Int)
theorem zfq {β:Type} (L:Nat) (k:KK β):(yH 0 (zaC (yu xA (yA L) 0 L za8) (za1 0 (CF.res zJ) k))) (.exit 0) (zbS)=zdh L (fun p0=>k (V.sc (.int .i64 p0)) []):=by kernel_rfl
def zZ {β:Type} (L:Nat) (k_ret:Int→Option β) (k_x0:Option β):Nat→List (List V)→Int→Int→List V→Option β
 | 0,_,_,_,_=>none
 | n+1,p0,p7,p8,b3=>zbT L p0 p7 p8 b3 k_ret (fun p0 p7 p8 b3=>zZ L k_ret k_x0 n p0 p7 p8 b3) k_x0
theorem zc6 {β:Type} (L:Nat) (K:KT β):∀ (n:Nat) (p0:List (List V)) (p7 p8:Int) (b3:List V),yR (yu xA (yA L) 0 L xW) zaS n (zav p0 p7 p8 b3) K=zZ L (fun p4=>K .ret (zbO p4)) (K (.exit 0) (zbS)) n p0 p7 p8 b3:=by
 intro n
 induction n with
 | zero=>intros; rfl
 | succ n ih =>
  intro p0 p7 p8 b3
  refine (zfM L p0 p7 p8 b3 (fun σ=>yR (yu xA (yA L) 0 L xW) zaS n σ K) K).trans ?_
  simp only [ih]
  rfl
def zbw {β:Type} (L:Nat) (p0:List (List V)) (p1:List V) (k_fin:Int→Option β):Option β :=
 zcI L p0 p1 (fun p0 p7 p8 b3=>zZ L (fun p4=>zc2 L p4 k_fin) (zdh L k_fin) L p0 p7 p8 b3)
theorem zgE {β:Type} (L:Nat) (p0:List (List V)) (p1:List V) (k:KK β):xH xA (yA L) L zJ [(V.sl 32 p0),(V.agg p1)] [] k=zbw L p0 p1 (fun p0=>k (V.sc (.int .i64 p0)) []):=by
 refine (zgX L p0 p1 k).trans ?_
 unfold zbw
 first
  | (simp only [zc6,ze4,zfq]; done)
  | (simp only [zc6]; rfl)
abbrev zbt:=∀ (β:Type),Nat→List (List V)→List V→(Int→Option β)→Option β
def yo (β:Type) (L:Nat) (p0:List (List V)) (p1:List V) (k_fin:Int→Option β):Option β:=zbw L p0 p1 k_fin
def zbs (yo:zbt) (L:Nat) (β:Type) (args:List V) (bor:Bor) (k:KK β):Option β:=match args,bor with
 | [a0,a1],[]=>aL 32 a0 fun p0=>aG a1 fun p1=>yo β L p0 p1 (fun p0=>k (V.sc (.int .i64 p0)) [])
 | _,_=>none
theorem zgK (L:Nat) (β:Type) (args:List V) (bor:Bor) (k:KK β) (r:β) (h:zbs yo L β args bor k=some r):xH xA (yA L) L zJ args bor k=some r:=by
 unfold zbs at h
 split at h
 ·have q:=zb0 h; clear h; obtain ⟨p0,rfl,h⟩:=q
  have q:=zdX h; clear h; obtain ⟨p1,rfl,h⟩:=q
  exact (zgE L p0 p1 k).trans h
 ·cases h
def zaR:CF:=⟨9,[.tmp 4],
 (.seq (.reg [oo 3 (.box true (tq 1)),
   oo 4 (.move (.const (.sc (.bool false))) false)])
 (.seq (.reg [oo 5 (.move (tq 0) false),
   oo 6 (.load true 32 (tq 3) false),
   oo 7 (.call 254 [((tq 5),2),((tq 6),2)] []),
   oo 8 (.bin .geq (tq 7) (.const (.sc (.int .i64 0)))),
   oo 4 (.move (tq 8) false)])
 .ret))⟩
def zdf:Hint:=⟨[(1,2)],[],[none],[],[],false,false⟩
def zbV:Nat→Sh:=zay []
def zbU (yo:zbt) (L:Nat):CBC:=(zI 254 (zbs yo L) noC)
def zb2 {β:Type} (yo:zbt) (L:Nat) (p0:List (List V)) (p1:List V) (k_fin:Bool→Option β):Option β :=
 chk (0+32≤(List.length p1)) (
 yo β L p0 (List.take 32 p1) (fun v0 =>
 k_fin (decide (v0 ≥ (0:Int)))))
theorem zf6 {β:Type} (yo:zbt) (L:Nat) (p0:List (List V)) (p1:List V) (k:KK β):xH zbV (zbU yo L) L zaR [(V.sl 32 p0),(V.agg p1)] [] k=zb2 yo L p0 p1 (fun p0=>k (V.sc (.bool p0)) []):=by kernel_rfl
abbrev zK:=∀ (β:Type),Nat→List (List V)→List V→(Bool→Option β)→Option β
def yg (β:Type) (L:Nat) (p0:List (List V)) (p1:List V) (k_fin:Bool→Option β):Option β:=zb2 yo L p0 p1 k_fin
def y7 (yg:zK) (L:Nat) (β:Type) (args:List V) (bor:Bor) (k:KK β):Option β:=match args,bor with
 | [a0,a1],[]=>aL 32 a0 fun p0=>aG a1 fun p1=>yg β L p0 p1 (fun p0=>k (V.sc (.bool p0)) [])
 | _,_=>none
theorem zf1 (L:Nat) (β:Type) (args:List V) (bor:Bor) (k:KK β) (r:β) (h:y7 yg L β args bor k=some r):xH zbV (zbU yo L) L zaR args bor k=some r:=by
 unfold y7 at h
 split at h
 ·have q:=zb0 h; clear h; obtain ⟨p0,rfl,h⟩:=q
  have q:=zdX h; clear h; obtain ⟨p1,rfl,h⟩:=q
  exact (zf6 yo L p0 p1 k).trans h
 ·cases h
def zhk:CF:=⟨45,[.tmp 4],
 (.seq (.reg [oo 2 (.box true (tq 0)),
   oo 4 (.move (.const (.sc (.int .i64 0))) false)])
 (.seq (.seq (.reg [oo 6 (.fieldAddr 2 (tq 2)),
   oo 7 (.load false 1 (tq 6) false),
   oo 8 (.lenS (tq 7)),
   oo 9 (.bin .eql (tq 8) (.const (.sc (.int .i64 0))))])
 (.cond (tq 9)
 (.seq (.reg [oo 4 (.move (.const (.sc (.int .i64 (-1)))) false)])
 .ret)
 .skip))
 (.seq (.reg [oo 5 (.move (.const (.sc (.int .i64 0))) false)])
 (.seq (.seq (.reg [oo 10 (.fieldAddr 2 (tq 2)),
   oo 11 (.load false 1 (tq 10) false),
   oo 12 (.lenS (tq 11)),
   oo 13 (.bin .gtr (tq 12) (.const (.sc (.int .i64 1)))),
   oo 14 (.move (tq 13) false),
   ⟨(some 15),false,(some (14,true)),.move (tq 1) false⟩,
   ⟨(some 16),false,(some (14,true)),.bin .neq (tq 15) (.const (.sc (.int .i64 (-1))))⟩,
   oo 17 (.pick (tq 14) (tq 16) (.const (.sc (.bool false)))),
   oo 18 (.move (tq 17) false),
   ⟨(some 19),false,(some (18,true)),.move (tq 1) false⟩,
   ⟨(some 20),false,(some (18,true)),.bin .rem (tq 19) (.const (.sc (.int .i64 2)))⟩,
   ⟨(some 21),false,(some (18,true)),.bin .neq (tq 20) (.const (.sc (.int .i64 0)))⟩,
   oo 22 (.pick (tq 18) (tq 21) (.const (.sc (.bool false))))])
 (.cond (tq 22)
 (.reg [oo 5 (.move (.const (.sc (.int .i64 1))) false)])
 .skip))
 (.seq (.seq (.reg [oo 23 (.fieldAddr 2 (tq 2)),
   oo 24 (.load false 1 (tq 23) false),
   oo 25 (.move (tq 5) false),
   oo 26 (.indexAddrS 1 (tq 24) (tq 25)),
   oo 27 (.load false 1 (tq 26) false),
   oo 28 (.move (tq 1) false),
   oo 29 (.bin .neq (tq 27) (tq 28))])
 (.cond (tq 29)
 (.seq (.reg [oo 30 (.fieldAddr 2 (tq 2)),
   oo 31 (.load false 1 (tq 30) false),
   oo 32 (.move (tq 5) false),
   oo 33 (.indexAddrS 1 (tq 31) (tq 32)),
   oo 34 (.load false 1 (tq 33) false),
   oo 4 (.move (tq 34) false)])
 .ret)
 .skip))
 (.seq (.seq (.reg [oo 35 (.fieldAddr 2 (tq 2)),
   oo 36 (.load false 1 (tq 35) false),
   oo 37 (.lenS (tq 36)),
   oo 38 (.bin .gtr (tq 37) (.const (.sc (.int .i64 1))))])
 (.cond (tq 38)
 (.seq (.reg [oo 39 (.fieldAddr 2 (tq 2)),
   oo 40 (.load false 1 (tq 39) false),
   oo 41 (.move (tq 5) false),
   oo 42 (.bin .sub (.const (.sc (.int .i64 1))) (tq 41)),
   oo 43 (.indexAddrS 1 (tq 40) (tq 42)),
   oo 44 (.load false 1 (tq 43) false),
   oo 4 (.move (tq 44) false)])
 .ret)
 .skip))
 (.seq (.reg [oo 4 (.move (.const (.sc (.int .i64 (-1)))) false)])
 .ret)))))))⟩
def zlC:Hint:=⟨[(0,0)],[],[none,none,none,none,none,none,none,none],[],[],false,false⟩
def zjH:Nat→Sh:=zay [(7,(.sl 1)),(11,(.sl 1)),(24,(.sl 1)),(27,(.int .i64)),(31,(.sl 1)),(34,(.int .i64)),(36,(.sl 1)),(40,(.sl 1)),(44,(.int .i64))]
def zj0 (L:Nat):CBC:=noC
def zkP {β:Type} (L:Nat) (p0:List V) (p1:Int) (k_fin:Int→Option β):Option β :=
 cLd 1 p0 2 fun v0 =>
 ifb ((((List.length v0:Nat):Int):Int) == (0:Int)) (
 k_fin (-1:Int)) (
 cLd 1 p0 2 fun v1 =>
 ifb (decide (((List.length v1:Nat):Int) > (1:Int))) (
 ifb ((p1:Int) != (-1:Int)) (
 lt (Int.tmod p1 (2:Int)) fun x2 =>
 ifb ((x2:Int) != (0:Int)) (
 cLd 1 p0 2 fun v3 =>
 idx v3 (1:Int) fun c4 =>
 cI .i64 c4 0 fun v5 =>
 ifb ((v5:Int) != p1) (
 cLd 1 p0 2 fun v6 =>
 idx v6 (1:Int) fun c7 =>
 cI .i64 c7 0 fun v8 =>
 k_fin v8) (
 cLd 1 p0 2 fun v9 =>
 ifb (decide (((List.length v9:Nat):Int) > (1:Int))) (
 cLd 1 p0 2 fun v10 =>
 lt (IntKind.wrap .i64 (((1:Int):Int) - (1:Int))) fun x11 =>
 idx v10 x11 fun c12 =>
 cI .i64 c12 0 fun v13 =>
 k_fin v13) (
 k_fin (-1:Int)))) (
 cLd 1 p0 2 fun v14 =>
 idx v14 (0:Int) fun c15 =>
 cI .i64 c15 0 fun v16 =>
 ifb ((v16:Int) != p1) (
 cLd 1 p0 2 fun v17 =>
 idx v17 (0:Int) fun c18 =>
 cI .i64 c18 0 fun v19 =>
 k_fin v19) (
 cLd 1 p0 2 fun v20 =>
 ifb (decide (((List.length v20:Nat):Int) > (1:Int))) (
 cLd 1 p0 2 fun v21 =>
 lt (IntKind.wrap .i64 (((1:Int):Int) - (0:Int))) fun x22 =>
 idx v21 x22 fun c23 =>
 cI .i64 c23 0 fun v24 =>
 k_fin v24) (
 k_fin (-1:Int))))) (
 cLd 1 p0 2 fun v25 =>
 idx v25 (0:Int) fun c26 =>
 cI .i64 c26 0 fun v27 =>
 ifb ((v27:Int) != p1) (
 cLd 1 p0 2 fun v28 =>
 idx v28 (0:Int) fun c29 =>
 cI .i64 c29 0 fun v30 =>
 k_fin v30) (
 cLd 1 p0 2 fun v31 =>
 ifb (decide (((List.length v31:Nat):Int) > (1:Int))) (
 cLd 1 p0 2 fun v32 =>
 lt (IntKind.wrap .i64 (((1:Int):Int) - (0:Int))) fun x33 =>
 idx v32 x33 fun c34 =>
 cI .i64 c34 0 fun v35 =>
 k_fin v35) (
 k_fin (-1:Int))))) (
 cLd 1 p0 2 fun v36 =>
 idx v36 (0:Int) fun c37 =>
 cI .i64 c37 0 fun v38 =>
 ifb ((v38:Int) != p1) (
 cLd 1 p0 2 fun v39 =>
 idx v39 (0:Int) fun c40 =>
 cI .i64 c40 0 fun v41 =>
 k_fin v41) (
 cLd 1 p0 2 fun v42 =>
 ifb (decide (((List.length v42:Nat):Int) > (1:Int))) (
 cLd 1 p0 2 fun v43 =>
 lt (IntKind.wrap .i64 (((1:Int):Int) - (0:Int))) fun x44 =>
 idx v43 x44 fun c45 =>
 cI .i64 c45 0 fun v46 =>
 k_fin v46) (
 k_fin (-1:Int)))))
theorem zrm {β:Type} (L:Nat) (p0:List V) (p1:Int) (k:KK β):xH zjH (zj0 L) L zhk [(V.agg p0),(V.sc (.int .i64 p1))] [] k=zkP L p0 p1 (fun p0=>k (V.sc (.int .i64 p0)) []):=by kernel_rfl
abbrev zhW:=∀ (β:Type),Nat→List V→Int→(Int→Option β)→Option β
def yV (β:Type) (L:Nat) (p0:List V) (p1:Int) (k_fin:Int→Option β):Option β:=zkP L p0 p1 k_fin
def zh4 (yV:zhW) (L:Nat) (β:Type) (args:List V) (bor:Bor) (k:KK β):Option β:=match args,bor with
 | [a0,a1],[]=>aG a0 fun p0=>aI .i64 a1 fun p1=>yV β L p0 p1 (fun p0=>k (V.sc (.int .i64 p0)) [])
 | _,_=>none
theorem zrl (L:Nat) (β:Type) (args:List V) (bor:Bor) (k:KK β) (r:β) (h:zh4 yV L β args bor k=some r):xH zjH (zj0 L) L zhk args bor k=some r:=by
 unfold zh4 at h
 split at h
 ·have q:=zdX h; clear h; obtain ⟨p0,rfl,h⟩:=q
  have q:=zcp h; clear h; obtain ⟨p1,rfl,h⟩:=q
  exact (zrm L p0 p1 k).trans h
 ·cases h
def zcZ:CF:=⟨8,[.tmp 2],
 (.seq (.reg [oo 2 (.move (.const (.gs 1 [])) true)])
 (.fork (.reg [oo 3 (.move (tq 0) false),
   oo 4 (.nilT false (tq 3))])
 (tq 4)
 (.seq (.reg [oo 2 (.nilS 1 7)])
 (.seq (.mask (bl 4 8) (bl 128 8))
 .ret))
 (.seq (.reg [⟨(some 5),true,none,.buildSlice 1 0 [(.sc (.int .i64 0))] []⟩,
   oo 6 (.move (tq 0) false),
   ⟨(some 7),true,none,.append 1 8 (tq 5) (tq 6)⟩,
   oo 2 (.move (tq 7) true)])
 (.seq (.mask (bl 4 8) (bl 128 8))
 .ret))))⟩
def zf7:Hint:=⟨[(0,0),(2,0),(3,3)],[(3,0),(3,2)],[none,some ((bl 4 8),(bl 128 8)),some ((bl 4 8),(bl 128 8))],[],[(2,0,[7])],false,false⟩
def zer:Nat→Sh:=zay []
def zes (L:Nat):CBC:=noC
def zeL {β:Type} (L:Nat) (p0:List (List V)) (k_fin:List (List V)→Option β):Option β :=
 lc p0 (
 k_fin ([]:List (List V))) (fun h0 t0 =>
 chk ((0+List.length (h0::t0)) * 8≤yi∧0+List.length (h0::t0)≤yi) (
 chk ((List.length (h0::t0))≠0∨(List.length (List.flatten (h0::t0)))=0) (
 k_fin (xb 1 (List.length (h0::t0)) (List.flatten (h0::t0))))))
theorem zkY {β:Type} (L:Nat) (p0:List (List V)) (k:KK β):xH zer (zes L) L zcZ [(V.sl 1 p0)] [] k=zeL L p0 (fun p0=>k (V.fr 1 p0) []):=by kernel_rfl
abbrev zdm:=∀ (β:Type),Nat→List (List V)→(List (List V)→Option β)→Option β
def yz (β:Type) (L:Nat) (p0:List (List V)) (k_fin:List (List V)→Option β):Option β:=zeL L p0 k_fin
def zdl (yz:zdm) (L:Nat) (β:Type) (args:List V) (bor:Bor) (k:KK β):Option β:=match args,bor with
 | [a0],[]=>aL 1 a0 fun p0=>yz β L p0 (fun p0=>k (V.fr 1 p0) [])
 | _,_=>none
theorem zk7 (L:Nat) (β:Type) (args:List V) (bor:Bor) (k:KK β) (r:β) (h:zdl yz L β args bor k=some r):xH zer (zes L) L zcZ args bor k=some r:=by
 unfold zdl at h
 split at h
 ·have q:=zb0 h; clear h; obtain ⟨p0,rfl,h⟩:=q
  exact (zkY L p0 k).trans h
 ·cases h
def zbe:CF:=⟨8,[.tmp 2],
 (.seq (.reg [oo 2 (.move (.const (.gs 35 [])) true)])
 (.fork (.reg [oo 3 (.move (tq 0) false),
   oo 4 (.nilT false (tq 3))])
 (tq 4)
 (.seq (.reg [oo 2 (.nilS 35 7)])
 (.seq (.mask (bl 4 8) (bl 128 8))
 .ret))
 (.seq (.reg [⟨(some 5),true,none,.buildSlice 35 0 (rp 32 (.sc (.int .u8 0)) (rp 2 (.sc (.int .i64 0)) (rp 1 (.sc (.int .u32 0)) []))) []⟩,
   oo 6 (.move (tq 0) false),
   ⟨(some 7),true,none,.append 35 56 (tq 5) (tq 6)⟩,
   oo 2 (.move (tq 7) true)])
 (.seq (.mask (bl 4 8) (bl 128 8))
 .ret))))⟩
def zdG:Hint:=⟨[(0,0),(2,0),(3,3)],[(3,0),(3,2)],[none,some ((bl 4 8),(bl 128 8)),some ((bl 4 8),(bl 128 8))],[],[(2,0,[7])],false,false⟩
def zcs:Nat→Sh:=zay []
def zcw (L:Nat):CBC:=noC
def zcJ {β:Type} (L:Nat) (p0:List (List V)) (k_fin:List (List V)→Option β):Option β :=
 lc p0 (
 k_fin ([]:List (List V))) (fun h0 t0 =>
 chk ((0+List.length (h0::t0)) * 56≤yi∧0+List.length (h0::t0)≤yi) (
 chk ((List.length (h0::t0))≠0∨(List.length (List.flatten (h0::t0)))=0) (
 k_fin (xb 35 (List.length (h0::t0)) (List.flatten (h0::t0))))))
theorem zgF {β:Type} (L:Nat) (p0:List (List V)) (k:KK β):xH zcs (zcw L) L zbe [(V.sl 35 p0)] [] k=zcJ L p0 (fun p0=>k (V.fr 35 p0) []):=by kernel_rfl
abbrev zbq:=∀ (β:Type),Nat→List (List V)→(List (List V)→Option β)→Option β
def xm (β:Type) (L:Nat) (p0:List (List V)) (k_fin:List (List V)→Option β):Option β:=zcJ L p0 k_fin
def zbr (xm:zbq) (L:Nat) (β:Type) (args:List V) (bor:Bor) (k:KK β):Option β:=match args,bor with
 | [a0],[]=>aL 35 a0 fun p0=>xm β L p0 (fun p0=>k (V.fr 35 p0) [])
 | _,_=>none
theorem zgW (L:Nat) (β:Type) (args:List V) (bor:Bor) (k:KK β) (r:β) (h:zbr xm L β args bor k=some r):xH zcs (zcw L) L zbe args bor k=some r:=by
 unfold zbr at h
 split at h
 ·have q:=zb0 h; clear h; obtain ⟨p0,rfl,h⟩:=q
  exact (zgF L p0 k).trans h
 ·cases h
def zbc:CF:=⟨8,[.tmp 2],
 (.seq (.reg [oo 2 (.move (.const (.gs 32 [])) true)])
 (.fork (.reg [oo 3 (.move (tq 0) false),
   oo 4 (.nilT false (tq 3))])
 (tq 4)
 (.seq (.reg [oo 2 (.nilS 32 7)])
 (.seq (.mask (bl 4 8) (bl 128 8))
 .ret))
 (.seq (.reg [⟨(some 5),true,none,.buildSlice 32 0 (rp 32 (.sc (.int .u8 0)) []) []⟩,
   oo 6 (.move (tq 0) false),
   ⟨(some 7),true,none,.append 32 32 (tq 5) (tq 6)⟩,
   oo 2 (.move (tq 7) true)])
 (.seq (.mask (bl 4 8) (bl 128 8))
 .ret))))⟩
def zdB:Hint:=⟨[(0,0),(2,0),(3,3)],[(3,0),(3,2)],[none,some ((bl 4 8),(bl 128 8)),some ((bl 4 8),(bl 128 8))],[],[(2,0,[7])],false,false⟩
def zcv:Nat→Sh:=zay []
def zcr (L:Nat):CBC:=noC
def zcF {β:Type} (L:Nat) (p0:List (List V)) (k_fin:List (List V)→Option β):Option β :=
 lc p0 (
 k_fin ([]:List (List V))) (fun h0 t0 =>
 chk ((0+List.length (h0::t0)) * 32≤yi∧0+List.length (h0::t0)≤yi) (
 chk ((List.length (h0::t0))≠0∨(List.length (List.flatten (h0::t0)))=0) (
 k_fin (xb 32 (List.length (h0::t0)) (List.flatten (h0::t0))))))
theorem zg4 {β:Type} (L:Nat) (p0:List (List V)) (k:KK β):xH zcv (zcr L) L zbc [(V.sl 32 p0)] [] k=zcF L p0 (fun p0=>k (V.fr 32 p0) []):=by kernel_rfl
abbrev zbp:=∀ (β:Type),Nat→List (List V)→(List (List V)→Option β)→Option β
def zn (β:Type) (L:Nat) (p0:List (List V)) (k_fin:List (List V)→Option β):Option β:=zcF L p0 k_fin
def zbv (zn:zbp) (L:Nat) (β:Type) (args:List V) (bor:Bor) (k:KK β):Option β:=match args,bor with
 | [a0],[]=>aL 32 a0 fun p0=>zn β L p0 (fun p0=>k (V.fr 32 p0) [])
 | _,_=>none
theorem zgO (L:Nat) (β:Type) (args:List V) (bor:Bor) (k:KK β) (r:β) (h:zbv zn L β args bor k=some r):xH zcv (zcr L) L zbc args bor k=some r:=by
 unfold zbv at h
 split at h
 ·have q:=zb0 h; clear h; obtain ⟨p0,rfl,h⟩:=q
  exact (zg4 L p0 k).trans h
 ·cases h
def zgl:CF:=⟨16,[.cellS 2 5 false],
 (.seq (.reg [oo 1 (.box false (tq 0)),
   oo 2 (.alloc false [(.sc (.int .u32 0)),(.sc (.bool false)),(.gs 1 []),(.gs 35 []),(.gs 32 [])])])
 (.seq (.reg [oo 3 (.fieldAddr 2 (tq 1)),
   oo 4 (.load false 1 (tq 3) false),
   ⟨(some 5),true,none,.call 360 [((tq 4),0)] []⟩,
   oo 6 (.fieldAddr 2 (tq 1)),
   oz (.store 1 (tq 6) (tq 5))])
 (.seq (.reg [oo 7 (.fieldAddr 3 (tq 1)),
   oo 8 (.load false 1 (tq 7) false),
   ⟨(some 9),true,none,.call 370 [((tq 8),0)] []⟩,
   oo 10 (.fieldAddr 3 (tq 1)),
   oz (.store 1 (tq 10) (tq 9))])
 (.seq (.reg [oo 11 (.fieldAddr 4 (tq 1)),
   oo 12 (.load false 1 (tq 11) false),
   ⟨(some 13),true,none,.call 371 [((tq 12),0)] []⟩,
   oo 14 (.fieldAddr 4 (tq 1)),
   oz (.store 1 (tq 14) (tq 13))])
 (.seq (.reg [oo 15 (.load true 5 (tq 1) true),
   oz (.store 5 (tq 2) (tq 15))])
 .ret)))))⟩
def zlf:Hint:=⟨[(4,0)],[(1,2),(2,2),(3,2)],[none],[],[],false,true⟩
def zja:Nat→Sh:=zay [(1,(.row [(.int .u32),.bool,(.sl 1),(.sl 35),(.sl 32)]))]
def ziT (yz:zdm) (xm:zbq) (zn:zbp) (L:Nat):CBC:=(zI 371 (zbv zn L) (zI 370 (zbr xm L) (zI 360 (zdl yz L) noC)))
abbrev zld (β:Type):Type:=Int→Bool→Nat→Nat→Nat→List V→List V→List V→Option β
def zjV {β:Type} (yz:zdm) (xm:zbq) (zn:zbp) (L:Nat) (p0:List V) (k_fin:zld β):Option β :=
 chk (List.length p0=5) (
 cI .u32 p0 0 fun v0 =>
 cB p0 1 fun v1 =>
 cL 1 p0 2 fun v2 =>
 cL 35 p0 3 fun v3 =>
 cL 32 p0 4 fun v4 =>
 yz β L v2 (fun v5 =>
 xm β L v3 (fun v6 =>
 zn β L v4 (fun v7 =>
 k_fin v0 v1 (List.length v5) (List.length v6) (List.length v7) (List.flatten v5) (List.flatten v6) (List.flatten v7)))))
theorem zqu {β:Type} (yz:zdm) (xm:zbq) (zn:zbp) (L:Nat) (p0:List V) (k:KK β):xH zja (ziT yz xm zn L) L zgl [(V.agg p0)] [] k=zjV yz xm zn L p0 (fun zBO zBP zB6 zB5 zB7 b0 b1 b2=>k (V.st [(V.sc (.int .u32 zBO)),(V.sc (.bool zBP)),(V.own 0 0 zB6 1),(V.own 1 0 zB5 35),(V.own 2 0 zB7 32)]) [(.live true b0),(.live true b1),(.live true b2)]):=by kernel_rfl
abbrev zbL:=∀ (β:Type),Nat→List V→(Int→Bool→Nat→Nat→Nat→List V→List V→List V→Option β)→Option β
def yl (β:Type) (L:Nat) (p0:List V) (k_fin:zld β):Option β:=zjV yz xm zn L p0 k_fin
def zek (yl:zbL) (L:Nat) (β:Type) (args:List V) (bor:Bor) (k:KK β):Option β:=match args,bor with
 | [a0],[]=>aG a0 fun p0=>yl β L p0 (fun zBO zBP zB6 zB5 zB7 b0 b1 b2=>k (V.st [(V.sc (.int .u32 zBO)),(V.sc (.bool zBP)),(V.own 0 0 zB6 1),(V.own 1 0 zB5 35),(V.own 2 0 zB7 32)]) [(.live true b0),(.live true b1),(.live true b2)])
 | _,_=>none
theorem zqA (L:Nat) (β:Type) (args:List V) (bor:Bor) (k:KK β) (r:β) (h:zek yl L β args bor k=some r):xH zja (ziT yz xm zn L) L zgl args bor k=some r:=by
 unfold zek at h
 split at h
 ·have q:=zdX h; clear h; obtain ⟨p0,rfl,h⟩:=q
  exact (zqu yz xm zn L p0 k).trans h
 ·cases h
def zhr:CF:=⟨12,[.tmp 4],
 (.seq (.reg [oo 4 (.move (.const (.sc (.int .u32 0))) false)])
 (.seq (.seq (.reg [oo 5 (.move (tq 1) false),
   oo 6 (.move (tq 0) false),
   oo 7 (.un .xor (tq 6)),
   oo 8 (.bin .gtr (tq 5) (tq 7))])
 (.cond (tq 8)
 (.seq (.reg [oo 4 (.move (.const (.sc (.int .u32 4294967295))) false)])
 .ret)
 .skip))
 (.seq (.reg [oo 9 (.move (tq 0) false),
   oo 10 (.move (tq 1) false),
   oo 11 (.bin .add (tq 9) (tq 10)),
   oo 4 (.move (tq 11) false)])
 .ret)))⟩
def zlV:Hint:=⟨[],[],[none,none,none],[],[],false,false⟩
def zjY:Nat→Sh:=zay []
def zjR (L:Nat):CBC:=noC
def zkO {β:Type} (L:Nat) (p0 p1:Int) (k_fin:Int→Option β):Option β :=
 lt (zwH .u32 p0) fun x0 =>
 ifb (decide (p1 > x0)) (
 k_fin (4294967295:Int)) (
 lt (IntKind.wrap .u32 ((p0:Int)+p1)) fun x1 =>
 k_fin x1)
theorem zrc {β:Type} (L:Nat) (p0 p1:Int) (k:KK β):xH zjY (zjR L) L zhr [(V.sc (.int .u32 p0)),(V.sc (.int .u32 p1))] [] k=zkO L p0 p1 (fun p0=>k (V.sc (.int .u32 p0)) []):=by kernel_rfl
abbrev zhZ:=∀ (β:Type),Nat→Int→Int→(Int→Option β)→Option β
def yM (β:Type) (L:Nat) (p0 p1:Int) (k_fin:Int→Option β):Option β:=zkO L p0 p1 k_fin
def zh0 (yM:zhZ) (L:Nat) (β:Type) (args:List V) (bor:Bor) (k:KK β):Option β:=match args,bor with
 | [a0,a1],[]=>aI .u32 a0 fun p0=>aI .u32 a1 fun p1=>yM β L p0 p1 (fun p0=>k (V.sc (.int .u32 p0)) [])
 | _,_=>none
theorem zrn (L:Nat) (β:Type) (args:List V) (bor:Bor) (k:KK β) (r:β) (h:zh0 yM L β args bor k=some r):xH zjY (zjR L) L zhr args bor k=some r:=by
 unfold zh0 at h
 split at h
 ·have q:=zcp h; clear h; obtain ⟨p0,rfl,h⟩:=q
  have q:=zcp h; clear h; obtain ⟨p1,rfl,h⟩:=q
  exact (zrc L p0 p1 k).trans h
 ·cases h
def zh2:CF:=⟨69,[.cellS 10 5 true,.tmpP 11,.tmpP 12],
 (.seq (.reg [oo 5 (.box false (tq 0)),
   oo 7 (.box true (tq 2)),
   oo 10 (.alloc false [(.sc (.int .u32 0)),(.sc (.bool false)),(.gs 1 []),(.gs 35 []),(.gs 32 [])]),
   oo 11 (.move (.const (.sc (.int .i64 0))) false),
   oo 12 (.move (.const (.sc (.int .i64 0))) false)])
 (.seq (.seq (.reg [oo 14 (.load true 5 (tq 5) false),
   oo 15 (.call 356 [((tq 14),1)] []),
   oo 16 (.un .not (tq 15)),
   oo 17 (.move (tq 16) false),
   ⟨(some 18),false,(some (17,false)),.move (tq 1) false⟩,
   ⟨(some 19),false,(some (17,false)),.bin .lss (tq 18) (.const (.sc (.int .i64 (-1))))⟩,
   oo 20 (.pick (tq 17) (.const (.sc (.bool true))) (tq 19))])
 (.cond (tq 20)
 (.seq (.reg [oo 21 (.build [(.sc (.int .u32 0)),(.sc (.bool false)),(.sl 1 []),(.sl 35 []),(.sl 32 [])] []),
   oz (.store 5 (tq 10) (tq 21)),
   oo 11 (.move (.const (.sc (.int .i64 0))) false),
   oo 12 (.move (.const (.sc (.int .i64 6))) false)])
 .ret)
 .skip))
 (.seq (.seq (.reg [oo 22 (.load true 5 (tq 5) true),
   oo 23 (.load true 32 (tq 7) false),
   oo 24 (.call 363 [((tq 22),3),((tq 23),2)] []),
   oo 25 (.bin .geq (tq 24) (.const (.sc (.int .i64 0)))),
   oo 26 (.move (tq 25) false),
   ⟨(some 27),false,(some (26,false)),.fieldAddr 4 (tq 5)⟩,
   ⟨(some 28),false,(some (26,false)),.load false 1 (tq 27) false⟩,
   ⟨(some 29),false,(some (26,false)),.load true 32 (tq 7) false⟩,
   ⟨(some 30),false,(some (26,false)),.call 248 [((tq 28),2),((tq 29),2)] []⟩,
   oo 31 (.pick (tq 26) (.const (.sc (.bool true))) (tq 30))])
 (.cond (tq 31)
 (.seq (.reg [oo 32 (.build [(.sc (.int .u32 0)),(.sc (.bool false)),(.sl 1 []),(.sl 35 []),(.sl 32 [])] []),
   oz (.store 5 (tq 10) (tq 32)),
   oo 11 (.move (.const (.sc (.int .i64 0))) false),
   oo 12 (.move (.const (.sc (.int .i64 150))) false)])
 .ret)
 .skip))
 (.seq (.reg [oo 33 (.load true 5 (tq 5) false),
   oo 34 (.move (tq 1) false),
   oo 35 (.call 344 [((tq 33),1),((tq 34),0)] []),
   oo 13 (.move (tq 35) false)])
 (.seq (.seq (.reg [oo 36 (.fieldAddr 1 (tq 5)),
   oo 37 (.load false 1 (tq 36) false),
   oo 38 (.move (tq 37) false),
   ⟨(some 39),false,(some (38,true)),.move (tq 1) false⟩,
   ⟨(some 40),false,(some (38,true)),.bin .neq (tq 39) (.const (.sc (.int .i64 (-1))))⟩,
   oo 41 (.pick (tq 38) (tq 40) (.const (.sc (.bool false))))])
 (.cond (tq 41)
 (.reg [oo 13 (.move (.const (.sc (.int .i64 (-1)))) false)])
 .skip))
 (.seq (.seq (.reg [oo 42 (.move (tq 13) false),
   oo 43 (.bin .neq (tq 42) (.const (.sc (.int .i64 (-1))))),
   oo 44 (.move (tq 43) false),
   ⟨(some 45),false,(some (44,true)),.fieldAddr 3 (tq 5)⟩,
   ⟨(some 46),false,(some (44,true)),.load false 1 (tq 45) false⟩,
   ⟨(some 47),false,(some (44,true)),.lenS (tq 46)⟩,
   ⟨(some 48),false,(some (44,true)),.bin .geq (tq 47) (.const (.sc (.int .i64 64)))⟩,
   oo 49 (.pick (tq 44) (tq 48) (.const (.sc (.bool false))))])
 (.cond (tq 49)
 (.seq (.reg [oo 50 (.build [(.sc (.int .u32 0)),(.sc (.bool false)),(.sl 1 []),(.sl 35 []),(.sl 32 [])] []),
   oz (.store 5 (tq 10) (tq 50)),
   oo 11 (.move (.const (.sc (.int .i64 0))) false),
   oo 12 (.move (.const (.sc (.int .i64 380))) false)])
 .ret)
 .skip))
 (.seq (.reg [oo 51 (.load true 5 (tq 5) false),
   oo 52 (.call 358 [((tq 51),1)] [16,19,25]),
   oz (.store 5 (tq 5) (tq 52))])
 (.seq (.seq (.reg [oo 53 (.move (tq 13) false),
   oo 54 (.bin .neq (tq 53) (.const (.sc (.int .i64 (-1)))))])
 (.cond (tq 54)
 (.dreg [] [(oo 55 (.fieldAddr 3 (tq 5)),q0),
   (oo 56 (.load false 1 (tq 55) true),ql 5 [7] [64]),
   (oo 57 (.load true 32 (tq 7) false),ql 7 [5] []),
   (oo 58 (.move (tq 1) false),q0),
   (oo 59 (.move (tq 13) false),q0),
   (oo 60 (.move (tq 3) false),q0),
   (oo 61 (.move (tq 4) false),q0),
   (oo 62 (.call 359 [((tq 60),0),((tq 61),0)] []),qc [5,7] []),
   (oo 63 (.build (rp 32 (.sc (.int .u8 0)) (rp 2 (.sc (.int .i64 0)) (rp 1 (.sc (.int .u32 0)) []))) [(0,32,(tq 57)),(32,1,(tq 58)),(33,1,(tq 59)),(34,1,(tq 62))]),q0),
   (oo 64 (.buildSlice 35 1 (rp 32 (.sc (.int .u8 0)) (rp 2 (.sc (.int .i64 0)) (rp 1 (.sc (.int .u32 0)) []))) [(0,35,(tq 63))]),qn [5] []),
   (oo 65 (.append 35 56 (tq 56) (tq 64)),q0),
   (oo 66 (.fieldAddr 3 (tq 5)),q0),
   (oz (.store 1 (tq 66) (tq 65)),q0)])
 .skip))
 (.seq (.reg [oo 67 (.load true 5 (tq 5) true),
   oo 68 (.move (tq 13) false),
   oz (.store 5 (tq 10) (tq 67)),
   oo 11 (.move (tq 68) false),
   oo 12 (.move (.const (.sc (.int .i64 0))) false)])
 .ret)))))))))⟩
def zmq:Hint:=⟨[(3,0),(3,2),(3,8),(12,1),(13,0)],[],[none,none,none,none,none,none,none,none,none],[],[(10,1,[16,19,25])],true,true⟩
def zkL:Nat→Sh:=zay [(5,(.row [(.int .u32),.bool,(.sl 1),(.sl 35),(.sl 32)]))]
def zkV (zr:zb8) (z7:zjj) (yg:zK) (yV:zhW) (yl:zbL) (yM:zhZ) (L:Nat):CBC:=(zI 359 (zh0 yM L) (zI 358 (zek yl L) (zI 344 (zh4 yV L) (zI 248 (y7 yg L) (zI 363 (zjd z7 L) (zI 356 (zeP zr L) noC))))))
def zmb {β:Type} (zr:zb8) (z7:zjj) (yg:zK) (yV:zhW) (yl:zbL) (yM:zhZ) (L:Nat) (p0:List V) (p1:Int) (p2:List V) (p3 p4:Int) (k_fin:List V→Int→Int→Option β):Option β :=
 chk (List.length p0=5) (
 cI .u32 p0 0 fun v0 =>
 cB p0 1 fun v1 =>
 cL 1 p0 2 fun v2 =>
 cL 35 p0 3 fun v3 =>
 cL 32 p0 4 fun v4 =>
 zr β L [(V.sc (.int .u32 v0)),(V.sc (.bool v1)),(V.sl 1 v2),(V.sl 35 v3),(V.sl 32 v4)] (fun v5 =>
 ifb (!v5) (
 k_fin [(V.sc (.int .u32 (0:Int))),(V.sc (.bool false)),(V.sl 1 ([]:List (List V))),(V.sl 35 ([]:List (List V))),(V.sl 32 ([]:List (List V)))] (0:Int) (6:Int)) (
 ifb (decide (p1 < (-1:Int))) (
 k_fin [(V.sc (.int .u32 (0:Int))),(V.sc (.bool false)),(V.sl 1 ([]:List (List V))),(V.sl 35 ([]:List (List V))),(V.sl 32 ([]:List (List V)))] (0:Int) (6:Int)) (
 chk (0+32≤(List.length p2)) (
 z7 β L v0 v1 v2 v3 v4 (List.take 32 p2) (fun v6 =>
 ifb (decide (v6 ≥ (0:Int))) (
 k_fin [(V.sc (.int .u32 (0:Int))),(V.sc (.bool false)),(V.sl 1 ([]:List (List V))),(V.sl 35 ([]:List (List V))),(V.sl 32 ([]:List (List V)))] (0:Int) (150:Int)) (
 chk (0+32≤(List.length p2)) (
 yg β L v4 (List.take 32 p2) (fun v7 =>
 ifb v7 (
 k_fin [(V.sc (.int .u32 (0:Int))),(V.sc (.bool false)),(V.sl 1 ([]:List (List V))),(V.sl 35 ([]:List (List V))),(V.sl 32 ([]:List (List V)))] (0:Int) (150:Int)) (
 yV β L [(V.sc (.int .u32 v0)),(V.sc (.bool v1)),(V.sl 1 v2),(V.sl 35 v3),(V.sl 32 v4)] p1 (fun v8 =>
 ifb v1 (
 ifb ((p1:Int) != (-1:Int)) (
 yl β L [(V.sc (.int .u32 v0)),(V.sc (.bool v1)),(V.sl 1 v2),(V.sl 35 v3),(V.sl 32 v4)] (fun v9 v10 v11 v12 v13 v14 v15 v16 =>
 k_fin [(V.sc (.int .u32 v9)),(V.sc (.bool v10)),(V.sl 1 (xb 1 v11 v14)),(V.sl 35 (xb 35 v12 v15)),(V.sl 32 (xb 32 v13 v16))] (-1:Int) (0:Int))) (
 ifb ((v8:Int) != (-1:Int)) (
 ifb (decide (((List.length v3:Nat):Int) ≥ (64:Int))) (
 k_fin [(V.sc (.int .u32 (0:Int))),(V.sc (.bool false)),(V.sl 1 ([]:List (List V))),(V.sl 35 ([]:List (List V))),(V.sl 32 ([]:List (List V)))] (0:Int) (380:Int)) (
 yl β L [(V.sc (.int .u32 v0)),(V.sc (.bool v1)),(V.sl 1 v2),(V.sl 35 v3),(V.sl 32 v4)] (fun v17 v18 v19 v20 v21 v22 v23 v24 =>
 ifb ((v8:Int) != (-1:Int)) (
 chk (0+32≤(List.length p2)) (
 yM β L p3 p4 (fun v25 =>
 chk ((List.length (List.take 32 p2))=32∧0+32≤35) (
 chk (1=1∧32+1≤(List.length (ya (List.replicate 32 (V.sc (.int .u8 (0:Int)))++[(V.sc (.int .i64 (0:Int))),(V.sc (.int .i64 (0:Int))),(V.sc (.int .u32 (0:Int)))]) 0 (List.take 32 p2)))) (
 chk (1=1∧33+1≤(List.length (ya (ya (List.replicate 32 (V.sc (.int .u8 (0:Int)))++[(V.sc (.int .i64 (0:Int))),(V.sc (.int .i64 (0:Int))),(V.sc (.int .u32 (0:Int)))]) 0 (List.take 32 p2)) 32 [(V.sc (.int .i64 p1))]))) (
 chk (1=1∧34+1≤(List.length (ya (ya (ya (List.replicate 32 (V.sc (.int .u8 (0:Int)))++[(V.sc (.int .i64 (0:Int))),(V.sc (.int .i64 (0:Int))),(V.sc (.int .u32 (0:Int)))]) 0 (List.take 32 p2)) 32 [(V.sc (.int .i64 p1))]) 33 [(V.sc (.int .i64 v8))]))) (
 chk ((List.length (ya (ya (ya (ya (List.replicate 32 (V.sc (.int .u8 (0:Int)))++[(V.sc (.int .i64 (0:Int))),(V.sc (.int .i64 (0:Int))),(V.sc (.int .u32 (0:Int)))]) 0 (List.take 32 p2)) 32 [(V.sc (.int .i64 p1))]) 33 [(V.sc (.int .i64 v8))]) 34 [(V.sc (.int .u32 v25))]))=35∧0+35≤35) (
 chk ((v20+List.length (xb 35 1 (ya (List.replicate 32 (V.sc (.int .u8 (0:Int)))++[(V.sc (.int .i64 (0:Int))),(V.sc (.int .i64 (0:Int))),(V.sc (.int .u32 (0:Int)))]) 0 (ya (ya (ya (ya (List.replicate 32 (V.sc (.int .u8 (0:Int)))++[(V.sc (.int .i64 (0:Int))),(V.sc (.int .i64 (0:Int))),(V.sc (.int .u32 (0:Int)))]) 0 (List.take 32 p2)) 32 [(V.sc (.int .i64 p1))]) 33 [(V.sc (.int .i64 v8))]) 34 [(V.sc (.int .u32 v25))])))) * 56≤yi∧(v20+List.length (xb 35 1 (ya (List.replicate 32 (V.sc (.int .u8 (0:Int)))++[(V.sc (.int .i64 (0:Int))),(V.sc (.int .i64 (0:Int))),(V.sc (.int .u32 (0:Int)))]) 0 (ya (ya (ya (ya (List.replicate 32 (V.sc (.int .u8 (0:Int)))++[(V.sc (.int .i64 (0:Int))),(V.sc (.int .i64 (0:Int))),(V.sc (.int .u32 (0:Int)))]) 0 (List.take 32 p2)) 32 [(V.sc (.int .i64 p1))]) 33 [(V.sc (.int .i64 v8))]) 34 [(V.sc (.int .u32 v25))]))))≤yi∧((v20+List.length (xb 35 1 (ya (List.replicate 32 (V.sc (.int .u8 (0:Int)))++[(V.sc (.int .i64 (0:Int))),(V.sc (.int .i64 (0:Int))),(V.sc (.int .u32 (0:Int)))]) 0 (ya (ya (ya (ya (List.replicate 32 (V.sc (.int .u8 (0:Int)))++[(V.sc (.int .i64 (0:Int))),(V.sc (.int .i64 (0:Int))),(V.sc (.int .u32 (0:Int)))]) 0 (List.take 32 p2)) 32 [(V.sc (.int .i64 p1))]) 33 [(V.sc (.int .i64 v8))]) 34 [(V.sc (.int .u32 v25))]))))≠0∨(List.length v23)=0)) (
 lt (List.take (v20 * 35) v23++List.flatten (xb 35 1 (ya (List.replicate 32 (V.sc (.int .u8 (0:Int)))++[(V.sc (.int .i64 (0:Int))),(V.sc (.int .i64 (0:Int))),(V.sc (.int .u32 (0:Int)))]) 0 (ya (ya (ya (ya (List.replicate 32 (V.sc (.int .u8 (0:Int)))++[(V.sc (.int .i64 (0:Int))),(V.sc (.int .i64 (0:Int))),(V.sc (.int .u32 (0:Int)))]) 0 (List.take 32 p2)) 32 [(V.sc (.int .i64 p1))]) 33 [(V.sc (.int .i64 v8))]) 34 [(V.sc (.int .u32 v25))])))) fun r26 =>
 k_fin [(V.sc (.int .u32 v17)),(V.sc (.bool v18)),(V.sl 1 (xb 1 v19 v22)),(V.sl 35 (xb 35 (v20+List.length (xb 35 1 (ya (List.replicate 32 (V.sc (.int .u8 (0:Int)))++[(V.sc (.int .i64 (0:Int))),(V.sc (.int .i64 (0:Int))),(V.sc (.int .u32 (0:Int)))]) 0 (ya (ya (ya (ya (List.replicate 32 (V.sc (.int .u8 (0:Int)))++[(V.sc (.int .i64 (0:Int))),(V.sc (.int .i64 (0:Int))),(V.sc (.int .u32 (0:Int)))]) 0 (List.take 32 p2)) 32 [(V.sc (.int .i64 p1))]) 33 [(V.sc (.int .i64 v8))]) 34 [(V.sc (.int .u32 v25))])))) r26)),(V.sl 32 (xb 32 v21 v24))] v8 (0:Int)))))))))) (
 k_fin [(V.sc (.int .u32 v17)),(V.sc (.bool v18)),(V.sl 1 (xb 1 v19 v22)),(V.sl 35 (xb 35 v20 v23)),(V.sl 32 (xb 32 v21 v24))] v8 (0:Int))))) (
 yl β L [(V.sc (.int .u32 v0)),(V.sc (.bool v1)),(V.sl 1 v2),(V.sl 35 v3),(V.sl 32 v4)] (fun v27 v28 v29 v30 v31 v32 v33 v34 =>
 ifb ((v8:Int) != (-1:Int)) (
 chk (0+32≤(List.length p2)) (
 yM β L p3 p4 (fun v35 =>
 chk ((List.length (List.take 32 p2))=32∧0+32≤35) (
 chk (1=1∧32+1≤(List.length (ya (List.replicate 32 (V.sc (.int .u8 (0:Int)))++[(V.sc (.int .i64 (0:Int))),(V.sc (.int .i64 (0:Int))),(V.sc (.int .u32 (0:Int)))]) 0 (List.take 32 p2)))) (
 chk (1=1∧33+1≤(List.length (ya (ya (List.replicate 32 (V.sc (.int .u8 (0:Int)))++[(V.sc (.int .i64 (0:Int))),(V.sc (.int .i64 (0:Int))),(V.sc (.int .u32 (0:Int)))]) 0 (List.take 32 p2)) 32 [(V.sc (.int .i64 p1))]))) (
 chk (1=1∧34+1≤(List.length (ya (ya (ya (List.replicate 32 (V.sc (.int .u8 (0:Int)))++[(V.sc (.int .i64 (0:Int))),(V.sc (.int .i64 (0:Int))),(V.sc (.int .u32 (0:Int)))]) 0 (List.take 32 p2)) 32 [(V.sc (.int .i64 p1))]) 33 [(V.sc (.int .i64 v8))]))) (
 chk ((List.length (ya (ya (ya (ya (List.replicate 32 (V.sc (.int .u8 (0:Int)))++[(V.sc (.int .i64 (0:Int))),(V.sc (.int .i64 (0:Int))),(V.sc (.int .u32 (0:Int)))]) 0 (List.take 32 p2)) 32 [(V.sc (.int .i64 p1))]) 33 [(V.sc (.int .i64 v8))]) 34 [(V.sc (.int .u32 v35))]))=35∧0+35≤35) (
 chk ((v30+List.length (xb 35 1 (ya (List.replicate 32 (V.sc (.int .u8 (0:Int)))++[(V.sc (.int .i64 (0:Int))),(V.sc (.int .i64 (0:Int))),(V.sc (.int .u32 (0:Int)))]) 0 (ya (ya (ya (ya (List.replicate 32 (V.sc (.int .u8 (0:Int)))++[(V.sc (.int .i64 (0:Int))),(V.sc (.int .i64 (0:Int))),(V.sc (.int .u32 (0:Int)))]) 0 (List.take 32 p2)) 32 [(V.sc (.int .i64 p1))]) 33 [(V.sc (.int .i64 v8))]) 34 [(V.sc (.int .u32 v35))])))) * 56≤yi∧(v30+List.length (xb 35 1 (ya (List.replicate 32 (V.sc (.int .u8 (0:Int)))++[(V.sc (.int .i64 (0:Int))),(V.sc (.int .i64 (0:Int))),(V.sc (.int .u32 (0:Int)))]) 0 (ya (ya (ya (ya (List.replicate 32 (V.sc (.int .u8 (0:Int)))++[(V.sc (.int .i64 (0:Int))),(V.sc (.int .i64 (0:Int))),(V.sc (.int .u32 (0:Int)))]) 0 (List.take 32 p2)) 32 [(V.sc (.int .i64 p1))]) 33 [(V.sc (.int .i64 v8))]) 34 [(V.sc (.int .u32 v35))]))))≤yi∧((v30+List.length (xb 35 1 (ya (List.replicate 32 (V.sc (.int .u8 (0:Int)))++[(V.sc (.int .i64 (0:Int))),(V.sc (.int .i64 (0:Int))),(V.sc (.int .u32 (0:Int)))]) 0 (ya (ya (ya (ya (List.replicate 32 (V.sc (.int .u8 (0:Int)))++[(V.sc (.int .i64 (0:Int))),(V.sc (.int .i64 (0:Int))),(V.sc (.int .u32 (0:Int)))]) 0 (List.take 32 p2)) 32 [(V.sc (.int .i64 p1))]) 33 [(V.sc (.int .i64 v8))]) 34 [(V.sc (.int .u32 v35))]))))≠0∨(List.length v33)=0)) (
 lt (List.take (v30 * 35) v33++List.flatten (xb 35 1 (ya (List.replicate 32 (V.sc (.int .u8 (0:Int)))++[(V.sc (.int .i64 (0:Int))),(V.sc (.int .i64 (0:Int))),(V.sc (.int .u32 (0:Int)))]) 0 (ya (ya (ya (ya (List.replicate 32 (V.sc (.int .u8 (0:Int)))++[(V.sc (.int .i64 (0:Int))),(V.sc (.int .i64 (0:Int))),(V.sc (.int .u32 (0:Int)))]) 0 (List.take 32 p2)) 32 [(V.sc (.int .i64 p1))]) 33 [(V.sc (.int .i64 v8))]) 34 [(V.sc (.int .u32 v35))])))) fun r36 =>
 k_fin [(V.sc (.int .u32 v27)),(V.sc (.bool v28)),(V.sl 1 (xb 1 v29 v32)),(V.sl 35 (xb 35 (v30+List.length (xb 35 1 (ya (List.replicate 32 (V.sc (.int .u8 (0:Int)))++[(V.sc (.int .i64 (0:Int))),(V.sc (.int .i64 (0:Int))),(V.sc (.int .u32 (0:Int)))]) 0 (ya (ya (ya (ya (List.replicate 32 (V.sc (.int .u8 (0:Int)))++[(V.sc (.int .i64 (0:Int))),(V.sc (.int .i64 (0:Int))),(V.sc (.int .u32 (0:Int)))]) 0 (List.take 32 p2)) 32 [(V.sc (.int .i64 p1))]) 33 [(V.sc (.int .i64 v8))]) 34 [(V.sc (.int .u32 v35))])))) r36)),(V.sl 32 (xb 32 v31 v34))] v8 (0:Int)))))))))) (
 k_fin [(V.sc (.int .u32 v27)),(V.sc (.bool v28)),(V.sl 1 (xb 1 v29 v32)),(V.sl 35 (xb 35 v30 v33)),(V.sl 32 (xb 32 v31 v34))] v8 (0:Int)))))) (
 ifb ((v8:Int) != (-1:Int)) (
 ifb (decide (((List.length v3:Nat):Int) ≥ (64:Int))) (
 k_fin [(V.sc (.int .u32 (0:Int))),(V.sc (.bool false)),(V.sl 1 ([]:List (List V))),(V.sl 35 ([]:List (List V))),(V.sl 32 ([]:List (List V)))] (0:Int) (380:Int)) (
 yl β L [(V.sc (.int .u32 v0)),(V.sc (.bool v1)),(V.sl 1 v2),(V.sl 35 v3),(V.sl 32 v4)] (fun v37 v38 v39 v40 v41 v42 v43 v44 =>
 ifb ((v8:Int) != (-1:Int)) (
 chk (0+32≤(List.length p2)) (
 yM β L p3 p4 (fun v45 =>
 chk ((List.length (List.take 32 p2))=32∧0+32≤35) (
 chk (1=1∧32+1≤(List.length (ya (List.replicate 32 (V.sc (.int .u8 (0:Int)))++[(V.sc (.int .i64 (0:Int))),(V.sc (.int .i64 (0:Int))),(V.sc (.int .u32 (0:Int)))]) 0 (List.take 32 p2)))) (
 chk (1=1∧33+1≤(List.length (ya (ya (List.replicate 32 (V.sc (.int .u8 (0:Int)))++[(V.sc (.int .i64 (0:Int))),(V.sc (.int .i64 (0:Int))),(V.sc (.int .u32 (0:Int)))]) 0 (List.take 32 p2)) 32 [(V.sc (.int .i64 p1))]))) (
 chk (1=1∧34+1≤(List.length (ya (ya (ya (List.replicate 32 (V.sc (.int .u8 (0:Int)))++[(V.sc (.int .i64 (0:Int))),(V.sc (.int .i64 (0:Int))),(V.sc (.int .u32 (0:Int)))]) 0 (List.take 32 p2)) 32 [(V.sc (.int .i64 p1))]) 33 [(V.sc (.int .i64 v8))]))) (
 chk ((List.length (ya (ya (ya (ya (List.replicate 32 (V.sc (.int .u8 (0:Int)))++[(V.sc (.int .i64 (0:Int))),(V.sc (.int .i64 (0:Int))),(V.sc (.int .u32 (0:Int)))]) 0 (List.take 32 p2)) 32 [(V.sc (.int .i64 p1))]) 33 [(V.sc (.int .i64 v8))]) 34 [(V.sc (.int .u32 v45))]))=35∧0+35≤35) (
 chk ((v40+List.length (xb 35 1 (ya (List.replicate 32 (V.sc (.int .u8 (0:Int)))++[(V.sc (.int .i64 (0:Int))),(V.sc (.int .i64 (0:Int))),(V.sc (.int .u32 (0:Int)))]) 0 (ya (ya (ya (ya (List.replicate 32 (V.sc (.int .u8 (0:Int)))++[(V.sc (.int .i64 (0:Int))),(V.sc (.int .i64 (0:Int))),(V.sc (.int .u32 (0:Int)))]) 0 (List.take 32 p2)) 32 [(V.sc (.int .i64 p1))]) 33 [(V.sc (.int .i64 v8))]) 34 [(V.sc (.int .u32 v45))])))) * 56≤yi∧(v40+List.length (xb 35 1 (ya (List.replicate 32 (V.sc (.int .u8 (0:Int)))++[(V.sc (.int .i64 (0:Int))),(V.sc (.int .i64 (0:Int))),(V.sc (.int .u32 (0:Int)))]) 0 (ya (ya (ya (ya (List.replicate 32 (V.sc (.int .u8 (0:Int)))++[(V.sc (.int .i64 (0:Int))),(V.sc (.int .i64 (0:Int))),(V.sc (.int .u32 (0:Int)))]) 0 (List.take 32 p2)) 32 [(V.sc (.int .i64 p1))]) 33 [(V.sc (.int .i64 v8))]) 34 [(V.sc (.int .u32 v45))]))))≤yi∧((v40+List.length (xb 35 1 (ya (List.replicate 32 (V.sc (.int .u8 (0:Int)))++[(V.sc (.int .i64 (0:Int))),(V.sc (.int .i64 (0:Int))),(V.sc (.int .u32 (0:Int)))]) 0 (ya (ya (ya (ya (List.replicate 32 (V.sc (.int .u8 (0:Int)))++[(V.sc (.int .i64 (0:Int))),(V.sc (.int .i64 (0:Int))),(V.sc (.int .u32 (0:Int)))]) 0 (List.take 32 p2)) 32 [(V.sc (.int .i64 p1))]) 33 [(V.sc (.int .i64 v8))]) 34 [(V.sc (.int .u32 v45))]))))≠0∨(List.length v43)=0)) (
 lt (List.take (v40 * 35) v43++List.flatten (xb 35 1 (ya (List.replicate 32 (V.sc (.int .u8 (0:Int)))++[(V.sc (.int .i64 (0:Int))),(V.sc (.int .i64 (0:Int))),(V.sc (.int .u32 (0:Int)))]) 0 (ya (ya (ya (ya (List.replicate 32 (V.sc (.int .u8 (0:Int)))++[(V.sc (.int .i64 (0:Int))),(V.sc (.int .i64 (0:Int))),(V.sc (.int .u32 (0:Int)))]) 0 (List.take 32 p2)) 32 [(V.sc (.int .i64 p1))]) 33 [(V.sc (.int .i64 v8))]) 34 [(V.sc (.int .u32 v45))])))) fun r46 =>
 k_fin [(V.sc (.int .u32 v37)),(V.sc (.bool v38)),(V.sl 1 (xb 1 v39 v42)),(V.sl 35 (xb 35 (v40+List.length (xb 35 1 (ya (List.replicate 32 (V.sc (.int .u8 (0:Int)))++[(V.sc (.int .i64 (0:Int))),(V.sc (.int .i64 (0:Int))),(V.sc (.int .u32 (0:Int)))]) 0 (ya (ya (ya (ya (List.replicate 32 (V.sc (.int .u8 (0:Int)))++[(V.sc (.int .i64 (0:Int))),(V.sc (.int .i64 (0:Int))),(V.sc (.int .u32 (0:Int)))]) 0 (List.take 32 p2)) 32 [(V.sc (.int .i64 p1))]) 33 [(V.sc (.int .i64 v8))]) 34 [(V.sc (.int .u32 v45))])))) r46)),(V.sl 32 (xb 32 v41 v44))] v8 (0:Int)))))))))) (
 k_fin [(V.sc (.int .u32 v37)),(V.sc (.bool v38)),(V.sl 1 (xb 1 v39 v42)),(V.sl 35 (xb 35 v40 v43)),(V.sl 32 (xb 32 v41 v44))] v8 (0:Int))))) (
 yl β L [(V.sc (.int .u32 v0)),(V.sc (.bool v1)),(V.sl 1 v2),(V.sl 35 v3),(V.sl 32 v4)] (fun v47 v48 v49 v50 v51 v52 v53 v54 =>
 ifb ((v8:Int) != (-1:Int)) (
 chk (0+32≤(List.length p2)) (
 yM β L p3 p4 (fun v55 =>
 chk ((List.length (List.take 32 p2))=32∧0+32≤35) (
 chk (1=1∧32+1≤(List.length (ya (List.replicate 32 (V.sc (.int .u8 (0:Int)))++[(V.sc (.int .i64 (0:Int))),(V.sc (.int .i64 (0:Int))),(V.sc (.int .u32 (0:Int)))]) 0 (List.take 32 p2)))) (
 chk (1=1∧33+1≤(List.length (ya (ya (List.replicate 32 (V.sc (.int .u8 (0:Int)))++[(V.sc (.int .i64 (0:Int))),(V.sc (.int .i64 (0:Int))),(V.sc (.int .u32 (0:Int)))]) 0 (List.take 32 p2)) 32 [(V.sc (.int .i64 p1))]))) (
 chk (1=1∧34+1≤(List.length (ya (ya (ya (List.replicate 32 (V.sc (.int .u8 (0:Int)))++[(V.sc (.int .i64 (0:Int))),(V.sc (.int .i64 (0:Int))),(V.sc (.int .u32 (0:Int)))]) 0 (List.take 32 p2)) 32 [(V.sc (.int .i64 p1))]) 33 [(V.sc (.int .i64 v8))]))) (
 chk ((List.length (ya (ya (ya (ya (List.replicate 32 (V.sc (.int .u8 (0:Int)))++[(V.sc (.int .i64 (0:Int))),(V.sc (.int .i64 (0:Int))),(V.sc (.int .u32 (0:Int)))]) 0 (List.take 32 p2)) 32 [(V.sc (.int .i64 p1))]) 33 [(V.sc (.int .i64 v8))]) 34 [(V.sc (.int .u32 v55))]))=35∧0+35≤35) (
 chk ((v50+List.length (xb 35 1 (ya (List.replicate 32 (V.sc (.int .u8 (0:Int)))++[(V.sc (.int .i64 (0:Int))),(V.sc (.int .i64 (0:Int))),(V.sc (.int .u32 (0:Int)))]) 0 (ya (ya (ya (ya (List.replicate 32 (V.sc (.int .u8 (0:Int)))++[(V.sc (.int .i64 (0:Int))),(V.sc (.int .i64 (0:Int))),(V.sc (.int .u32 (0:Int)))]) 0 (List.take 32 p2)) 32 [(V.sc (.int .i64 p1))]) 33 [(V.sc (.int .i64 v8))]) 34 [(V.sc (.int .u32 v55))])))) * 56≤yi∧(v50+List.length (xb 35 1 (ya (List.replicate 32 (V.sc (.int .u8 (0:Int)))++[(V.sc (.int .i64 (0:Int))),(V.sc (.int .i64 (0:Int))),(V.sc (.int .u32 (0:Int)))]) 0 (ya (ya (ya (ya (List.replicate 32 (V.sc (.int .u8 (0:Int)))++[(V.sc (.int .i64 (0:Int))),(V.sc (.int .i64 (0:Int))),(V.sc (.int .u32 (0:Int)))]) 0 (List.take 32 p2)) 32 [(V.sc (.int .i64 p1))]) 33 [(V.sc (.int .i64 v8))]) 34 [(V.sc (.int .u32 v55))]))))≤yi∧((v50+List.length (xb 35 1 (ya (List.replicate 32 (V.sc (.int .u8 (0:Int)))++[(V.sc (.int .i64 (0:Int))),(V.sc (.int .i64 (0:Int))),(V.sc (.int .u32 (0:Int)))]) 0 (ya (ya (ya (ya (List.replicate 32 (V.sc (.int .u8 (0:Int)))++[(V.sc (.int .i64 (0:Int))),(V.sc (.int .i64 (0:Int))),(V.sc (.int .u32 (0:Int)))]) 0 (List.take 32 p2)) 32 [(V.sc (.int .i64 p1))]) 33 [(V.sc (.int .i64 v8))]) 34 [(V.sc (.int .u32 v55))]))))≠0∨(List.length v53)=0)) (
 lt (List.take (v50 * 35) v53++List.flatten (xb 35 1 (ya (List.replicate 32 (V.sc (.int .u8 (0:Int)))++[(V.sc (.int .i64 (0:Int))),(V.sc (.int .i64 (0:Int))),(V.sc (.int .u32 (0:Int)))]) 0 (ya (ya (ya (ya (List.replicate 32 (V.sc (.int .u8 (0:Int)))++[(V.sc (.int .i64 (0:Int))),(V.sc (.int .i64 (0:Int))),(V.sc (.int .u32 (0:Int)))]) 0 (List.take 32 p2)) 32 [(V.sc (.int .i64 p1))]) 33 [(V.sc (.int .i64 v8))]) 34 [(V.sc (.int .u32 v55))])))) fun r56 =>
 k_fin [(V.sc (.int .u32 v47)),(V.sc (.bool v48)),(V.sl 1 (xb 1 v49 v52)),(V.sl 35 (xb 35 (v50+List.length (xb 35 1 (ya (List.replicate 32 (V.sc (.int .u8 (0:Int)))++[(V.sc (.int .i64 (0:Int))),(V.sc (.int .i64 (0:Int))),(V.sc (.int .u32 (0:Int)))]) 0 (ya (ya (ya (ya (List.replicate 32 (V.sc (.int .u8 (0:Int)))++[(V.sc (.int .i64 (0:Int))),(V.sc (.int .i64 (0:Int))),(V.sc (.int .u32 (0:Int)))]) 0 (List.take 32 p2)) 32 [(V.sc (.int .i64 p1))]) 33 [(V.sc (.int .i64 v8))]) 34 [(V.sc (.int .u32 v55))])))) r56)),(V.sl 32 (xb 32 v51 v54))] v8 (0:Int)))))))))) (
 k_fin [(V.sc (.int .u32 v47)),(V.sc (.bool v48)),(V.sl 1 (xb 1 v49 v52)),(V.sl 35 (xb 35 v50 v53)),(V.sl 32 (xb 32 v51 v54))] v8 (0:Int))))))))))))))))
theorem zrF {β:Type} (zr:zb8) (z7:zjj) (yg:zK) (yV:zhW) (yl:zbL) (yM:zhZ) (L:Nat) (p0:List V) (p1:Int) (p2:List V) (p3 p4:Int) (k:KK β):xH zkL (zkV zr z7 yg yV yl yM L) L zh2 [(V.agg p0),(V.sc (.int .i64 p1)),(V.agg p2),(V.sc (.int .u32 p3)),(V.sc (.int .u32 p4))] [] k=zmb zr z7 yg yV yl yM L p0 p1 p2 p3 p4 (fun zBO zBP zCb=>k (V.tup [(V.agg zBO),(V.sc (.int .i64 zBP)),(V.sc (.int .i64 zCb))]) []):=by kernel_rfl
abbrev zl:=∀ (β:Type),Nat→List V→Int→List V→Int→Int→(List V→Int→Int→Option β)→Option β
def yc (β:Type) (L:Nat) (p0:List V) (p1:Int) (p2:List V) (p3 p4:Int) (k_fin:List V→Int→Int→Option β):Option β:=zmb zr z7 yg yV yl yM L p0 p1 p2 p3 p4 k_fin
def zgC (yc:zl) (L:Nat) (β:Type) (args:List V) (bor:Bor) (k:KK β):Option β:=match args,bor with
 | [a0,a1,a2,a3,a4],[]=>aG a0 fun p0=>aI .i64 a1 fun p1=>aG a2 fun p2=>aI .u32 a3 fun p3=>aI .u32 a4 fun p4=>yc β L p0 p1 p2 p3 p4 (fun zBO zBP zCb=>k (V.tup [(V.agg zBO),(V.sc (.int .i64 zBP)),(V.sc (.int .i64 zCb))]) [])
 | _,_=>none
theorem zrD (L:Nat) (β:Type) (args:List V) (bor:Bor) (k:KK β) (r:β) (h:zgC yc L β args bor k=some r):xH zkL (zkV zr z7 yg yV yl yM L) L zh2 args bor k=some r:=by
 unfold zgC at h
 split at h
 ·have q:=zdX h; clear h; obtain ⟨p0,rfl,h⟩:=q
  have q:=zcp h; clear h; obtain ⟨p1,rfl,h⟩:=q
  have q:=zdX h; clear h; obtain ⟨p2,rfl,h⟩:=q
  have q:=zcp h; clear h; obtain ⟨p3,rfl,h⟩:=q
  have q:=zcp h; clear h; obtain ⟨p4,rfl,h⟩:=q
  exact (zrF zr z7 yg yV yl yM L p0 p1 p2 p3 p4 k).trans h
 ·cases h
end
end Go.Proofs.Ytpbbfpfmdckclaa
