/- Part 8 of the proof of RelayHears: an abstract machine over plain values, its soundness, and the functions of the program on plain values. -/
import Derived.Test.YtpbbfpfmdckclaaRows
import Derived.Test.YtpbbfpfmdckclaaMRelayHears7
namespace Go.Proofs.Ytpbbfpfmdckclaa
section
set_option maxRecDepth 100000
set_option linter.unusedVariables false
set_option linter.unusedSimpArgs false
def zb2:CC:=(.seq (.seq (.reg [oo 41 (.move (tq 10) false),
   oo 42 (.bin .geq (tq 41) (.const (.sc (.int .i64 0)))),
   oo 43 (.move (tq 42) false),
   ⟨(some 44),false,(some (43,true)),.move (tq 10) false⟩,
   ⟨(some 45),false,(some (43,true)),.move (tq 7) false⟩,
   ⟨(some 46),false,(some (43,true)),.bin .lss (tq 44) (tq 45)⟩,
   oo 47 (.pick (tq 43) (tq 46) (.const (.sc (.bool false)))),
   oo 48 (.move (tq 47) false),
   ⟨(some 49),false,(some (48,true)),.move (tq 8) false⟩,
   ⟨(some 50),false,(some (48,true)),.move (tq 10) false⟩,
   ⟨(some 51),false,(some (48,true)),.indexAddrS 1 (tq 49) (tq 50)⟩,
   ⟨(some 52),false,(some (48,true)),.load false 1 (tq 51) false⟩,
   ⟨(some 53),false,(some (48,true)),.un .not (tq 52)⟩,
   oo 54 (.pick (tq 48) (tq 53) (.const (.sc (.bool false))))])
 (.cond (tq 54)
 .skip
 (.seq (.mask (bl 512 71) (bl 2305843009213693950975 71))
 (.exit 0))))
 (.seq (.block 1 (.seq (.reg [oo 59 (.move (tq 8) false),
   oo 60 (.move (tq 10) false),
   oo 61 (.indexAddrS 1 (tq 59) (tq 60)),
   oz (.store 1 (tq 61) (.const (.sc (.bool true))))])
 (.seq (.reg [oo 62 (.move (tq 9) true),
   oo 63 (.move (tq 10) false),
   oo 64 (.buildSlice 1 1 [(.sc (.int .i64 0))] [(0,1,(tq 63))]),
   oo 65 (.append 1 8 (tq 62) (tq 64)),
   oo 9 (.move (tq 65) true)])
 (.seq (.reg [oo 66 (.move (tq 1) false),
   oo 67 (.move (tq 10) false),
   oo 68 (.indexAddrS 1 (tq 66) (tq 67)),
   oo 69 (.load false 1 (tq 68) false)])
 (.cond (tq 69)
 (.seq (.mask (bl 512 71) (bl 2305843009213693950975 71))
 (.exit 0))
 .skip)))))
 (.reg [oo 55 (.move (tq 0) false),
   oo 56 (.move (tq 10) false),
   oo 57 (.indexAddrS 1 (tq 55) (tq 56)),
   oo 58 (.load false 1 (tq 57) false),
   oo 10 (.move (tq 58) false)])))
def zgj:CC:=(.seq (.reg [oo 70 (.move (tq 9) true),
   oo 6 (.move (tq 70) true)])
 .ret)
def zdC:CF:=⟨71,[.tmp 6],
 (.seq (.reg [oo 6 (.move (.const (.gs 1 [])) true)])
 (.seq (.reg [oo 11 (.move (tq 0) false),
   oo 12 (.lenS (tq 11)),
   oo 7 (.move (tq 12) false)])
 (.seq (.seq (.reg [oo 13 (.move (tq 7) false),
   oo 14 (.move (tq 1) false),
   oo 15 (.lenS (tq 14)),
   oo 16 (.bin .neq (tq 13) (tq 15)),
   oo 17 (.move (tq 16) false),
   ⟨(some 18),false,(some (17,false)),.move (tq 7) false⟩,
   ⟨(some 19),false,(some (17,false)),.bin .gtr (tq 18) (.const (.sc (.int .i64 64)))⟩,
   oo 20 (.pick (tq 17) (.const (.sc (.bool true))) (tq 19)),
   oo 21 (.move (tq 20) false),
   ⟨(some 22),false,(some (21,false)),.move (tq 2) false⟩,
   ⟨(some 23),false,(some (21,false)),.bin .lss (tq 22) (.const (.sc (.int .i64 0)))⟩,
   oo 24 (.pick (tq 21) (.const (.sc (.bool true))) (tq 23)),
   oo 25 (.move (tq 24) false),
   ⟨(some 26),false,(some (25,false)),.move (tq 2) false⟩,
   ⟨(some 27),false,(some (25,false)),.move (tq 7) false⟩,
   ⟨(some 28),false,(some (25,false)),.bin .geq (tq 26) (tq 27)⟩,
   oo 29 (.pick (tq 25) (.const (.sc (.bool true))) (tq 28))])
 (.cond (tq 29)
 (.seq (.reg [oo 6 (.move (.const (.gs 1 [])) true)])
 .ret)
 .skip))
 (.seq (.reg [oo 30 (.move (tq 7) false),
   ⟨(some 31),true,none,.makeSlice 1 1 [(.sc (.bool false))] (tq 30) (tq 30)⟩,
   oo 8 (.move (tq 31) false)])
 (.seq (.reg [oo 32 (.move (tq 8) false),
   oo 33 (.move (tq 2) false),
   oo 34 (.indexAddrS 1 (tq 32) (tq 33)),
   oz (.store 1 (tq 34) (.const (.sc (.bool true))))])
 (.seq (.reg [oo 35 (.move (tq 2) false),
   oo 36 (.buildSlice 1 1 [(.sc (.int .i64 0))] [(0,1,(tq 35))]),
   oo 9 (.move (tq 36) true)])
 (.seq (.seq (.reg [oo 37 (.move (tq 0) false),
   oo 38 (.move (tq 2) false),
   oo 39 (.indexAddrS 1 (tq 37) (tq 38)),
   oo 40 (.load false 1 (tq 39) false),
   oo 10 (.move (tq 40) false)])
 (.block 0 (.loop (bl 1923 71) (bl 2305843009213693951999 71)
 zb2)))
 zgj)))))))⟩
def zna:Hint:=⟨[(0,0),(3,0),(6,2),(11,0),(11,4),(13,0),(13,1)],[(4,1)],[none,none,none,some ((bl 1923 71),(bl 2305843009213693951999 71)),none,some ((bl 512 71),(bl 2305843009213693950975 71)),none,none,some ((bl 512 71),(bl 2305843009213693950975 71)),none],[],[],false,false⟩
def zbv:Nat→Sh:=z6 [(40,(.int .i64)),(52,.bool),(69,.bool),(58,(.int .i64))]
def zbx (L:Nat):CBC:=noC
def zds:St→St:=xZ 0 (bl 1923 71) (bl 2305843009213693951999 71)
def zcp (p0 p1:List (List V)) (p7:Int) (p8l:Nat) (p9:List (List V)) (p10:Int) (b31:List V):St:=⟨((V.sl 1 p0)::((V.sl 1 p1)::(jn 5 ((V.sc (.int .i64 p7))::((V.own 31 0 p8l 1)::((V.gs 1 p9)::((V.sc (.int .i64 p10))::(jn 60 [])))))))),(gn 31 ((.live true b31)::(gn 39 [])))⟩
def ziy (p9:List (List V)) (b31:List V):St:=⟨(jn 9 ((V.gs 1 p9)::(jn 61 []))),(gn 31 ((.live true b31)::(gn 39 [])))⟩
abbrev zh6 (β:Type):Type:=List (List V)→List (List V)→Int→Nat→List (List V)→Int→List V→Option β
def zqj {β:Type} (L:Nat) (p0 p1:List (List V)) (p2:Int) (k_fin:List (List V)→Option β) (k_hbbbbbbaba:zh6 β):Option β :=
 ifb ((((List.length p0:Nat):Int):Int) != ((List.length p1:Nat):Int)) (
 k_fin ([]:List (List V))) (
 ifb (decide (((List.length p0:Nat):Int) > (64:Int))) (
 k_fin ([]:List (List V))) (
 ifb (decide (p2 < (0:Int))) (
 k_fin ([]:List (List V))) (
 ifb (decide (p2 ≥ ((List.length p0:Nat):Int))) (
 k_fin ([]:List (List V))) (
 chk (0≤((List.length p0:Nat):Int)∧((List.length p0:Nat):Int)≤((List.length p0:Nat):Int)∧(Int.toNat ((List.length p0:Nat):Int)) * 1≤xh∧((List.length p0:Nat):Int)≤xh) (
 chk (0≤p2∧p2 < (((Int.toNat ((List.length p0:Nat):Int)):Nat):Int)) (
 chk (1=1∧(0+((Int.toNat p2) * 1))+1≤(List.length (List.flatten (List.replicate (Int.toNat ((List.length p0:Nat):Int)) [(V.sc (.bool false))])))) (
 lt (za (List.flatten (List.replicate (Int.toNat ((List.length p0:Nat):Int)) [(V.sc (.bool false))])) (0+((Int.toNat p2) * 1)) [(V.sc (.bool true))]) fun r0 =>
 idx p0 p2 fun c1 =>
 cI .i64 c1 0 fun v2 =>
 k_hbbbbbbaba p0 p1 ((List.length p0:Nat):Int) (Int.toNat ((List.length p0:Nat):Int)) (zc 1 1 [(V.sc (.int .i64 p2))]) v2 r0)))))))
theorem zr4 {β:Type} (L:Nat) (p0 p1:List (List V)) (p2:Int) (k:KK β):zD zbv (zbx L) L zdC [(V.sl 1 p0),(V.sl 1 p1),(V.sc (.int .i64 p2))] [] k=zqj L p0 p1 p2 (fun p0=>k (V.gs 1 p0) []) (fun p0 p1 p7 p8l p9 p10 b31=>xE (xj zbv (zbx L) 0 L zb2) zds L (zcp p0 p1 p7 p8l p9 p10 b31) (yv 0 (zL (xj zbv (zbx L) 0 L zgj) (xR 0 (CF.res zdC) k)))):=by kernel_rfl
def ziQ {β:Type} (L:Nat) (p0 p1:List (List V)) (p7:Int) (p8l:Nat) (p9:List (List V)) (p10:Int) (b31:List V) (k_x0:List (List V)→List V→Option β) (k_hbbbbbbaba:zh6 β):Option β :=
 ifb (decide (p10 ≥ (0:Int))) (
 ifb (decide (p10 < p7)) (
 chk (0≤p10∧p10 < ((p8l:Nat):Int)) (
 cB b31 (0+((Int.toNat p10) * 1)) fun v3 =>
 ifb (!v3) (
 chk (0≤p10∧p10 < ((p8l:Nat):Int)) (
 chk (1=1∧(0+((Int.toNat p10) * 1))+1≤(List.length b31)) (
 lt (za b31 (0+((Int.toNat p10) * 1)) [(V.sc (.bool true))]) fun r4 =>
 chk ((List.length p9+List.length (zc 1 1 [(V.sc (.int .i64 p10))])) * 8≤xh∧List.length p9+List.length (zc 1 1 [(V.sc (.int .i64 p10))])≤xh) (
 lt (p9++(zc 1 1 [(V.sc (.int .i64 p10))])) fun l5 =>
 idx p1 p10 fun c6 =>
 cB c6 0 fun v7 =>
 ifb v7 (
 k_x0 l5 r4) (
 idx p0 p10 fun c8 =>
 cI .i64 c8 0 fun v9 =>
 k_hbbbbbbaba p0 p1 p7 p8l l5 v9 r4))))) (
 k_x0 p9 b31))) (
 k_x0 p9 b31)) (
 k_x0 p9 b31)
theorem zmk {β:Type} (L:Nat) (p0 p1:List (List V)) (p7:Int) (p8l:Nat) (p9:List (List V)) (p10:Int) (b31:List V) (X:St→Option β) (K:KT β):xj zbv (zbx L) 0 L zb2 (zcp p0 p1 p7 p8l p9 p10 b31) (zbe zds X K)=ziQ L p0 p1 p7 p8l p9 p10 b31 (fun p9 b31=>K (.exit 0) (ziy p9 b31)) (fun p0 p1 p7 p8l p9 p10 b31=>X (zcp p0 p1 p7 p8l p9 p10 b31)):=by kernel_rfl
def zhK {β:Type} (L:Nat) (p9:List (List V)) (b31:List V) (k_fin:List (List V)→Option β):Option β :=
 k_fin p9
theorem zlC {β:Type} (L:Nat) (p9:List (List V)) (b31:List V) (k:KK β):(yv 0 (zL (xj zbv (zbx L) 0 L zgj) (xR 0 (CF.res zdC) k))) (.exit 0) (ziy p9 b31)=zhK L p9 b31 (fun p0=>k (V.gs 1 p0) []):=by kernel_rfl
def zfe {β:Type} (L:Nat) (k_x0:List (List V)→List V→Option β):Nat→List (List V)→List (List V)→Int→Nat→List (List V)→Int→List V→Option β
 | 0,_,_,_,_,_,_,_=>none
 | n+1,p0,p1,p7,p8l,p9,p10,b31=>ziQ L p0 p1 p7 p8l p9 p10 b31 k_x0 (fun p0 p1 p7 p8l p9 p10 b31=>zfe L k_x0 n p0 p1 p7 p8l p9 p10 b31)
theorem zg7 {β:Type} (L:Nat) (K:KT β):∀ (n:Nat) (p0 p1:List (List V)) (p7:Int) (p8l:Nat) (p9:List (List V)) (p10:Int) (b31:List V),xE (xj zbv (zbx L) 0 L zb2) zds n (zcp p0 p1 p7 p8l p9 p10 b31) K=zfe L (fun p9 b31=>K (.exit 0) (ziy p9 b31)) n p0 p1 p7 p8l p9 p10 b31:=by
 intro n
 induction n with
 | zero=>intros; rfl
 | succ n ih =>
  intro p0 p1 p7 p8l p9 p10 b31
  refine (zmk L p0 p1 p7 p8l p9 p10 b31 (fun σ=>xE (xj zbv (zbx L) 0 L zb2) zds n σ K) K).trans ?_
  simp only [ih]
  rfl
def zmO {β:Type} (L:Nat) (p0 p1:List (List V)) (p2:Int) (k_fin:List (List V)→Option β):Option β :=
 zqj L p0 p1 p2 k_fin (fun p0 p1 p7 p8l p9 p10 b31=>zfe L (fun p9 b31=>zhK L p9 b31 k_fin) L p0 p1 p7 p8l p9 p10 b31)
theorem zsB {β:Type} (L:Nat) (p0 p1:List (List V)) (p2:Int) (k:KK β):zD zbv (zbx L) L zdC [(V.sl 1 p0),(V.sl 1 p1),(V.sc (.int .i64 p2))] [] k=zmO L p0 p1 p2 (fun p0=>k (V.gs 1 p0) []):=by
 refine (zr4 L p0 p1 p2 k).trans ?_
 unfold zmO
 first
  | (simp only [zg7,zlC]; done)
  | (simp only [zg7]; rfl)
abbrev zjD:=∀ (β:Type),Nat→List (List V)→List (List V)→Int→(List (List V)→Option β)→Option β
def zad (β:Type) (L:Nat) (p0 p1:List (List V)) (p2:Int) (k_fin:List (List V)→Option β):Option β:=zmO L p0 p1 p2 k_fin
def zjV (zad:zjD) (L:Nat) (β:Type) (args:List V) (bor:Bor) (k:KK β):Option β:=match args,bor with
 | [a0,a1,a2],[]=>aL 1 a0 fun p0=>aL 1 a1 fun p1=>aI .i64 a2 fun p2=>zad β L p0 p1 p2 (fun p0=>k (V.gs 1 p0) [])
 | _,_=>none
theorem zsw (L:Nat) (β:Type) (args:List V) (bor:Bor) (k:KK β) (r:β) (h:zjV zad L β args bor k=some r):zD zbv (zbx L) L zdC args bor k=some r:=by
 unfold zjV at h
 split at h
 ·have q:=za5 h; clear h; obtain ⟨p0,rfl,h⟩:=q
  have q:=za5 h; clear h; obtain ⟨p1,rfl,h⟩:=q
  have q:=zar h; clear h; obtain ⟨p2,rfl,h⟩:=q
  exact (zsB L p0 p1 p2 k).trans h
 ·cases h
def zdI:CC:=(.seq (.reg [oo 11 (.bin .lss (tq 10) (tq 9))])
 (.seq (.cond (tq 11)
 .skip
 (.seq (.mask (bl 0 40) (bl 1099494850319 40))
 (.exit 0)))
 (.seq (.block 1 (.seq (.reg [oo 12 (.move (tq 10) false),
   oo 13 (.indexAddrS 1 (tq 8) (tq 10)),
   oo 14 (.load false 1 (tq 13) false),
   oo 6 (.move (tq 12) false),
   oo 7 (.move (tq 14) false)])
 (.seq (.reg [oo 15 (.move (tq 6) false),
   oo 16 (.bin .gtr (tq 15) (.const (.sc (.int .i64 0)))),
   oo 17 (.move (tq 16) false),
   ⟨(some 18),false,(some (17,true)),.move (tq 7) false⟩,
   ⟨(some 19),false,(some (17,true)),.bin .geq (tq 18) (.const (.sc (.int .i64 0)))⟩,
   oo 20 (.pick (tq 17) (tq 19) (.const (.sc (.bool false)))),
   oo 21 (.move (tq 20) false),
   ⟨(some 22),false,(some (21,true)),.move (tq 7) false⟩,
   ⟨(some 23),false,(some (21,true)),.move (tq 1) false⟩,
   ⟨(some 24),false,(some (21,true)),.lenS (tq 23)⟩,
   ⟨(some 25),false,(some (21,true)),.bin .lss (tq 22) (tq 24)⟩,
   oo 26 (.pick (tq 21) (tq 25) (.const (.sc (.bool false)))),
   oo 27 (.move (tq 26) false),
   ⟨(some 28),false,(some (27,true)),.move (tq 1) false⟩,
   ⟨(some 29),false,(some (27,true)),.move (tq 7) false⟩,
   ⟨(some 30),false,(some (27,true)),.indexAddrS 1 (tq 28) (tq 29)⟩,
   ⟨(some 31),false,(some (27,true)),.load false 1 (tq 30) false⟩,
   oo 32 (.pick (tq 27) (tq 31) (.const (.sc (.bool false))))])
 (.cond (tq 32)
 (.seq (.dreg [] [(oo 33 (.move (tq 6) false),q0),
   (oo 34 (.move (tq 0) false),q0),
   (oo 35 (.move (tq 6) false),q0),
   (oo 36 (.bin .sub (tq 35) (.const (.sc (.int .i64 1)))),q0),
   (oo 37 (.indexAddrS 1 (tq 34) (tq 36)),q0),
   (oo 38 (.load false 1 (tq 37) false),q0),
   (oo 4 (.move (tq 33) false),q0),
   (oo 5 (.move (tq 38) false),q0)])
 (.seq (.mask (bl 48 40) (bl 1099494850367 40))
 .ret))
 .skip))))
 (.reg [oo 39 (.bin .add (tq 10) (.const (.sc (.int .i64 1)))),
   oo 10 (.move (tq 39) false)]))))
def zhy:CC:=(.seq (.reg [oo 4 (.move (.const (.sc (.int .i64 (-1)))) false),
   oo 5 (.move (.const (.sc (.int .i64 (-1)))) false)])
 .ret)
def zcF:CF:=⟨40,[.tmp 4,.tmp 5],
 (.seq (.reg [oo 4 (.move (.const (.sc (.int .i64 0))) false),
   oo 5 (.move (.const (.sc (.int .i64 0))) false)])
 (.seq (.seq (.reg [oo 8 (.move (tq 0) false),
   oo 9 (.lenS (tq 8)),
   oo 10 (.move (.const (.sc (.int .i64 0))) false)])
 (.block 0 (.loop (bl 1795 40) (bl 1099494850319 40)
 zdI)))
 zhy))⟩
def znh:Hint:=⟨[],[],[none,some ((bl 1795 40),(bl 1099494850319 40)),none,some ((bl 0 40),(bl 1099494850319 40)),none,none,some ((bl 48 40),(bl 1099494850367 40)),none],[],[],false,false⟩
def za8:Nat→Sh:=z6 [(14,(.int .i64)),(31,.bool),(38,(.int .i64))]
def za6 (L:Nat):CBC:=noC
def zfC:St→St:=xZ 0 (bl 1795 40) (bl 1099494850319 40)
def zef (p0 p1 p8:List (List V)) (p9 p10:Int):St:=⟨((V.sl 1 p0)::((V.sl 1 p1)::(jn 6 ((V.sl 1 p8)::((V.sc (.int .i64 p9))::((V.sc (.int .i64 p10))::(jn 29 []))))))),(gn 40 [])⟩
def zh0 (p4 p5:Int):St:=⟨(jn 4 ((V.sc (.int .i64 p4))::((V.sc (.int .i64 p5))::(jn 34 [])))),(gn 40 [])⟩
def ziG:St:=⟨(jn 40 []),(gn 40 [])⟩
abbrev zlQ (β:Type):Type:=List (List V)→List (List V)→List (List V)→Int→Int→Option β
def zqc {β:Type} (L:Nat) (p0 p1:List (List V)) (k_hbaba:zlQ β):Option β :=
 k_hbaba p0 p1 p0 ((List.length p0:Nat):Int) (0:Int)
theorem zto {β:Type} (L:Nat) (p0 p1:List (List V)) (k:KK β):zD za8 (za6 L) L zcF [(V.sl 1 p0),(V.sl 1 p1)] [] k=zqc L p0 p1 (fun p0 p1 p8 p9 p10=>xE (xj za8 (za6 L) 0 L zdI) zfC L (zef p0 p1 p8 p9 p10) (yv 0 (zL (xj za8 (za6 L) 0 L zhy) (xR 0 (CF.res zcF) k)))):=by kernel_rfl
def zmg {β:Type} (L:Nat) (p0 p1 p8:List (List V)) (p9 p10:Int) (k_ret:Int→Int→Option β) (k_hbaba:zlQ β) (k_x0:Option β):Option β :=
 ifb (decide (p10 < p9)) (
 idx p8 p10 fun c0 =>
 cI .i64 c0 0 fun v1 =>
 ifb (decide (p10 > (0:Int))) (
 ifb (decide (v1 ≥ (0:Int))) (
 ifb (decide (v1 < ((List.length p1:Nat):Int))) (
 idx p1 v1 fun c2 =>
 cB c2 0 fun v3 =>
 ifb v3 (
 lt (IntKind.wrap .i64 ((p10:Int) - (1:Int))) fun x4 =>
 idx p0 x4 fun c5 =>
 cI .i64 c5 0 fun v6 =>
 k_ret p10 v6) (
 lt (IntKind.wrap .i64 ((p10:Int)+(1:Int))) fun x7 =>
 k_hbaba p0 p1 p8 p9 x7)) (
 lt (IntKind.wrap .i64 ((p10:Int)+(1:Int))) fun x8 =>
 k_hbaba p0 p1 p8 p9 x8)) (
 lt (IntKind.wrap .i64 ((p10:Int)+(1:Int))) fun x9 =>
 k_hbaba p0 p1 p8 p9 x9)) (
 lt (IntKind.wrap .i64 ((p10:Int)+(1:Int))) fun x10 =>
 k_hbaba p0 p1 p8 p9 x10)) (
 k_x0)
theorem zpD {β:Type} (L:Nat) (p0 p1 p8:List (List V)) (p9 p10:Int) (X:St→Option β) (K:KT β):xj za8 (za6 L) 0 L zdI (zef p0 p1 p8 p9 p10) (zbe zfC X K)=zmg L p0 p1 p8 p9 p10 (fun p4 p5=>K .ret (zh0 p4 p5)) (fun p0 p1 p8 p9 p10=>X (zef p0 p1 p8 p9 p10)) (K (.exit 0) (ziG)):=by kernel_rfl
def zkc {β:Type} (L:Nat) (p4 p5:Int) (k_fin:Int→Int→Option β):Option β :=
 k_fin p4 p5
theorem znY {β:Type} (L:Nat) (p4 p5:Int) (k:KK β):(yv 0 (zL (xj za8 (za6 L) 0 L zhy) (xR 0 (CF.res zcF) k))) .ret (zh0 p4 p5)=zkc L p4 p5 (fun zBO zBP=>k (V.tup [(V.sc (.int .i64 zBO)),(V.sc (.int .i64 zBP))]) []):=by kernel_rfl
def zk2 {β:Type} (L:Nat) (k_fin:Int→Int→Option β):Option β :=
 k_fin (-1:Int) (-1:Int)
theorem zov {β:Type} (L:Nat) (k:KK β):(yv 0 (zL (xj za8 (za6 L) 0 L zhy) (xR 0 (CF.res zcF) k))) (.exit 0) (ziG)=zk2 L (fun zBO zBP=>k (V.tup [(V.sc (.int .i64 zBO)),(V.sc (.int .i64 zBP))]) []):=by kernel_rfl
def ziD {β:Type} (L:Nat) (k_ret:Int→Int→Option β) (k_x0:Option β):Nat→List (List V)→List (List V)→List (List V)→Int→Int→Option β
 | 0,_,_,_,_,_=>none
 | n+1,p0,p1,p8,p9,p10=>zmg L p0 p1 p8 p9 p10 k_ret (fun p0 p1 p8 p9 p10=>ziD L k_ret k_x0 n p0 p1 p8 p9 p10) k_x0
theorem zkb {β:Type} (L:Nat) (K:KT β):∀ (n:Nat) (p0 p1 p8:List (List V)) (p9 p10:Int),xE (xj za8 (za6 L) 0 L zdI) zfC n (zef p0 p1 p8 p9 p10) K=ziD L (fun p4 p5=>K .ret (zh0 p4 p5)) (K (.exit 0) (ziG)) n p0 p1 p8 p9 p10:=by
 intro n
 induction n with
 | zero=>intros; rfl
 | succ n ih =>
  intro p0 p1 p8 p9 p10
  refine (zpD L p0 p1 p8 p9 p10 (fun σ=>xE (xj za8 (za6 L) 0 L zdI) zfC n σ K) K).trans ?_
  simp only [ih]
  rfl
def zmv {β:Type} (L:Nat) (p0 p1:List (List V)) (k_fin:Int→Int→Option β):Option β :=
 zqc L p0 p1 (fun p0 p1 p8 p9 p10=>ziD L (fun p4 p5=>zkc L p4 p5 k_fin) (zk2 L k_fin) L p0 p1 p8 p9 p10)
theorem ztg {β:Type} (L:Nat) (p0 p1:List (List V)) (k:KK β):zD za8 (za6 L) L zcF [(V.sl 1 p0),(V.sl 1 p1)] [] k=zmv L p0 p1 (fun zBO zBP=>k (V.tup [(V.sc (.int .i64 zBO)),(V.sc (.int .i64 zBP))]) []):=by
 refine (zto L p0 p1 k).trans ?_
 unfold zmv
 first
  | (simp only [zkb,znY,zov]; done)
  | (simp only [zkb]; rfl)
abbrev zjt:=∀ (β:Type),Nat→List (List V)→List (List V)→(Int→Int→Option β)→Option β
def zaa (β:Type) (L:Nat) (p0 p1:List (List V)) (k_fin:Int→Int→Option β):Option β:=zmv L p0 p1 k_fin
def zjJ (zaa:zjt) (L:Nat) (β:Type) (args:List V) (bor:Bor) (k:KK β):Option β:=match args,bor with
 | [a0,a1],[]=>aL 1 a0 fun p0=>aL 1 a1 fun p1=>zaa β L p0 p1 (fun zBO zBP=>k (V.tup [(V.sc (.int .i64 zBO)),(V.sc (.int .i64 zBP))]) [])
 | _,_=>none
theorem ztd (L:Nat) (β:Type) (args:List V) (bor:Bor) (k:KK β) (r:β) (h:zjJ zaa L β args bor k=some r):zD za8 (za6 L) L zcF args bor k=some r:=by
 unfold zjJ at h
 split at h
 ·have q:=za5 h; clear h; obtain ⟨p0,rfl,h⟩:=q
  have q:=za5 h; clear h; obtain ⟨p1,rfl,h⟩:=q
  exact (ztg L p0 p1 k).trans h
 ·cases h
def zbV:CC:=(.seq (.seq (.reg [oo 11 (.move (tq 5) false),
   oo 12 (.move (tq 0) false),
   oo 13 (.lenS (tq 12)),
   oo 14 (.bin .lss (tq 11) (tq 13))])
 (.cond (tq 14)
 .skip
 (.seq (.mask (bl 0 26) (bl 67100623 26))
 (.exit 0))))
 (.seq (.block 1 (.seq (.dreg [] [(oo 17 (.move (tq 0) false),q0),
   (oo 18 (.move (tq 5) false),q0),
   (oo 19 (.indexAddrS 1 (tq 17) (tq 18)),q0),
   (oo 20 (.load false 1 (tq 19) false),qc [] []),
   (oo 21 (.move (tq 1) false),q0),
   (oo 22 (.move (tq 5) false),q0),
   (oo 23 (.indexAddrS 1 (tq 21) (tq 22)),q0),
   (oo 24 (.load false 1 (tq 23) false),qc [] []),
   (oo 25 (.bin .neq (tq 20) (tq 24)),q0)])
 (.cond (tq 25)
 (.seq (.reg [oo 4 (.move (.const (.sc (.bool false))) false)])
 (.seq (.mask (bl 16 26) (bl 67100639 26))
 .ret))
 .skip)))
 (.reg [oo 15 (.move (tq 5) false),
   oo 16 (.bin .add (tq 15) (.const (.sc (.int .i64 1)))),
   oo 5 (.move (tq 16) false)])))
def zed:CC:=(.seq (.reg [oo 4 (.move (.const (.sc (.bool true))) false)])
 .ret)
def zbb:CF:=⟨26,[.tmp 4],
 (.seq (.reg [oo 4 (.move (.const (.sc (.bool false))) false)])
 (.seq (.seq (.reg [oo 6 (.move (tq 0) false),
   oo 7 (.lenS (tq 6)),
   oo 8 (.move (tq 1) false),
   oo 9 (.lenS (tq 8)),
   oo 10 (.bin .neq (tq 7) (tq 9))])
 (.cond (tq 10)
 (.seq (.reg [oo 4 (.move (.const (.sc (.bool false))) false)])
 .ret)
 .skip))
 (.seq (.seq (.reg [oo 5 (.move (.const (.sc (.int .i64 0))) false)])
 (.block 0 (.loop (bl 35 26) (bl 67100655 26)
 zbV)))
 zed)))⟩
def zka:Hint:=⟨[],[],[none,none,none,some ((bl 35 26),(bl 67100655 26)),none,some ((bl 0 26),(bl 67100623 26)),none,none,some ((bl 16 26),(bl 67100639 26)),none],[],[],false,false⟩
def z4:Nat→Sh:=z6 [(20,(.int .i64)),(24,(.int .i64))]
def y4 (L:Nat):CBC:=noC
def zdv:St→St:=xZ 0 (bl 35 26) (bl 67100655 26)
def zcy (p0 p1:List (List V)) (p5:Int):St:=⟨((V.sl 1 p0)::((V.sl 1 p1)::(jn 3 ((V.sc (.int .i64 p5))::(jn 20 []))))),(gn 26 [])⟩
def zfh (p4:Bool):St:=⟨(jn 4 ((V.sc (.bool p4))::(jn 21 []))),(gn 26 [])⟩
def zfU:St:=⟨(jn 26 []),(gn 26 [])⟩
def zix {β:Type} (L:Nat) (p0 p1:List (List V)) (k_fin:Bool→Option β) (k_hbbaba:List (List V)→List (List V)→Int→Option β):Option β :=
 ifb ((((List.length p0:Nat):Int):Int) != ((List.length p1:Nat):Int)) (
 k_fin false) (
 k_hbbaba p0 p1 (0:Int))
theorem zpB {β:Type} (L:Nat) (p0 p1:List (List V)) (k:KK β):zD z4 (y4 L) L zbb [(V.sl 1 p0),(V.sl 1 p1)] [] k=zix L p0 p1 (fun p0=>k (V.sc (.bool p0)) []) (fun p0 p1 p5=>xE (xj z4 (y4 L) 0 L zbV) zdv L (zcy p0 p1 p5) (yv 0 (zL (xj z4 (y4 L) 0 L zed) (xR 0 (CF.res zbb) k)))):=by kernel_rfl
def ze9 {β:Type} (L:Nat) (p0 p1:List (List V)) (p5:Int) (k_ret:Bool→Option β) (k_hbbaba:List (List V)→List (List V)→Int→Option β) (k_x0:Option β):Option β :=
 ifb (decide (p5 < ((List.length p0:Nat):Int))) (
 idx p0 p5 fun c0 =>
 cI .i64 c0 0 fun v1 =>
 idx p1 p5 fun c2 =>
 cI .i64 c2 0 fun v3 =>
 ifb ((v1:Int) != v3) (
 k_ret false) (
 lt (IntKind.wrap .i64 ((p5:Int)+(1:Int))) fun x4 =>
 k_hbbaba p0 p1 x4)) (
 k_x0)
theorem zmi {β:Type} (L:Nat) (p0 p1:List (List V)) (p5:Int) (X:St→Option β) (K:KT β):xj z4 (y4 L) 0 L zbV (zcy p0 p1 p5) (zbe zdv X K)=ze9 L p0 p1 p5 (fun p4=>K .ret (zfh p4)) (fun p0 p1 p5=>X (zcy p0 p1 p5)) (K (.exit 0) (zfU)):=by kernel_rfl
def zg3 {β:Type} (L:Nat) (p4:Bool) (k_fin:Bool→Option β):Option β :=
 k_fin p4
theorem zlk {β:Type} (L:Nat) (p4:Bool) (k:KK β):(yv 0 (zL (xj z4 (y4 L) 0 L zed) (xR 0 (CF.res zbb) k))) .ret (zfh p4)=zg3 L p4 (fun p0=>k (V.sc (.bool p0)) []):=by kernel_rfl
def zhI {β:Type} (L:Nat) (k_fin:Bool→Option β):Option β :=
 k_fin true
theorem zlq {β:Type} (L:Nat) (k:KK β):(yv 0 (zL (xj z4 (y4 L) 0 L zed) (xR 0 (CF.res zbb) k))) (.exit 0) (zfU)=zhI L (fun p0=>k (V.sc (.bool p0)) []):=by kernel_rfl
def zcc {β:Type} (L:Nat) (k_ret:Bool→Option β) (k_x0:Option β):Nat→List (List V)→List (List V)→Int→Option β
 | 0,_,_,_=>none
 | n+1,p0,p1,p5=>ze9 L p0 p1 p5 k_ret (fun p0 p1 p5=>zcc L k_ret k_x0 n p0 p1 p5) k_x0
theorem zgU {β:Type} (L:Nat) (K:KT β):∀ (n:Nat) (p0 p1:List (List V)) (p5:Int),xE (xj z4 (y4 L) 0 L zbV) zdv n (zcy p0 p1 p5) K=zcc L (fun p4=>K .ret (zfh p4)) (K (.exit 0) (zfU)) n p0 p1 p5:=by
 intro n
 induction n with
 | zero=>intros; rfl
 | succ n ih =>
  intro p0 p1 p5
  refine (zmi L p0 p1 p5 (fun σ=>xE (xj z4 (y4 L) 0 L zbV) zdv n σ K) K).trans ?_
  simp only [ih]
  rfl
def zfP {β:Type} (L:Nat) (p0 p1:List (List V)) (k_fin:Bool→Option β):Option β :=
 zix L p0 p1 k_fin (fun p0 p1 p5=>zcc L (fun p4=>zg3 L p4 k_fin) (zhI L k_fin) L p0 p1 p5)
theorem zpt {β:Type} (L:Nat) (p0 p1:List (List V)) (k:KK β):zD z4 (y4 L) L zbb [(V.sl 1 p0),(V.sl 1 p1)] [] k=zfP L p0 p1 (fun p0=>k (V.sc (.bool p0)) []):=by
 refine (zpB L p0 p1 k).trans ?_
 unfold zfP
 first
  | (simp only [zgU,zlk,zlq]; done)
  | (simp only [zgU]; rfl)
abbrev zI:=∀ (β:Type),Nat→List (List V)→List (List V)→(Bool→Option β)→Option β
def yf (β:Type) (L:Nat) (p0 p1:List (List V)) (k_fin:Bool→Option β):Option β:=zfP L p0 p1 k_fin
def zd7 (yf:zI) (L:Nat) (β:Type) (args:List V) (bor:Bor) (k:KK β):Option β:=match args,bor with
 | [a0,a1],[]=>aL 1 a0 fun p0=>aL 1 a1 fun p1=>yf β L p0 p1 (fun p0=>k (V.sc (.bool p0)) [])
 | _,_=>none
theorem zpz (L:Nat) (β:Type) (args:List V) (bor:Bor) (k:KK β) (r:β) (h:zd7 yf L β args bor k=some r):zD z4 (y4 L) L zbb args bor k=some r:=by
 unfold zd7 at h
 split at h
 ·have q:=za5 h; clear h; obtain ⟨p0,rfl,h⟩:=q
  have q:=za5 h; clear h; obtain ⟨p1,rfl,h⟩:=q
  exact (zpt L p0 p1 k).trans h
 ·cases h
def zis:CF:=⟨24,[.tmp 0],
 (.seq (.reg [oo 0 (.move (.const (.sc (.bool false))) false)])
 (.seq (.reg [oo 4 (.buildSlice 1 4 [(.sc (.int .i64 0))] [(0,1,(.const (.sc (.int .i64 1)))),(1,1,(.const (.sc (.int .i64 2)))),(2,1,(.const (.sc (.int .i64 3)))),(3,1,(.const (.sc (.int .i64 (-1)))))]),
   oo 5 (.makeSlice 1 1 [(.sc (.bool false))] (.const (.sc (.int .i64 4))) (.const (.sc (.int .i64 4)))),
   oo 6 (.call 334 [((tq 4),0),((tq 5),0),((.const (.sc (.int .i64 0))),0)] []),
   oo 1 (.move (tq 6) false)])
 (.seq (.reg [oo 8 (.move (tq 1) false),
   oo 9 (.buildSlice 1 4 [(.sc (.bool false))] [(0,1,(.const (.sc (.bool false)))),(1,1,(.const (.sc (.bool false)))),(2,1,(.const (.sc (.bool true)))),(3,1,(.const (.sc (.bool false))))]),
   oo 10 (.call 336 [((tq 8),0),((tq 9),0)] []),
   oo 7 (.move (tq 10) true),
   oo 11 (.pull (tq 7) 0),
   oo 12 (.pull (tq 7) 1),
   oo 2 (.move (tq 11) false),
   oo 3 (.move (tq 12) false)])
 (.seq (.reg [oo 13 (.move (tq 1) false),
   oo 14 (.buildSlice 1 4 [(.sc (.int .i64 0))] [(0,1,(.const (.sc (.int .i64 0)))),(1,1,(.const (.sc (.int .i64 1)))),(2,1,(.const (.sc (.int .i64 2)))),(3,1,(.const (.sc (.int .i64 3))))]),
   oo 15 (.call 338 [((tq 13),0),((tq 14),0)] []),
   oo 16 (.move (tq 15) false),
   ⟨(some 17),false,(some (16,true)),.move (tq 2) false⟩,
   ⟨(some 18),false,(some (16,true)),.bin .eql (tq 17) (.const (.sc (.int .i64 2)))⟩,
   oo 19 (.pick (tq 16) (tq 18) (.const (.sc (.bool false)))),
   oo 20 (.move (tq 19) false),
   ⟨(some 21),false,(some (20,true)),.move (tq 3) false⟩,
   ⟨(some 22),false,(some (20,true)),.bin .eql (tq 21) (.const (.sc (.int .i64 1)))⟩,
   oo 23 (.pick (tq 20) (tq 22) (.const (.sc (.bool false)))),
   oo 0 (.move (tq 23) false)])
 .ret))))⟩
def znn:Hint:=⟨[(2,3)],[],[none],[],[],false,false⟩
def zlE:Nat→Sh:=z6 []
def zlN (zad:zjD) (zaa:zjt) (yf:zI) (L:Nat):CBC:=(xD 338 (zd7 yf L) (xD 336 (zjJ zaa L) (xD 334 (zjV zad L) noC)))
def zqa {β:Type} (zad:zjD) (zaa:zjt) (yf:zI) (L:Nat) (k_fin:Bool→Option β):Option β :=
 zad β L (zc 1 4 [(V.sc (.int .i64 (1:Int))),(V.sc (.int .i64 (2:Int))),(V.sc (.int .i64 (3:Int))),(V.sc (.int .i64 (-1:Int)))]) (List.replicate 4 [(V.sc (.bool false))]) (0:Int) (fun v0 =>
 zaa β L v0 (zc 1 4 [(V.sc (.bool false)),(V.sc (.bool false)),(V.sc (.bool true)),(V.sc (.bool false))]) (fun v1 v2 =>
 yf β L v0 (zc 1 4 [(V.sc (.int .i64 (0:Int))),(V.sc (.int .i64 (1:Int))),(V.sc (.int .i64 (2:Int))),(V.sc (.int .i64 (3:Int)))]) (fun v3 =>
 ifb v3 (
 ifb ((v1:Int) == (2:Int)) (
 k_fin ((v2:Int) == (1:Int))) (
 k_fin false)) (
 k_fin false))))
theorem zr8 {β:Type} (zad:zjD) (zaa:zjt) (yf:zI) (L:Nat) (k:KK β):zD zlE (zlN zad zaa yf L) L zis [] [] k=zqa zad zaa yf L (fun p0=>k (V.sc (.bool p0)) []):=by kernel_rfl
abbrev yh:=∀ (β:Type),Nat→(Bool→Option β)→Option β
def ya (β:Type) (L:Nat) (k_fin:Bool→Option β):Option β:=zqa zad zaa yf L k_fin
def zfg (ya:yh) (L:Nat) (β:Type) (args:List V) (bor:Bor) (k:KK β):Option β:=match args,bor with
 | [],[]=>ya β L (fun p0=>k (V.sc (.bool p0)) [])
 | _,_=>none
theorem zsY (L:Nat) (β:Type) (args:List V) (bor:Bor) (k:KK β) (r:β) (h:zfg ya L β args bor k=some r):zD zlE (zlN zad zaa yf L) L zis args bor k=some r:=by
 unfold zfg at h
 split at h
 ·exact (zr8 zad zaa yf L k).trans h
 ·cases h
def zkP:CF:=⟨6,[.tmp 2],
 (.seq (.reg [oo 2 (.move (.const (.sc (.pointer none))) false)])
 (.seq (.reg [oo 3 (.move (tq 0) false),
   oo 4 (.build [(.sl 1 []),(.sc (.int .i64 0))] [(0,1,(tq 3))]),
   oo 5 (.box false (tq 4)),
   oo 2 (.move (tq 5) false)])
 .ret))⟩
def zpg:Hint:=⟨[],[],[none],[],[],false,false⟩
def znT:Nat→Sh:=z6 []
def znM (L:Nat):CBC:=noC
def zoQ {β:Type} (L:Nat) (p0:List (List V)) (k_fin:List (List V)→Int→Option β):Option β :=
 k_fin p0 (0:Int)
theorem zuR {β:Type} (L:Nat) (p0:List (List V)) (k:KK β):zD znT (znM L) L zkP [(V.sl 1 p0)] [] k=zoQ L p0 (fun zBO zBP=>k (V.bx false [(V.sl 1 zBO),(V.sc (.int .i64 zBP))]) []):=by kernel_rfl
abbrev yi:=∀ (β:Type),Nat→List (List V)→(List (List V)→Int→Option β)→Option β
def xb (β:Type) (L:Nat) (p0:List (List V)) (k_fin:List (List V)→Int→Option β):Option β:=zoQ L p0 k_fin
def zhl (xb:yi) (L:Nat) (β:Type) (args:List V) (bor:Bor) (k:KK β):Option β:=match args,bor with
 | [a0],[]=>aL 1 a0 fun p0=>xb β L p0 (fun zBO zBP=>k (V.bx false [(V.sl 1 zBO),(V.sc (.int .i64 zBP))]) [])
 | _,_=>none
theorem zuI (L:Nat) (β:Type) (args:List V) (bor:Bor) (k:KK β) (r:β) (h:zhl xb L β args bor k=some r):zD znT (znM L) L zkP args bor k=some r:=by
 unfold zhl at h
 split at h
 ·have q:=za5 h; clear h; obtain ⟨p0,rfl,h⟩:=q
  exact (zuR L p0 k).trans h
 ·cases h
def ze5:CF:=⟨13,[.tmp 2],
 (.seq (.reg [oo 2 (.move (.const (.sc (.bool false))) false)])
 (.seq (.dreg [] [(oo 3 (.move (tq 0) false),q0),
   (oo 4 (.nilCheck (tq 3)),q0),
   (oo 5 (.fieldAddr 1 (tq 4)),q0),
   (oo 6 (.load false 1 (tq 5) false),ql 0 [] []),
   (oo 7 (.move (tq 0) false),q0),
   (oo 8 (.nilCheck (tq 7)),q0),
   (oo 9 (.fieldAddr 0 (tq 8)),q0),
   (oo 10 (.load false 1 (tq 9) false),ql 0 [] []),
   (oo 11 (.lenS (tq 10)),q0),
   (oo 12 (.bin .lss (tq 6) (tq 11)),q0),
   (oo 2 (.move (tq 12) false),q0)])
 .ret))⟩
def zj7:Hint:=⟨[],[],[none],[],[],false,false⟩
def zh2:Nat→Sh:=z6 []
def zhS (L:Nat):CBC:=noC
def zfJ {β:Type} (L:Nat) (zBw:List (List V)) (zBx:Int) (k_fin:Bool→List (List V)→Int→Option β):Option β :=
 k_fin (decide (zBx < ((List.length zBw:Nat):Int))) zBw zBx
theorem zpu {β:Type} (L:Nat) (zBw:List (List V)) (zBx:Int) (k:KK β):zD zh2 (zhS L) L ze5 [(V.ptr 0 0)] [(.live false [(V.sl 1 zBw),(V.sc (.int .i64 zBx))])] k=zfJ L zBw zBx (fun p0 zBw zBx=>k (V.sc (.bool p0)) [(.live false [(V.sl 1 zBw),(V.sc (.int .i64 zBx))])]):=by kernel_rfl
abbrev xB:=∀ (β:Type),Nat→List (List V)→Int→(Bool→List (List V)→Int→Option β)→Option β
def yg (β:Type) (L:Nat) (zBw:List (List V)) (zBx:Int) (k_fin:Bool→List (List V)→Int→Option β):Option β:=zfJ L zBw zBx k_fin
def zd6 (yg:xB) (L:Nat) (β:Type) (args:List V) (bor:Bor) (k:KK β):Option β:=match args,bor with
 | [a0],[(.live false [w0_0,w0_1])]=>aP 0 0 a0 (aL 1 w0_0 fun zBw=>aI .i64 w0_1 fun zBx=>yg β L zBw zBx (fun p0 zBw zBx=>k (V.sc (.bool p0)) [(.live false [(V.sl 1 zBw),(V.sc (.int .i64 zBx))])]))
 | _,_=>none
theorem zpv (L:Nat) (β:Type) (args:List V) (bor:Bor) (k:KK β) (r:β) (h:zd6 yg L β args bor k=some r):zD zh2 (zhS L) L ze5 args bor k=some r:=by
 unfold zd6 at h
 split at h
 ·have q:=zp7 h; clear h; obtain ⟨rfl,h⟩:=q
  have q:=za5 h; clear h; obtain ⟨zBw,rfl,h⟩:=q
  have q:=zar h; clear h; obtain ⟨zBx,rfl,h⟩:=q
  exact (zpu L zBw zBx k).trans h
 ·cases h
def zk0:CF:=⟨15,[.tmp 4],
 (.seq (.reg [oo 4 (.move (.const (.sc (.int .i64 0))) false)])
 (.seq (.reg [oo 6 (.move (tq 0) false),
   oo 7 (.move (tq 1) false),
   oo 8 (.bin .rem (tq 6) (tq 7)),
   oo 5 (.move (tq 8) false)])
 (.seq (.seq (.reg [oo 9 (.move (tq 5) false),
   oo 10 (.bin .lss (tq 9) (.const (.sc (.int .i64 0))))])
 (.cond (tq 10)
 (.reg [oo 11 (.move (tq 5) false),
   oo 12 (.move (tq 1) false),
   oo 13 (.bin .add (tq 11) (tq 12)),
   oo 5 (.move (tq 13) false)])
 .skip))
 (.seq (.reg [oo 14 (.move (tq 5) false),
   oo 4 (.move (tq 14) false)])
 .ret))))⟩
def zpi:Hint:=⟨[],[],[none,none],[],[],false,false⟩
def znR:Nat→Sh:=z6 []
def znF (L:Nat):CBC:=noC
def zl3 {β:Type} (L:Nat) (p0 p1:Int) (k_fin:Int→Option β):Option β :=
 chk (p1≠0) (
 lt (Int.tmod p0 p1) fun x0 =>
 ifb (decide (x0 < (0:Int))) (
 lt (IntKind.wrap .i64 ((x0:Int)+p1)) fun x1 =>
 k_fin x1) (
 k_fin x0))
theorem zux {β:Type} (L:Nat) (p0 p1:Int) (k:KK β):zD znR (znF L) L zk0 [(V.sc (.int .i64 p0)),(V.sc (.int .i64 p1))] [] k=zl3 L p0 p1 (fun p0=>k (V.sc (.int .i64 p0)) []):=by kernel_rfl
abbrev zn:=∀ (β:Type),Nat→Int→Int→(Int→Option β)→Option β
def xd (β:Type) (L:Nat) (p0 p1:Int) (k_fin:Int→Option β):Option β:=zl3 L p0 p1 k_fin
def zfK (xd:zn) (L:Nat) (β:Type) (args:List V) (bor:Bor) (k:KK β):Option β:=match args,bor with
 | [a0,a1],[]=>aI .i64 a0 fun p0=>aI .i64 a1 fun p1=>xd β L p0 p1 (fun p0=>k (V.sc (.int .i64 p0)) [])
 | _,_=>none
theorem zuW (L:Nat) (β:Type) (args:List V) (bor:Bor) (k:KK β) (r:β) (h:zfK xd L β args bor k=some r):zD znR (znF L) L zk0 args bor k=some r:=by
 unfold zfK at h
 split at h
 ·have q:=zar h; clear h; obtain ⟨p0,rfl,h⟩:=q
  have q:=zar h; clear h; obtain ⟨p1,rfl,h⟩:=q
  exact (zux L p0 p1 k).trans h
 ·cases h
def ze3:CF:=⟨28,[.tmp 4],
 (.seq (.reg [oo 4 (.move (.const (.sc (.int .i64 0))) false)])
 (.seq (.seq (.reg [oo 5 (.move (tq 0) false),
   oo 6 (.call 247 [((tq 5),0)] []),
   oo 7 (.un .not (tq 6))])
 (.cond (tq 7)
 (.seq (.reg [oo 4 (.move (.const (.sc (.int .i64 0))) false)])
 .ret)
 .skip))
 (.seq (.reg [oo 8 (.move (tq 0) false),
   oo 9 (.nilCheck (tq 8)),
   oo 10 (.fieldAddr 1 (tq 9)),
   oo 11 (.load false 1 (tq 10) false),
   oo 12 (.bin .add (tq 11) (.const (.sc (.int .i64 1)))),
   oo 13 (.nilCheck (tq 8)),
   oo 14 (.fieldAddr 1 (tq 13)),
   oz (.store 1 (tq 14) (tq 12))])
 (.seq (.dreg [] [(oo 15 (.move (tq 0) false),q0),
   (oo 16 (.nilCheck (tq 15)),q0),
   (oo 17 (.fieldAddr 0 (tq 16)),q0),
   (oo 18 (.load false 1 (tq 17) false),ql 0 [] []),
   (oo 19 (.move (tq 0) false),q0),
   (oo 20 (.nilCheck (tq 19)),q0),
   (oo 21 (.fieldAddr 1 (tq 20)),q0),
   (oo 22 (.load false 1 (tq 21) false),ql 0 [] []),
   (oo 23 (.bin .sub (tq 22) (.const (.sc (.int .i64 1)))),q0),
   (oo 24 (.indexAddrS 1 (tq 18) (tq 23)),q0),
   (oo 25 (.load false 1 (tq 24) false),q0),
   (oo 26 (.move (tq 1) false),q0),
   (oo 27 (.call 217 [((tq 25),0),((tq 26),0)] []),q0),
   (oo 4 (.move (tq 27) false),q0)])
 .ret))))⟩
def zj8:Hint:=⟨[],[],[none,none,none],[],[],false,false⟩
def zhW:Nat→Sh:=z6 [(25,(.int .i64))]
def zhL (yg:xB) (xd:zn) (L:Nat):CBC:=(xD 217 (zfK xd L) (xD 247 (zd6 yg L) noC))
def zfu {β:Type} (yg:xB) (xd:zn) (L:Nat) (p1:Int) (zBw:List (List V)) (zBx:Int) (k_fin:Int→List (List V)→Int→Option β):Option β :=
 yg β L zBw zBx (fun v0 v1 v2 =>
 ifb (!v0) (
 k_fin (0:Int) v1 v2) (
 lt (IntKind.wrap .i64 ((v2:Int)+(1:Int))) fun x3 =>
 lt (IntKind.wrap .i64 ((x3:Int) - (1:Int))) fun x4 =>
 idx v1 x4 fun c5 =>
 cI .i64 c5 0 fun v6 =>
 xd β L v6 p1 (fun v7 =>
 k_fin v7 v1 x3)))
theorem zpx {β:Type} (yg:xB) (xd:zn) (L:Nat) (p1:Int) (zBw:List (List V)) (zBx:Int) (k:KK β):zD zhW (zhL yg xd L) L ze3 [(V.ptr 0 0),(V.sc (.int .i64 p1))] [(.live false [(V.sl 1 zBw),(V.sc (.int .i64 zBx))])] k=zfu yg xd L p1 zBw zBx (fun p0 zBw zBx=>k (V.sc (.int .i64 p0)) [(.live false [(V.sl 1 zBw),(V.sc (.int .i64 zBx))])]):=by kernel_rfl
abbrev xl:=∀ (β:Type),Nat→Int→List (List V)→Int→(Int→List (List V)→Int→Option β)→Option β
def yb (β:Type) (L:Nat) (p1:Int) (zBw:List (List V)) (zBx:Int) (k_fin:Int→List (List V)→Int→Option β):Option β:=zfu yg xd L p1 zBw zBx k_fin
def zd8 (yb:xl) (L:Nat) (β:Type) (args:List V) (bor:Bor) (k:KK β):Option β:=match args,bor with
 | [a0,a1],[(.live false [w0_0,w0_1])]=>aP 0 0 a0 (aI .i64 a1 fun p1=>aL 1 w0_0 fun zBw=>aI .i64 w0_1 fun zBx=>yb β L p1 zBw zBx (fun p0 zBw zBx=>k (V.sc (.int .i64 p0)) [(.live false [(V.sl 1 zBw),(V.sc (.int .i64 zBx))])]))
 | _,_=>none
theorem zpE (L:Nat) (β:Type) (args:List V) (bor:Bor) (k:KK β) (r:β) (h:zd8 yb L β args bor k=some r):zD zhW (zhL yg xd L) L ze3 args bor k=some r:=by
 unfold zd8 at h
 split at h
 ·have q:=zp7 h; clear h; obtain ⟨rfl,h⟩:=q
  have q:=zar h; clear h; obtain ⟨p1,rfl,h⟩:=q
  have q:=za5 h; clear h; obtain ⟨zBw,rfl,h⟩:=q
  have q:=zar h; clear h; obtain ⟨zBx,rfl,h⟩:=q
  exact (zpx yg xd L p1 zBw zBx k).trans h
 ·cases h
def zcU:CC:=(.seq (.seq (.reg [oo 32 (.move (tq 5) false),
   oo 33 (.bin .lss (tq 32) (.const (.sc (.int .i64 8))))])
 (.cond (tq 33)
 .skip
 (.seq (.mask (bl 12 67) (bl 119501746176346029983 67))
 (.exit 2))))
 (.seq (.block 3 (.seq (.reg [oo 36 (.move (tq 5) false),
   oo 37 (.conv .u8 (tq 36)),
   oo 38 (.build (rp 32 (.sc (.int .u8 0)) []) [(0,1,(tq 37))]),
   oo 6 (.alloc true (rp 32 (.sc (.int .u8 0)) [])),
   oz (.store 32 (tq 6) (tq 38))])
 (.seq (.reg [oo 39 (.move (tq 0) false),
   oo 40 (.call 231 [((tq 39),0),((.const (.sc (.int .i64 3))),0)] [])])
 (.block 4 (.seq (.reg [oo 42 (.bin .eql (tq 40) (.const (.sc (.int .i64 0)))),
   oo 41 (.move (tq 42) false)])
 (.cond (tq 41)
 (.dreg [] [(oo 43 (.fieldAddr 3 (tq 3)),q0),
   (oo 44 (.load false 1 (tq 43) true),ql 3 [6] [55]),
   (oo 45 (.load true 32 (tq 6) false),ql 6 [3] []),
   (oo 46 (.move (tq 0) false),q0),
   (oo 47 (.call 231 [((tq 46),0),((.const (.sc (.int .i64 5))),0)] []),qc [3,6] []),
   (oo 48 (.bin .sub (tq 47) (.const (.sc (.int .i64 1)))),q0),
   (oo 49 (.move (tq 0) false),q0),
   (oo 50 (.call 231 [((tq 49),0),((.const (.sc (.int .i64 5))),0)] []),qc [3,6] []),
   (oo 51 (.move (tq 0) false),q0),
   (oo 52 (.call 231 [((tq 51),0),((.const (.sc (.int .i64 50))),0)] []),qc [3,6] []),
   (oo 53 (.conv .u32 (tq 52)),q0),
   (oo 54 (.build (rp 32 (.sc (.int .u8 0)) (rp 2 (.sc (.int .i64 0)) (rp 1 (.sc (.int .u32 0)) []))) [(0,32,(tq 45)),(32,1,(tq 48)),(33,1,(tq 50)),(34,1,(tq 53))]),q0),
   (oo 55 (.buildSlice 35 1 (rp 32 (.sc (.int .u8 0)) (rp 2 (.sc (.int .i64 0)) (rp 1 (.sc (.int .u32 0)) []))) [(0,35,(tq 54))]),qn [3] []),
   (oo 56 (.append 35 56 (tq 44) (tq 55)),q0),
   (oo 57 (.fieldAddr 3 (tq 3)),q0),
   (oz (.store 1 (tq 57) (tq 56)),q0)])
 (.seq (.reg [oo 59 (.bin .eql (tq 40) (.const (.sc (.int .i64 1)))),
   oo 58 (.move (tq 59) false)])
 (.cond (tq 58)
 (.reg [oo 60 (.fieldAddr 4 (tq 3)),
   oo 61 (.load false 1 (tq 60) true),
   oo 62 (.load true 32 (tq 6) false),
   oo 63 (.buildSlice 32 1 (rp 32 (.sc (.int .u8 0)) []) [(0,32,(tq 62))]),
   oo 64 (.append 32 32 (tq 61) (tq 63)),
   oo 65 (.fieldAddr 4 (tq 3)),
   oz (.store 1 (tq 65) (tq 64))])
 .skip))))))))
 (.reg [oo 34 (.move (tq 5) false),
   oo 35 (.bin .add (tq 34) (.const (.sc (.int .i64 1)))),
   oo 5 (.move (tq 35) false)])))
def zdb:CC:=(.seq (.seq (.reg [oo 16 (.move (tq 4) false),
   oo 17 (.bin .gtr (tq 16) (.const (.sc (.int .i64 0))))])
 (.cond (tq 17)
 .skip
 (.seq (.mask (bl 13 67) (bl 147573952587914805167 67))
 (.exit 0))))
 (.seq (.block 1 (.dreg [] [(oo 20 (.fieldAddr 2 (tq 3)),q0),
   (oo 21 (.load false 1 (tq 20) true),ql 3 [] [29]),
   (oo 22 (.fieldAddr 2 (tq 3)),q0),
   (oo 23 (.load false 1 (tq 22) false),ql 3 [] []),
   (oo 24 (.lenS (tq 23)),q0),
   (oo 25 (.bin .mul (.const (.sc (.int .i64 3))) (tq 24)),q0),
   (oo 26 (.move (tq 0) false),q0),
   (oo 27 (.call 231 [((tq 26),0),((.const (.sc (.int .i64 3))),0)] []),qc [3] []),
   (oo 28 (.bin .add (tq 25) (tq 27)),q0),
   (oo 29 (.buildSlice 1 1 [(.sc (.int .i64 0))] [(0,1,(tq 28))]),qn [3] []),
   (oo 30 (.append 1 8 (tq 21) (tq 29)),q0),
   (oo 31 (.fieldAddr 2 (tq 3)),q0),
   (oz (.store 1 (tq 31) (tq 30)),q0)]))
 (.reg [oo 18 (.move (tq 4) false),
   oo 19 (.bin .sub (tq 18) (.const (.sc (.int .i64 1)))),
   oo 4 (.move (tq 19) false)])))
def ziJ:CC:=(.seq (.reg [oo 66 (.load true 5 (tq 3) false),
   oz (.store 5 (tq 2) (tq 66))])
 .ret)
def zgr:CC:=(.seq (.seq (.reg [oo 5 (.move (.const (.sc (.int .i64 0))) false)])
 (.block 2 (.loop (bl 45 67) (bl 119501746176346030015 67)
 zcU)))
 ziJ)
def zbu:CF:=⟨67,[.cell 2 true 5],
 (.seq (.reg [oo 2 (.alloc true [(.sc (.int .u32 0)),(.sc (.bool false)),(.gs 1 []),(.gs 35 []),(.gs 32 [])])])
 (.seq (.reg [oo 7 (.move (tq 0) false),
   oo 8 (.call 231 [((tq 7),0),((.const (.sc (.int .i64 99))),0)] []),
   oo 9 (.conv .u32 (tq 8)),
   oo 10 (.move (tq 0) false),
   oo 11 (.call 231 [((tq 10),0),((.const (.sc (.int .i64 3))),0)] []),
   oo 12 (.bin .eql (tq 11) (.const (.sc (.int .i64 0)))),
   oo 13 (.buildSt [(.sc (.int .u32 0)),(.sc (.bool false)),(.gs 1 []),(.gs 35 []),(.gs 32 [])] [(0,1,(tq 9)),(1,1,(tq 12))]),
   oo 3 (.alloc false [(.sc (.int .u32 0)),(.sc (.bool false)),(.gs 1 []),(.gs 35 []),(.gs 32 [])]),
   oz (.store 5 (tq 3) (tq 13))])
 (.seq (.seq (.reg [oo 14 (.move (tq 0) false),
   oo 15 (.call 231 [((tq 14),0),((.const (.sc (.int .i64 3))),0)] []),
   oo 4 (.move (tq 15) false)])
 (.block 0 (.loop (bl 29 67) (bl 147573952587914805183 67)
 zdb)))
 zgr)))⟩
def znm:Hint:=⟨[(0,0),(1,6),(5,1),(12,1),(14,1)],[],[none,some ((bl 29 67),(bl 147573952587914805183 67)),none,some ((bl 13 67),(bl 147573952587914805167 67)),none,none,some ((bl 45 67),(bl 119501746176346030015 67)),none,some ((bl 12 67),(bl 119501746176346029983 67)),none,none,none,none,none],[],[],false,false⟩
def zR:Nat→Sh:=z6 []
def xQ (yb:xl) (L:Nat):CBC:=(xD 231 (zd8 yb L) noC)
def zeY:St→St:=xZ 1 (bl 29 67) (bl 147573952587914805183 67)
def zez:St→St:=xZ 1 (bl 45 67) (bl 119501746176346030015 67)
def zdN (p4:Int) (zBw:List (List V)) (zBx zBH:Int) (zBI:Bool) (zBJ zBK zBL:List (List V)) (zBB:Int) (zBC:Bool) (zBy zBz zBA:List (List V)):St:=⟨((V.ptr 0 0)::(jn 1 ((V.ptr 3 0)::((V.ptr 4 0)::((V.sc (.int .i64 p4))::(jn 62 [])))))),((.live false [(V.sl 1 zBw),(V.sc (.int .i64 zBx))])::(gn 2 ((.live true [(V.sc (.int .u32 zBH)),(V.sc (.bool zBI)),(V.gs 1 zBJ),(V.gs 35 zBK),(V.gs 32 zBL)])::((.live false [(V.sc (.int .u32 zBB)),(V.sc (.bool zBC)),(V.gs 1 zBy),(V.gs 35 zBz),(V.gs 32 zBA)])::(gn 63 [])))))⟩
def zfr (zBw:List (List V)) (zBx zBH:Int) (zBI:Bool) (zBJ zBK zBL:List (List V)) (zBB:Int) (zBC:Bool) (zBy zBz zBA:List (List V)):St:=⟨((V.ptr 0 0)::(jn 1 ((V.ptr 3 0)::((V.ptr 4 0)::(jn 63 []))))),((.live false [(V.sl 1 zBw),(V.sc (.int .i64 zBx))])::(gn 2 ((.live true [(V.sc (.int .u32 zBH)),(V.sc (.bool zBI)),(V.gs 1 zBJ),(V.gs 35 zBK),(V.gs 32 zBL)])::((.live false [(V.sc (.int .u32 zBB)),(V.sc (.bool zBC)),(V.gs 1 zBy),(V.gs 35 zBz),(V.gs 32 zBA)])::(gn 63 [])))))⟩
def zdi (p5:Int) (zBw:List (List V)) (zBx zBH:Int) (zBI:Bool) (zBJ zBK zBL:List (List V)) (zBB:Int) (zBC:Bool) (zBy zBz zBA:List (List V)):St:=⟨((V.ptr 0 0)::(jn 1 ((V.ptr 3 0)::((V.ptr 4 0)::(jn 1 ((V.sc (.int .i64 p5))::(jn 61 []))))))),((.live false [(V.sl 1 zBw),(V.sc (.int .i64 zBx))])::(gn 2 ((.live true [(V.sc (.int .u32 zBH)),(V.sc (.bool zBI)),(V.gs 1 zBJ),(V.gs 35 zBK),(V.gs 32 zBL)])::((.live false [(V.sc (.int .u32 zBB)),(V.sc (.bool zBC)),(V.gs 1 zBy),(V.gs 35 zBz),(V.gs 32 zBA)])::(gn 63 [])))))⟩
def ziA (zBw:List (List V)) (zBx zBH:Int) (zBI:Bool) (zBJ zBK zBL:List (List V)) (zBB:Int) (zBC:Bool) (zBy zBz zBA:List (List V)):St:=⟨(jn 2 ((V.ptr 3 0)::((V.ptr 4 0)::(jn 63 [])))),((.live false [(V.sl 1 zBw),(V.sc (.int .i64 zBx))])::(gn 2 ((.live true [(V.sc (.int .u32 zBH)),(V.sc (.bool zBI)),(V.gs 1 zBJ),(V.gs 35 zBK),(V.gs 32 zBL)])::((.live false [(V.sc (.int .u32 zBB)),(V.sc (.bool zBC)),(V.gs 1 zBy),(V.gs 35 zBz),(V.gs 32 zBA)])::(gn 63 [])))))⟩
abbrev zk8 (β:Type):Type:=Int→List (List V)→Int→Int→Bool→List (List V)→List (List V)→List (List V)→Int→Bool→List (List V)→List (List V)→List (List V)→Option β
abbrev zkJ (β:Type):Type:=List (List V)→Int→Int→Bool→List (List V)→List (List V)→List (List V)→Int→Bool→List (List V)→List (List V)→List (List V)→Option β
abbrev zj5 (β:Type):Type:=Int→List (List V)→Int→Int→Bool→List (List V)→List (List V)→List (List V)→Int→Bool→List (List V)→List (List V)→List (List V)→Option β
abbrev zkl (β:Type):Type:=List (List V)→Int→Int→Bool→List (List V)→List (List V)→List (List V)→Int→Bool→List (List V)→List (List V)→List (List V)→Option β
def zml {β:Type} (yb:xl) (L:Nat) (zBw:List (List V)) (zBx:Int) (k_hbbaba:zk8 β):Option β :=
 yb β L (99:Int) zBw zBx (fun v0 v1 v2 =>
 lt (IntKind.wrap .u32 v0) fun x3 =>
 yb β L (3:Int) v1 v2 (fun v4 v5 v6 =>
 yb β L (3:Int) v5 v6 (fun v7 v8 v9 =>
 k_hbbaba v7 v8 v9 (0:Int) false ([]:List (List V)) ([]:List (List V)) ([]:List (List V)) x3 ((v4:Int) == (0:Int)) ([]:List (List V)) ([]:List (List V)) ([]:List (List V)))))
theorem zsI {β:Type} (yb:xl) (L:Nat) (zBw:List (List V)) (zBx:Int) (k:KK β):zD zR (xQ yb L) L zbu [(V.ptr 0 0)] [(.live false [(V.sl 1 zBw),(V.sc (.int .i64 zBx))])] k=zml yb L zBw zBx (fun p4 zBw zBx zBH zBI zBJ zBK zBL zBB zBC zBy zBz zBA=>xE (xj zR (xQ yb L) 1 L zdb) zeY L (zdN p4 zBw zBx zBH zBI zBJ zBK zBL zBB zBC zBy zBz zBA) (yv 0 (zL (xj zR (xQ yb L) 1 L zgr) (xR 1 (CF.res zbu) k)))):=by kernel_rfl
def zeX {β:Type} (yb:xl) (L:Nat) (p4:Int) (zBw:List (List V)) (zBx zBH:Int) (zBI:Bool) (zBJ zBK zBL:List (List V)) (zBB:Int) (zBC:Bool) (zBy zBz zBA:List (List V)) (k_hbbaba:zk8 β) (k_x0:zkJ β):Option β :=
 ifb (decide (p4 > (0:Int))) (
 lt (IntKind.wrap .i64 (((3:Int):Int) * ((List.length zBy:Nat):Int))) fun x10 =>
 yb β L (3:Int) zBw zBx (fun v11 v12 v13 =>
 lt (IntKind.wrap .i64 ((x10:Int)+v11)) fun x14 =>
 chk ((List.length zBy+List.length (zc 1 1 [(V.sc (.int .i64 x14))])) * 8≤xh∧List.length zBy+List.length (zc 1 1 [(V.sc (.int .i64 x14))])≤xh) (
 lt (zBy++(zc 1 1 [(V.sc (.int .i64 x14))])) fun l15 =>
 lt (IntKind.wrap .i64 ((p4:Int) - (1:Int))) fun x16 =>
 k_hbbaba x16 v12 v13 zBH zBI zBJ zBK zBL zBB zBC l15 zBz zBA))) (
 k_x0 zBw zBx zBH zBI zBJ zBK zBL zBB zBC zBy zBz zBA)
theorem zo7 {β:Type} (yb:xl) (L:Nat) (p4:Int) (zBw:List (List V)) (zBx zBH:Int) (zBI:Bool) (zBJ zBK zBL:List (List V)) (zBB:Int) (zBC:Bool) (zBy zBz zBA:List (List V)) (X:St→Option β) (K:KT β):xj zR (xQ yb L) 1 L zdb (zdN p4 zBw zBx zBH zBI zBJ zBK zBL zBB zBC zBy zBz zBA) (zbe zeY X K)=zeX yb L p4 zBw zBx zBH zBI zBJ zBK zBL zBB zBC zBy zBz zBA (fun p4 zBw zBx zBH zBI zBJ zBK zBL zBB zBC zBy zBz zBA=>X (zdN p4 zBw zBx zBH zBI zBJ zBK zBL zBB zBC zBy zBz zBA)) (fun zBw zBx zBH zBI zBJ zBK zBL zBB zBC zBy zBz zBA=>K (.exit 0) (zfr zBw zBx zBH zBI zBJ zBK zBL zBB zBC zBy zBz zBA)):=by kernel_rfl
def zgf {β:Type} (yb:xl) (L:Nat) (zBw:List (List V)) (zBx zBH:Int) (zBI:Bool) (zBJ zBK zBL:List (List V)) (zBB:Int) (zBC:Bool) (zBy zBz zBA:List (List V)) (k_hbbbaba:zj5 β):Option β :=
 k_hbbbaba (0:Int) zBw zBx zBH zBI zBJ zBK zBL zBB zBC zBy zBz zBA
theorem znP {β:Type} (yb:xl) (L:Nat) (zBw:List (List V)) (zBx zBH:Int) (zBI:Bool) (zBJ zBK zBL:List (List V)) (zBB:Int) (zBC:Bool) (zBy zBz zBA:List (List V)) (k:KK β):(yv 0 (zL (xj zR (xQ yb L) 1 L zgr) (xR 1 (CF.res zbu) k))) (.exit 0) (zfr zBw zBx zBH zBI zBJ zBK zBL zBB zBC zBy zBz zBA)=zgf yb L zBw zBx zBH zBI zBJ zBK zBL zBB zBC zBy zBz zBA (fun p5 zBw zBx zBH zBI zBJ zBK zBL zBB zBC zBy zBz zBA=>xE (xj zR (xQ yb L) 1 L zcU) zez L (zdi p5 zBw zBx zBH zBI zBJ zBK zBL zBB zBC zBy zBz zBA) (yv 2 (zL (xj zR (xQ yb L) 1 L ziJ) (xR 1 (CF.res zbu) k)))):=by kernel_rfl
def zch {β:Type} (yb:xl) (L:Nat) (p5:Int) (zBw:List (List V)) (zBx zBH:Int) (zBI:Bool) (zBJ zBK zBL:List (List V)) (zBB:Int) (zBC:Bool) (zBy zBz zBA:List (List V)) (k_hbbbaba:zj5 β) (k_x2:zkl β):Option β :=
 ifb (decide (p5 < (8:Int))) (
 lt (IntKind.wrap .u8 p5) fun x17 =>
 lt ([(V.sc (.int .u8 x17))]++List.replicate 31 (V.sc (.int .u8 (0:Int)))) fun r18 =>
 yb β L (3:Int) zBw zBx (fun v19 v20 v21 =>
 ifb ((v19:Int) == (0:Int)) (
 chk (0+32≤(List.length r18)) (
 yb β L (5:Int) v20 v21 (fun v22 v23 v24 =>
 lt (IntKind.wrap .i64 ((v22:Int) - (1:Int))) fun x25 =>
 yb β L (5:Int) v23 v24 (fun v26 v27 v28 =>
 yb β L (50:Int) v27 v28 (fun v29 v30 v31 =>
 lt (IntKind.wrap .u32 v29) fun x32 =>
 chk ((List.length (List.take 32 r18))=32∧0+32≤35) (
 chk (1=1∧32+1≤(List.length (za (List.replicate 32 (V.sc (.int .u8 (0:Int)))++[(V.sc (.int .i64 (0:Int))),(V.sc (.int .i64 (0:Int))),(V.sc (.int .u32 (0:Int)))]) 0 (List.take 32 r18)))) (
 chk (1=1∧33+1≤(List.length (za (za (List.replicate 32 (V.sc (.int .u8 (0:Int)))++[(V.sc (.int .i64 (0:Int))),(V.sc (.int .i64 (0:Int))),(V.sc (.int .u32 (0:Int)))]) 0 (List.take 32 r18)) 32 [(V.sc (.int .i64 x25))]))) (
 chk (1=1∧34+1≤(List.length (za (za (za (List.replicate 32 (V.sc (.int .u8 (0:Int)))++[(V.sc (.int .i64 (0:Int))),(V.sc (.int .i64 (0:Int))),(V.sc (.int .u32 (0:Int)))]) 0 (List.take 32 r18)) 32 [(V.sc (.int .i64 x25))]) 33 [(V.sc (.int .i64 v26))]))) (
 chk ((List.length (za (za (za (za (List.replicate 32 (V.sc (.int .u8 (0:Int)))++[(V.sc (.int .i64 (0:Int))),(V.sc (.int .i64 (0:Int))),(V.sc (.int .u32 (0:Int)))]) 0 (List.take 32 r18)) 32 [(V.sc (.int .i64 x25))]) 33 [(V.sc (.int .i64 v26))]) 34 [(V.sc (.int .u32 x32))]))=35∧0+35≤35) (
 chk ((List.length zBz+List.length (zc 35 1 (za (List.replicate 32 (V.sc (.int .u8 (0:Int)))++[(V.sc (.int .i64 (0:Int))),(V.sc (.int .i64 (0:Int))),(V.sc (.int .u32 (0:Int)))]) 0 (za (za (za (za (List.replicate 32 (V.sc (.int .u8 (0:Int)))++[(V.sc (.int .i64 (0:Int))),(V.sc (.int .i64 (0:Int))),(V.sc (.int .u32 (0:Int)))]) 0 (List.take 32 r18)) 32 [(V.sc (.int .i64 x25))]) 33 [(V.sc (.int .i64 v26))]) 34 [(V.sc (.int .u32 x32))])))) * 56≤xh∧List.length zBz+List.length (zc 35 1 (za (List.replicate 32 (V.sc (.int .u8 (0:Int)))++[(V.sc (.int .i64 (0:Int))),(V.sc (.int .i64 (0:Int))),(V.sc (.int .u32 (0:Int)))]) 0 (za (za (za (za (List.replicate 32 (V.sc (.int .u8 (0:Int)))++[(V.sc (.int .i64 (0:Int))),(V.sc (.int .i64 (0:Int))),(V.sc (.int .u32 (0:Int)))]) 0 (List.take 32 r18)) 32 [(V.sc (.int .i64 x25))]) 33 [(V.sc (.int .i64 v26))]) 34 [(V.sc (.int .u32 x32))])))≤xh) (
 lt (zBz++(zc 35 1 (za (List.replicate 32 (V.sc (.int .u8 (0:Int)))++[(V.sc (.int .i64 (0:Int))),(V.sc (.int .i64 (0:Int))),(V.sc (.int .u32 (0:Int)))]) 0 (za (za (za (za (List.replicate 32 (V.sc (.int .u8 (0:Int)))++[(V.sc (.int .i64 (0:Int))),(V.sc (.int .i64 (0:Int))),(V.sc (.int .u32 (0:Int)))]) 0 (List.take 32 r18)) 32 [(V.sc (.int .i64 x25))]) 33 [(V.sc (.int .i64 v26))]) 34 [(V.sc (.int .u32 x32))])))) fun l33 =>
 lt (IntKind.wrap .i64 ((p5:Int)+(1:Int))) fun x34 =>
 k_hbbbaba x34 v30 v31 zBH zBI zBJ zBK zBL zBB zBC zBy l33 zBA))))))))))) (
 ifb ((v19:Int) == (1:Int)) (
 chk (0+32≤(List.length r18)) (
 chk ((List.length (List.take 32 r18))=32∧0+32≤32) (
 chk ((List.length zBA+List.length (zc 32 1 (za (List.replicate 32 (V.sc (.int .u8 (0:Int)))) 0 (List.take 32 r18)))) * 32≤xh∧List.length zBA+List.length (zc 32 1 (za (List.replicate 32 (V.sc (.int .u8 (0:Int)))) 0 (List.take 32 r18)))≤xh) (
 lt (zBA++(zc 32 1 (za (List.replicate 32 (V.sc (.int .u8 (0:Int)))) 0 (List.take 32 r18)))) fun l35 =>
 lt (IntKind.wrap .i64 ((p5:Int)+(1:Int))) fun x36 =>
 k_hbbbaba x36 v20 v21 zBH zBI zBJ zBK zBL zBB zBC zBy zBz l35)))) (
 lt (IntKind.wrap .i64 ((p5:Int)+(1:Int))) fun x37 =>
 k_hbbbaba x37 v20 v21 zBH zBI zBJ zBK zBL zBB zBC zBy zBz zBA)))) (
 k_x2 zBw zBx zBH zBI zBJ zBK zBL zBB zBC zBy zBz zBA)
theorem zn7 {β:Type} (yb:xl) (L:Nat) (p5:Int) (zBw:List (List V)) (zBx zBH:Int) (zBI:Bool) (zBJ zBK zBL:List (List V)) (zBB:Int) (zBC:Bool) (zBy zBz zBA:List (List V)) (X:St→Option β) (K:KT β):xj zR (xQ yb L) 1 L zcU (zdi p5 zBw zBx zBH zBI zBJ zBK zBL zBB zBC zBy zBz zBA) (zbe zez X K)=zch yb L p5 zBw zBx zBH zBI zBJ zBK zBL zBB zBC zBy zBz zBA (fun p5 zBw zBx zBH zBI zBJ zBK zBL zBB zBC zBy zBz zBA=>X (zdi p5 zBw zBx zBH zBI zBJ zBK zBL zBB zBC zBy zBz zBA)) (fun zBw zBx zBH zBI zBJ zBK zBL zBB zBC zBy zBz zBA=>K (.exit 2) (ziA zBw zBx zBH zBI zBJ zBK zBL zBB zBC zBy zBz zBA)):=by kernel_rfl
def zfN {β:Type} (yb:xl) (L:Nat) (zBw:List (List V)) (zBx zBH:Int) (zBI:Bool) (zBJ zBK zBL:List (List V)) (zBB:Int) (zBC:Bool) (zBy zBz zBA:List (List V)) (k_fin:List V→List (List V)→Int→Option β):Option β :=
 lt [(V.sc (.int .u32 zBB)),(V.sc (.bool zBC)),(V.sl 1 zBy),(V.sl 35 zBz),(V.sl 32 zBA)] fun r38 =>
 chk (0=0∧(List.length r38)=5∧5≠0) (
 k_fin r38 zBw zBx)
theorem zm5 {β:Type} (yb:xl) (L:Nat) (zBw:List (List V)) (zBx zBH:Int) (zBI:Bool) (zBJ zBK zBL:List (List V)) (zBB:Int) (zBC:Bool) (zBy zBz zBA:List (List V)) (k:KK β):(yv 2 (zL (xj zR (xQ yb L) 1 L ziJ) (xR 1 (CF.res zbu) k))) (.exit 2) (ziA zBw zBx zBH zBI zBJ zBK zBL zBB zBC zBy zBz zBA)=zfN yb L zBw zBx zBH zBI zBJ zBK zBL zBB zBC zBy zBz zBA (fun p0 zBw zBx=>k (V.agg p0) [(.live false [(V.sl 1 zBw),(V.sc (.int .i64 zBx))])]):=by kernel_rfl
def zcC {β:Type} (yb:xl) (L:Nat) (k_x0:zkJ β):Nat→Int→List (List V)→Int→Int→Bool→List (List V)→List (List V)→List (List V)→Int→Bool→List (List V)→List (List V)→List (List V)→Option β
 | 0,_,_,_,_,_,_,_,_,_,_,_,_,_=>none
 | n+1,p4,zBw,zBx,zBH,zBI,zBJ,zBK,zBL,zBB,zBC,zBy,zBz,zBA=>zeX yb L p4 zBw zBx zBH zBI zBJ zBK zBL zBB zBC zBy zBz zBA (fun p4 zBw zBx zBH zBI zBJ zBK zBL zBB zBC zBy zBz zBA=>zcC yb L k_x0 n p4 zBw zBx zBH zBI zBJ zBK zBL zBB zBC zBy zBz zBA) k_x0
theorem zja {β:Type} (yb:xl) (L:Nat) (K:KT β):∀ (n:Nat) (p4:Int) (zBw:List (List V)) (zBx zBH:Int) (zBI:Bool) (zBJ zBK zBL:List (List V)) (zBB:Int) (zBC:Bool) (zBy zBz zBA:List (List V)),xE (xj zR (xQ yb L) 1 L zdb) zeY n (zdN p4 zBw zBx zBH zBI zBJ zBK zBL zBB zBC zBy zBz zBA) K=zcC yb L (fun zBw zBx zBH zBI zBJ zBK zBL zBB zBC zBy zBz zBA=>K (.exit 0) (zfr zBw zBx zBH zBI zBJ zBK zBL zBB zBC zBy zBz zBA)) n p4 zBw zBx zBH zBI zBJ zBK zBL zBB zBC zBy zBz zBA:=by
 intro n
 induction n with
 | zero=>intros; rfl
 | succ n ih =>
  intro p4 zBw zBx zBH zBI zBJ zBK zBL zBB zBC zBy zBz zBA
  refine (zo7 yb L p4 zBw zBx zBH zBI zBJ zBK zBL zBB zBC zBy zBz zBA (fun σ=>xE (xj zR (xQ yb L) 1 L zdb) zeY n σ K) K).trans ?_
  simp only [ih]
  rfl
def zaX {β:Type} (yb:xl) (L:Nat) (k_x2:zkl β):Nat→Int→List (List V)→Int→Int→Bool→List (List V)→List (List V)→List (List V)→Int→Bool→List (List V)→List (List V)→List (List V)→Option β
 | 0,_,_,_,_,_,_,_,_,_,_,_,_,_=>none
 | n+1,p5,zBw,zBx,zBH,zBI,zBJ,zBK,zBL,zBB,zBC,zBy,zBz,zBA=>zch yb L p5 zBw zBx zBH zBI zBJ zBK zBL zBB zBC zBy zBz zBA (fun p5 zBw zBx zBH zBI zBJ zBK zBL zBB zBC zBy zBz zBA=>zaX yb L k_x2 n p5 zBw zBx zBH zBI zBJ zBK zBL zBB zBC zBy zBz zBA) k_x2
theorem ziM {β:Type} (yb:xl) (L:Nat) (K:KT β):∀ (n:Nat) (p5:Int) (zBw:List (List V)) (zBx zBH:Int) (zBI:Bool) (zBJ zBK zBL:List (List V)) (zBB:Int) (zBC:Bool) (zBy zBz zBA:List (List V)),xE (xj zR (xQ yb L) 1 L zcU) zez n (zdi p5 zBw zBx zBH zBI zBJ zBK zBL zBB zBC zBy zBz zBA) K=zaX yb L (fun zBw zBx zBH zBI zBJ zBK zBL zBB zBC zBy zBz zBA=>K (.exit 2) (ziA zBw zBx zBH zBI zBJ zBK zBL zBB zBC zBy zBz zBA)) n p5 zBw zBx zBH zBI zBJ zBK zBL zBB zBC zBy zBz zBA:=by
 intro n
 induction n with
 | zero=>intros; rfl
 | succ n ih =>
  intro p5 zBw zBx zBH zBI zBJ zBK zBL zBB zBC zBy zBz zBA
  refine (zn7 yb L p5 zBw zBx zBH zBI zBJ zBK zBL zBB zBC zBy zBz zBA (fun σ=>xE (xj zR (xQ yb L) 1 L zcU) zez n σ K) K).trans ?_
  simp only [ih]
  rfl
def zdP {β:Type} (yb:xl) (L:Nat) (zBw:List (List V)) (zBx zBH:Int) (zBI:Bool) (zBJ zBK zBL:List (List V)) (zBB:Int) (zBC:Bool) (zBy zBz zBA:List (List V)) (k_fin:List V→List (List V)→Int→Option β):Option β :=
 zgf yb L zBw zBx zBH zBI zBJ zBK zBL zBB zBC zBy zBz zBA (fun p5 zBw zBx zBH zBI zBJ zBK zBL zBB zBC zBy zBz zBA=>zaX yb L (fun zBw zBx zBH zBI zBJ zBK zBL zBB zBC zBy zBz zBA=>zfN yb L zBw zBx zBH zBI zBJ zBK zBL zBB zBC zBy zBz zBA k_fin) L p5 zBw zBx zBH zBI zBJ zBK zBL zBB zBC zBy zBz zBA)
theorem zm7 {β:Type} (yb:xl) (L:Nat) (zBw:List (List V)) (zBx zBH:Int) (zBI:Bool) (zBJ zBK zBL:List (List V)) (zBB:Int) (zBC:Bool) (zBy zBz zBA:List (List V)) (k:KK β):(yv 0 (zL (xj zR (xQ yb L) 1 L zgr) (xR 1 (CF.res zbu) k))) (.exit 0) (zfr zBw zBx zBH zBI zBJ zBK zBL zBB zBC zBy zBz zBA)=zdP yb L zBw zBx zBH zBI zBJ zBK zBL zBB zBC zBy zBz zBA (fun p0 zBw zBx=>k (V.agg p0) [(.live false [(V.sl 1 zBw),(V.sc (.int .i64 zBx))])]):=by
 refine (znP yb L zBw zBx zBH zBI zBJ zBK zBL zBB zBC zBy zBz zBA k).trans ?_
 unfold zdP
 first
  | (simp only [ziM,zm5]; done)
  | (simp only [ziM]; rfl)
def zjd {β:Type} (yb:xl) (L:Nat) (zBw:List (List V)) (zBx:Int) (k_fin:List V→List (List V)→Int→Option β):Option β :=
 zml yb L zBw zBx (fun p4 zBw zBx zBH zBI zBJ zBK zBL zBB zBC zBy zBz zBA=>zcC yb L (fun zBw zBx zBH zBI zBJ zBK zBL zBB zBC zBy zBz zBA=>zdP yb L zBw zBx zBH zBI zBJ zBK zBL zBB zBC zBy zBz zBA k_fin) L p4 zBw zBx zBH zBI zBJ zBK zBL zBB zBC zBy zBz zBA)
theorem ztf {β:Type} (yb:xl) (L:Nat) (zBw:List (List V)) (zBx:Int) (k:KK β):zD zR (xQ yb L) L zbu [(V.ptr 0 0)] [(.live false [(V.sl 1 zBw),(V.sc (.int .i64 zBx))])] k=zjd yb L zBw zBx (fun p0 zBw zBx=>k (V.agg p0) [(.live false [(V.sl 1 zBw),(V.sc (.int .i64 zBx))])]):=by
 refine (zsI yb L zBw zBx k).trans ?_
 unfold zjd
 first
  | (simp only [zja,zm7]; done)
  | (simp only [zja]; rfl)
abbrev zl:=∀ (β:Type),Nat→List (List V)→Int→(List V→List (List V)→Int→Option β)→Option β
def yd (β:Type) (L:Nat) (zBw:List (List V)) (zBx:Int) (k_fin:List V→List (List V)→Int→Option β):Option β:=zjd yb L zBw zBx k_fin
def zgX (yd:zl) (L:Nat) (β:Type) (args:List V) (bor:Bor) (k:KK β):Option β:=match args,bor with
 | [a0],[(.live false [w0_0,w0_1])]=>aP 0 0 a0 (aL 1 w0_0 fun zBw=>aI .i64 w0_1 fun zBx=>yd β L zBw zBx (fun p0 zBw zBx=>k (V.agg p0) [(.live false [(V.sl 1 zBw),(V.sc (.int .i64 zBx))])]))
 | _,_=>none
theorem zsL (L:Nat) (β:Type) (args:List V) (bor:Bor) (k:KK β) (r:β) (h:zgX yd L β args bor k=some r):zD zR (xQ yb L) L zbu args bor k=some r:=by
 unfold zgX at h
 split at h
 ·have q:=zp7 h; clear h; obtain ⟨rfl,h⟩:=q
  have q:=za5 h; clear h; obtain ⟨zBw,rfl,h⟩:=q
  have q:=zar h; clear h; obtain ⟨zBx,rfl,h⟩:=q
  exact (ztf yb L zBw zBx k).trans h
 ·cases h
def zgv:CF:=⟨19,[.cellS 2 5 false],
 (.seq (.reg [oo 1 (.box false (tq 0)),
   oo 2 (.alloc false [(.sc (.int .u32 0)),(.sc (.bool false)),(.gs 1 []),(.gs 35 []),(.gs 32 [])])])
 (.seq (.reg [⟨(some 3),true,none,.buildSlice 1 0 [(.sc (.int .i64 0))] []⟩,
   oo 4 (.fieldAddr 2 (tq 1)),
   oo 5 (.load false 1 (tq 4) false),
   ⟨(some 6),true,none,.append 1 8 (tq 3) (tq 5)⟩,
   oo 7 (.fieldAddr 2 (tq 1)),
   oz (.store 1 (tq 7) (tq 6))])
 (.seq (.reg [⟨(some 8),true,none,.buildSlice 35 0 (rp 32 (.sc (.int .u8 0)) (rp 2 (.sc (.int .i64 0)) (rp 1 (.sc (.int .u32 0)) []))) []⟩,
   oo 9 (.fieldAddr 3 (tq 1)),
   oo 10 (.load false 1 (tq 9) false),
   ⟨(some 11),true,none,.append 35 56 (tq 8) (tq 10)⟩,
   oo 12 (.fieldAddr 3 (tq 1)),
   oz (.store 1 (tq 12) (tq 11))])
 (.seq (.reg [⟨(some 13),true,none,.buildSlice 32 0 (rp 32 (.sc (.int .u8 0)) []) []⟩,
   oo 14 (.fieldAddr 4 (tq 1)),
   oo 15 (.load false 1 (tq 14) false),
   ⟨(some 16),true,none,.append 32 32 (tq 13) (tq 15)⟩,
   oo 17 (.fieldAddr 4 (tq 1)),
   oz (.store 1 (tq 17) (tq 16))])
 (.seq (.reg [oo 18 (.load true 5 (tq 1) true),
   oz (.store 5 (tq 2) (tq 18))])
 .ret)))))⟩
def zlU:Hint:=⟨[(4,0)],[(1,0),(1,3),(2,0),(2,3),(3,0),(3,3)],[none],[],[],false,true⟩
def zjF:Nat→Sh:=z6 [(1,(.row [(.int .u32),.bool,(.sl 1),(.sl 35),(.sl 32)]))]
def zjb (L:Nat):CBC:=noC
abbrev zlV (β:Type):Type:=Int→Bool→Nat→Nat→Nat→List V→List V→List V→Option β
def zkp {β:Type} (L:Nat) (p0:List V) (k_fin:zlV β):Option β :=
 chk (List.length p0=5) (
 cI .u32 p0 0 fun v0 =>
 cB p0 1 fun v1 =>
 cL 1 p0 2 fun v2 =>
 cL 35 p0 3 fun v3 =>
 cL 32 p0 4 fun v4 =>
 chk ((0+List.length v2) * 8≤xh∧0+List.length v2≤xh) (
 chk ((0+List.length v3) * 56≤xh∧0+List.length v3≤xh) (
 chk ((0+List.length v4) * 32≤xh∧0+List.length v4≤xh) (
 k_fin v0 v1 (List.length v2) (List.length v3) (List.length v4) (List.flatten v2) (List.flatten v3) (List.flatten v4)))))
theorem zqW {β:Type} (L:Nat) (p0:List V) (k:KK β):zD zjF (zjb L) L zgv [(V.agg p0)] [] k=zkp L p0 (fun zBO zBP zBX zBW zBY b0 b1 b2=>k (V.st [(V.sc (.int .u32 zBO)),(V.sc (.bool zBP)),(V.own 0 0 zBX 1),(V.own 1 0 zBW 35),(V.own 2 0 zBY 32)]) [(.live true b0),(.live true b1),(.live true b2)]):=by kernel_rfl
abbrev zU:=∀ (β:Type),Nat→List V→(Int→Bool→Nat→Nat→Nat→List V→List V→List V→Option β)→Option β
def yj (β:Type) (L:Nat) (p0:List V) (k_fin:zlV β):Option β:=zkp L p0 k_fin
def zcZ (yj:zU) (L:Nat) (β:Type) (args:List V) (bor:Bor) (k:KK β):Option β:=match args,bor with
 | [a0],[]=>aG a0 fun p0=>yj β L p0 (fun zBO zBP zBX zBW zBY b0 b1 b2=>k (V.st [(V.sc (.int .u32 zBO)),(V.sc (.bool zBP)),(V.own 0 0 zBX 1),(V.own 1 0 zBW 35),(V.own 2 0 zBY 32)]) [(.live true b0),(.live true b1),(.live true b2)])
 | _,_=>none
theorem zqS (L:Nat) (β:Type) (args:List V) (bor:Bor) (k:KK β) (r:β) (h:zcZ yj L β args bor k=some r):zD zjF (zjb L) L zgv args bor k=some r:=by
 unfold zcZ at h
 split at h
 ·have q:=zb3 h; clear h; obtain ⟨p0,rfl,h⟩:=q
  exact (zqW L p0 k).trans h
 ·cases h
def zhD:CF:=⟨83,[.cellS 6 5 true],
 (.seq (.reg [oo 3 (.box false (tq 0)),
   oo 6 (.alloc false [(.sc (.int .u32 0)),(.sc (.bool false)),(.gs 1 []),(.gs 35 []),(.gs 32 [])])])
 (.seq (.reg [oo 7 (.load true 5 (tq 3) false),
   oo 8 (.call 355 [((tq 7),1)] [12,13,17]),
   oz (.store 5 (tq 3) (tq 8))])
 (.seq (.seq (.reg [oo 9 (.move (tq 1) false),
   oo 10 (.call 217 [((tq 9),0),((.const (.sc (.int .i64 5))),0)] [])])
 (.block 0 (.seq (.reg [oo 12 (.bin .eql (tq 10) (.const (.sc (.int .i64 0)))),
   oo 11 (.move (tq 12) false)])
 (.cond (tq 11)
 (.dreg [] [(oo 13 (.fieldAddr 2 (tq 3)),q0),
   (oo 14 (.load false 1 (tq 13) true),ql 3 [] [18]),
   (oo 15 (.move (tq 2) false),q0),
   (oo 16 (.call 217 [((tq 15),0),((.const (.sc (.int .i64 5))),0)] []),qc [3] []),
   (oo 17 (.bin .sub (tq 16) (.const (.sc (.int .i64 1)))),q0),
   (oo 18 (.buildSlice 1 1 [(.sc (.int .i64 0))] [(0,1,(tq 17))]),qn [3] []),
   (oo 19 (.append 1 8 (tq 14) (tq 18)),q0),
   (oo 20 (.fieldAddr 2 (tq 3)),q0),
   (oz (.store 1 (tq 20) (tq 19)),q0)])
 (.seq (.reg [oo 22 (.bin .eql (tq 10) (.const (.sc (.int .i64 1)))),
   oo 21 (.move (tq 22) false)])
 (.cond (tq 21)
 (.seq (.reg [oo 23 (.fieldAddr 3 (tq 3)),
   oo 24 (.load false 1 (tq 23) false),
   oo 25 (.lenS (tq 24)),
   oo 26 (.bin .gtr (tq 25) (.const (.sc (.int .i64 0))))])
 (.cond (tq 26)
 (.dreg [] [(oo 27 (.fieldAddr 4 (tq 3)),q0),
   (oo 28 (.load false 1 (tq 27) true),ql 3 [] [39]),
   (oo 29 (.fieldAddr 3 (tq 3)),q0),
   (oo 30 (.load false 1 (tq 29) false),ql 3 [] []),
   (oo 31 (.move (tq 2) false),q0),
   (oo 32 (.fieldAddr 3 (tq 3)),q0),
   (oo 33 (.load false 1 (tq 32) false),ql 3 [] []),
   (oo 34 (.lenS (tq 33)),q0),
   (oo 35 (.call 217 [((tq 31),0),((tq 34),0)] []),qc [3] []),
   (oo 36 (.indexAddrS 35 (tq 30) (tq 35)),q0),
   (oo 37 (.fieldAddr 0 (tq 36)),q0),
   (oo 38 (.load true 32 (tq 37) false),qc [3] []),
   (oo 39 (.buildSlice 32 1 (rp 32 (.sc (.int .u8 0)) []) [(0,32,(tq 38))]),qn [3] []),
   (oo 40 (.append 32 32 (tq 28) (tq 39)),q0),
   (oo 41 (.fieldAddr 4 (tq 3)),q0),
   (oz (.store 1 (tq 41) (tq 40)),q0)])
 .skip))
 (.seq (.reg [oo 43 (.bin .eql (tq 10) (.const (.sc (.int .i64 2)))),
   oo 42 (.move (tq 43) false)])
 (.cond (tq 42)
 (.seq (.reg [oo 44 (.fieldAddr 3 (tq 3)),
   oo 45 (.load false 1 (tq 44) false),
   oo 46 (.lenS (tq 45)),
   oo 47 (.bin .gtr (tq 46) (.const (.sc (.int .i64 0))))])
 (.cond (tq 47)
 (.dreg [] [(oo 48 (.fieldAddr 3 (tq 3)),q0),
   (oo 49 (.load false 1 (tq 48) true),ql 3 [] [59]),
   (oo 50 (.fieldAddr 3 (tq 3)),q0),
   (oo 51 (.load false 1 (tq 50) false),ql 3 [] []),
   (oo 52 (.move (tq 2) false),q0),
   (oo 53 (.fieldAddr 3 (tq 3)),q0),
   (oo 54 (.load false 1 (tq 53) false),ql 3 [] []),
   (oo 55 (.lenS (tq 54)),q0),
   (oo 56 (.call 217 [((tq 52),0),((tq 55),0)] []),qc [3] []),
   (oo 57 (.indexAddrS 35 (tq 51) (tq 56)),q0),
   (oo 58 (.load true 35 (tq 57) false),qc [3] []),
   (oo 59 (.buildSlice 35 1 (rp 32 (.sc (.int .u8 0)) (rp 2 (.sc (.int .i64 0)) (rp 1 (.sc (.int .u32 0)) []))) [(0,35,(tq 58))]),qn [3] []),
   (oo 60 (.append 35 56 (tq 49) (tq 59)),q0),
   (oo 61 (.fieldAddr 3 (tq 3)),q0),
   (oz (.store 1 (tq 61) (tq 60)),q0)])
 .skip))
 (.seq (.reg [oo 63 (.bin .eql (tq 10) (.const (.sc (.int .i64 3)))),
   oo 62 (.move (tq 63) false)])
 (.cond (tq 62)
 (.seq (.reg [oo 64 (.fieldAddr 4 (tq 3)),
   oo 65 (.load false 1 (tq 64) false),
   oo 66 (.lenS (tq 65)),
   oo 67 (.bin .gtr (tq 66) (.const (.sc (.int .i64 0))))])
 (.cond (tq 67)
 (.dreg [] [(oo 68 (.fieldAddr 4 (tq 3)),q0),
   (oo 69 (.load false 1 (tq 68) true),ql 3 [] [79]),
   (oo 70 (.fieldAddr 4 (tq 3)),q0),
   (oo 71 (.load false 1 (tq 70) false),ql 3 [] []),
   (oo 72 (.move (tq 2) false),q0),
   (oo 73 (.fieldAddr 4 (tq 3)),q0),
   (oo 74 (.load false 1 (tq 73) false),ql 3 [] []),
   (oo 75 (.lenS (tq 74)),q0),
   (oo 76 (.call 217 [((tq 72),0),((tq 75),0)] []),qc [3] []),
   (oo 77 (.indexAddrS 32 (tq 71) (tq 76)),q0),
   (oo 78 (.load true 32 (tq 77) false),qc [3] []),
   (oo 79 (.buildSlice 32 1 (rp 32 (.sc (.int .u8 0)) []) [(0,32,(tq 78))]),qn [3] []),
   (oo 80 (.append 32 32 (tq 69) (tq 79)),q0),
   (oo 81 (.fieldAddr 4 (tq 3)),q0),
   (oz (.store 1 (tq 81) (tq 80)),q0)])
 .skip))
 .skip))))))))))
 (.seq (.reg [oo 82 (.load true 5 (tq 3) true),
   oz (.store 5 (tq 6) (tq 82))])
 .ret))))⟩
def zmG:Hint:=⟨[(4,1),(7,1),(10,1),(13,1),(14,0)],[],[none,none,none,none,none,none,none,none,none],[],[(1,1,[12,13,17])],true,true⟩
def zkk:Nat→Sh:=z6 [(3,(.row [(.int .u32),.bool,(.sl 1),(.sl 35),(.sl 32)]))]
def zkt (yj:zU) (xd:zn) (L:Nat):CBC:=(xD 217 (zfK xd L) (xD 355 (zcZ yj L) noC))
def zbt {β:Type} (yj:zU) (xd:zn) (L:Nat) (p0:List V) (p1 p2:Int) (k_fin:List V→Option β):Option β :=
 chk (List.length p0=5) (
 cI .u32 p0 0 fun v0 =>
 cB p0 1 fun v1 =>
 cL 1 p0 2 fun v2 =>
 cL 35 p0 3 fun v3 =>
 cL 32 p0 4 fun v4 =>
 yj β L [(V.sc (.int .u32 v0)),(V.sc (.bool v1)),(V.sl 1 v2),(V.sl 35 v3),(V.sl 32 v4)] (fun v5 v6 v7 v8 v9 v10 v11 v12 =>
 xd β L p1 (5:Int) (fun v13 =>
 ifb ((v13:Int) == (0:Int)) (
 xd β L p2 (5:Int) (fun v14 =>
 lt (IntKind.wrap .i64 ((v14:Int) - (1:Int))) fun x15 =>
 chk ((v7+List.length (zc 1 1 [(V.sc (.int .i64 x15))])) * 8≤xh∧(v7+List.length (zc 1 1 [(V.sc (.int .i64 x15))]))≤xh∧((v7+List.length (zc 1 1 [(V.sc (.int .i64 x15))]))≠0∨(List.length v10)=0)) (
 lt (List.take (v7 * 1) v10++List.flatten (zc 1 1 [(V.sc (.int .i64 x15))])) fun r16 =>
 k_fin [(V.sc (.int .u32 v5)),(V.sc (.bool v6)),(V.sl 1 (zc 1 (v7+List.length (zc 1 1 [(V.sc (.int .i64 x15))])) r16)),(V.sl 35 (zc 35 v8 v11)),(V.sl 32 (zc 32 v9 v12))]))) (
 ifb ((v13:Int) == (1:Int)) (
 ifb (decide (((v8:Nat):Int) > (0:Int))) (
 xd β L p2 ((v8:Nat):Int) (fun v17 =>
 chk (0≤v17∧v17 < ((v8:Nat):Int)) (
 chk (((0+((Int.toNat v17) * 35))+0)+32≤(List.length v11)) (
 chk ((List.length (List.take 32 (List.drop ((0+((Int.toNat v17) * 35))+0) v11)))=32∧0+32≤32) (
 chk ((v9+List.length (zc 32 1 (za (List.replicate 32 (V.sc (.int .u8 (0:Int)))) 0 (List.take 32 (List.drop ((0+((Int.toNat v17) * 35))+0) v11))))) * 32≤xh∧(v9+List.length (zc 32 1 (za (List.replicate 32 (V.sc (.int .u8 (0:Int)))) 0 (List.take 32 (List.drop ((0+((Int.toNat v17) * 35))+0) v11)))))≤xh∧((v9+List.length (zc 32 1 (za (List.replicate 32 (V.sc (.int .u8 (0:Int)))) 0 (List.take 32 (List.drop ((0+((Int.toNat v17) * 35))+0) v11)))))≠0∨(List.length v12)=0)) (
 lt (List.take (v9 * 32) v12++List.flatten (zc 32 1 (za (List.replicate 32 (V.sc (.int .u8 (0:Int)))) 0 (List.take 32 (List.drop ((0+((Int.toNat v17) * 35))+0) v11))))) fun r18 =>
 k_fin [(V.sc (.int .u32 v5)),(V.sc (.bool v6)),(V.sl 1 (zc 1 v7 v10)),(V.sl 35 (zc 35 v8 v11)),(V.sl 32 (zc 32 (v9+List.length (zc 32 1 (za (List.replicate 32 (V.sc (.int .u8 (0:Int)))) 0 (List.take 32 (List.drop ((0+((Int.toNat v17) * 35))+0) v11))))) r18))])))))) (
 k_fin [(V.sc (.int .u32 v5)),(V.sc (.bool v6)),(V.sl 1 (zc 1 v7 v10)),(V.sl 35 (zc 35 v8 v11)),(V.sl 32 (zc 32 v9 v12))])) (
 ifb ((v13:Int) == (2:Int)) (
 ifb (decide (((v8:Nat):Int) > (0:Int))) (
 xd β L p2 ((v8:Nat):Int) (fun v19 =>
 chk (0≤v19∧v19 < ((v8:Nat):Int)) (
 chk ((0+((Int.toNat v19) * 35))+35≤(List.length v11)) (
 chk ((List.length (List.take 35 (List.drop (0+((Int.toNat v19) * 35)) v11)))=35∧0+35≤35) (
 chk ((v8+List.length (zc 35 1 (za (List.replicate 32 (V.sc (.int .u8 (0:Int)))++[(V.sc (.int .i64 (0:Int))),(V.sc (.int .i64 (0:Int))),(V.sc (.int .u32 (0:Int)))]) 0 (List.take 35 (List.drop (0+((Int.toNat v19) * 35)) v11))))) * 56≤xh∧(v8+List.length (zc 35 1 (za (List.replicate 32 (V.sc (.int .u8 (0:Int)))++[(V.sc (.int .i64 (0:Int))),(V.sc (.int .i64 (0:Int))),(V.sc (.int .u32 (0:Int)))]) 0 (List.take 35 (List.drop (0+((Int.toNat v19) * 35)) v11)))))≤xh∧((v8+List.length (zc 35 1 (za (List.replicate 32 (V.sc (.int .u8 (0:Int)))++[(V.sc (.int .i64 (0:Int))),(V.sc (.int .i64 (0:Int))),(V.sc (.int .u32 (0:Int)))]) 0 (List.take 35 (List.drop (0+((Int.toNat v19) * 35)) v11)))))≠0∨(List.length v11)=0)) (
 lt (List.take (v8 * 35) v11++List.flatten (zc 35 1 (za (List.replicate 32 (V.sc (.int .u8 (0:Int)))++[(V.sc (.int .i64 (0:Int))),(V.sc (.int .i64 (0:Int))),(V.sc (.int .u32 (0:Int)))]) 0 (List.take 35 (List.drop (0+((Int.toNat v19) * 35)) v11))))) fun r20 =>
 k_fin [(V.sc (.int .u32 v5)),(V.sc (.bool v6)),(V.sl 1 (zc 1 v7 v10)),(V.sl 35 (zc 35 (v8+List.length (zc 35 1 (za (List.replicate 32 (V.sc (.int .u8 (0:Int)))++[(V.sc (.int .i64 (0:Int))),(V.sc (.int .i64 (0:Int))),(V.sc (.int .u32 (0:Int)))]) 0 (List.take 35 (List.drop (0+((Int.toNat v19) * 35)) v11))))) r20)),(V.sl 32 (zc 32 v9 v12))])))))) (
 k_fin [(V.sc (.int .u32 v5)),(V.sc (.bool v6)),(V.sl 1 (zc 1 v7 v10)),(V.sl 35 (zc 35 v8 v11)),(V.sl 32 (zc 32 v9 v12))])) (
 ifb ((v13:Int) == (3:Int)) (
 ifb (decide (((v9:Nat):Int) > (0:Int))) (
 xd β L p2 ((v9:Nat):Int) (fun v21 =>
 chk (0≤v21∧v21 < ((v9:Nat):Int)) (
 chk ((0+((Int.toNat v21) * 32))+32≤(List.length v12)) (
 chk ((List.length (List.take 32 (List.drop (0+((Int.toNat v21) * 32)) v12)))=32∧0+32≤32) (
 chk ((v9+List.length (zc 32 1 (za (List.replicate 32 (V.sc (.int .u8 (0:Int)))) 0 (List.take 32 (List.drop (0+((Int.toNat v21) * 32)) v12))))) * 32≤xh∧(v9+List.length (zc 32 1 (za (List.replicate 32 (V.sc (.int .u8 (0:Int)))) 0 (List.take 32 (List.drop (0+((Int.toNat v21) * 32)) v12)))))≤xh∧((v9+List.length (zc 32 1 (za (List.replicate 32 (V.sc (.int .u8 (0:Int)))) 0 (List.take 32 (List.drop (0+((Int.toNat v21) * 32)) v12)))))≠0∨(List.length v12)=0)) (
 lt (List.take (v9 * 32) v12++List.flatten (zc 32 1 (za (List.replicate 32 (V.sc (.int .u8 (0:Int)))) 0 (List.take 32 (List.drop (0+((Int.toNat v21) * 32)) v12))))) fun r22 =>
 k_fin [(V.sc (.int .u32 v5)),(V.sc (.bool v6)),(V.sl 1 (zc 1 v7 v10)),(V.sl 35 (zc 35 v8 v11)),(V.sl 32 (zc 32 (v9+List.length (zc 32 1 (za (List.replicate 32 (V.sc (.int .u8 (0:Int)))) 0 (List.take 32 (List.drop (0+((Int.toNat v21) * 32)) v12))))) r22))])))))) (
 k_fin [(V.sc (.int .u32 v5)),(V.sc (.bool v6)),(V.sl 1 (zc 1 v7 v10)),(V.sl 35 (zc 35 v8 v11)),(V.sl 32 (zc 32 v9 v12))])) (
 k_fin [(V.sc (.int .u32 v5)),(V.sc (.bool v6)),(V.sl 1 (zc 1 v7 v10)),(V.sl 35 (zc 35 v8 v11)),(V.sl 32 (zc 32 v9 v12))])))))))
theorem zrJ {β:Type} (yj:zU) (xd:zn) (L:Nat) (p0:List V) (p1 p2:Int) (k:KK β):zD zkk (zkt yj xd L) L zhD [(V.agg p0),(V.sc (.int .i64 p1)),(V.sc (.int .i64 p2))] [] k=zbt yj xd L p0 p1 p2 (fun p0=>k (V.agg p0) []):=by kernel_rfl
abbrev zj:=∀ (β:Type),Nat→List V→Int→Int→(List V→Option β)→Option β
def xa (β:Type) (L:Nat) (p0:List V) (p1 p2:Int) (k_fin:List V→Option β):Option β:=zbt yj xd L p0 p1 p2 k_fin
def zfX (xa:zj) (L:Nat) (β:Type) (args:List V) (bor:Bor) (k:KK β):Option β:=match args,bor with
 | [a0,a1,a2],[]=>aG a0 fun p0=>aI .i64 a1 fun p1=>aI .i64 a2 fun p2=>xa β L p0 p1 p2 (fun p0=>k (V.agg p0) [])
 | _,_=>none
theorem zrA (L:Nat) (β:Type) (args:List V) (bor:Bor) (k:KK β) (r:β) (h:zfX xa L β args bor k=some r):zD zkk (zkt yj xd L) L zhD args bor k=some r:=by
 unfold zfX at h
 split at h
 ·have q:=zb3 h; clear h; obtain ⟨p0,rfl,h⟩:=q
  have q:=zar h; clear h; obtain ⟨p1,rfl,h⟩:=q
  have q:=zar h; clear h; obtain ⟨p2,rfl,h⟩:=q
  exact (zrJ yj xd L p0 p1 p2 k).trans h
 ·cases h
def zfv:CF:=⟨12,[.tmp 3],
 (.seq (.reg [oo 2 (.box true (tq 0)),
   oo 3 (.move (.const (.sc (.bool false))) false)])
 (.seq (.reg [oo 5 (.load false 1 (tq 1) false),
   oo 6 (.load true 32 (tq 2) false),
   oo 7 (.mlook 34 false (.sc (.bool false)) (tq 5) (tq 6)),
   oo 4 (.move (tq 7) false)])
 (.seq (.reg [oo 8 (.load false 1 (tq 1) false),
   oo 9 (.load true 32 (tq 2) false),
   oz (.mput 34 (tq 8) (tq 9) (.const (.sc (.bool true))))])
 (.seq (.reg [oo 10 (.move (tq 4) false),
   oo 11 (.un .not (tq 10)),
   oo 3 (.move (tq 11) false)])
 .ret))))⟩
def zld:Hint:=⟨[],[],[none],[],[],false,false⟩
def ziC:Nat→Sh:=z6 [(7,.bool)]
def ziv (L:Nat):CBC:=noC
def zjw {β:Type} (L:Nat) (p0:List V) (b1:List (V × V)) (k_fin:Bool→List (V × V)→Option β):Option β :=
 chk (0+32≤(List.length p0)) (
 mAt 34 (V.agg (List.take 32 p0)) b1 fun q0 =>
 aB (Option.getD q0 (V.sc (.bool false))) fun v1 =>
 chk (0+32≤(List.length p0)) (
 zxt 34 (V.agg (List.take 32 p0)) (V.sc (.bool true)) b1 fun m2 =>
 k_fin (!v1) m2))
theorem zqm {β:Type} (L:Nat) (p0:List V) (b1:List (V × V)) (k:KK β):zD ziC (ziv L) L zfv [(V.agg p0),(V.ptr 0 0)] [(.live false [(V.mp 1)]),(.mp b1)] k=zjw L p0 b1 (fun p0 b1=>k (V.sc (.bool p0)) [(.live false [(V.mp 1)]),(.mp b1)]):=by kernel_rfl
abbrev xp:=∀ (β:Type),Nat→List V→List (V × V)→(Bool→List (V × V)→Option β)→Option β
def ze (β:Type) (L:Nat) (p0:List V) (b1:List (V × V)) (k_fin:Bool→List (V × V)→Option β):Option β:=zjw L p0 b1 k_fin
def zgA (ze:xp) (L:Nat) (β:Type) (args:List V) (bor:Bor) (k:KK β):Option β:=match args,bor with
 | [a0,a1],[(.live false [w0_0]),(.mp b1)]=>aG a0 fun p0=>aP 0 0 a1 (aM 1 w0_0 (ze β L p0 b1 (fun p0 b1=>k (V.sc (.bool p0)) [(.live false [(V.mp 1)]),(.mp b1)])))
 | _,_=>none
theorem zpL (L:Nat) (β:Type) (args:List V) (bor:Bor) (k:KK β) (r:β) (h:zgA ze L β args bor k=some r):zD ziC (ziv L) L zfv args bor k=some r:=by
 unfold zgA at h
 split at h
 ·have q:=zb3 h; clear h; obtain ⟨p0,rfl,h⟩:=q
  have q:=zp7 h; clear h; obtain ⟨rfl,h⟩:=q
  have q:=zz8 h; clear h; obtain ⟨rfl,h⟩:=q
  exact (zqm L p0 _ k).trans h
 ·cases h
def zbn:CC:=(.seq (.reg [oo 71 (.bin .lss (tq 70) (tq 69))])
 (.seq (.cond (tq 71)
 .skip
 (.seq (.mask (bl 0 79) (bl 528905046081400263932633 79))
 (.exit 4)))
 (.seq (.block 5 (.seq (.reg [oo 72 (.indexAddrS 32 (tq 68) (tq 70)),
   oo 73 (.load true 32 (tq 72) false),
   oo 10 (.alloc true (rp 32 (.sc (.int .u8 0)) [])),
   oz (.store 32 (tq 10) (tq 73))])
 (.seq (.reg [oo 74 (.move (tq 6) false),
   oo 75 (.load true 32 (tq 10) false),
   oo 76 (.callv (tq 74) [((tq 75),0)] []),
   oo 77 (.un .not (tq 76))])
 (.cond (tq 77)
 (.seq (.reg [oo 2 (.move (.const (.sc (.bool false))) false)])
 (.seq (.mask (bl 4 79) (bl 528905046081400263932637 79))
 .ret))
 .skip))))
 (.reg [oo 78 (.bin .add (tq 70) (.const (.sc (.int .i64 1)))),
   oo 70 (.move (tq 78) false)]))))
def zbE:CC:=(.seq (.reg [oo 58 (.bin .lss (tq 57) (tq 56))])
 (.seq (.cond (tq 58)
 .skip
 (.seq (.mask (bl 66 79) (bl 604444463063240877800187 79))
 (.exit 2)))
 (.seq (.block 3 (.seq (.reg [oo 59 (.indexAddrS 35 (tq 55) (tq 57)),
   oo 60 (.load true 35 (tq 59) false),
   oo 8 (.alloc true (rp 32 (.sc (.int .u8 0)) (rp 2 (.sc (.int .i64 0)) (rp 1 (.sc (.int .u32 0)) [])))),
   oz (.store 35 (tq 8) (tq 60))])
 (.seq (.reg [oo 61 (.move (tq 6) false),
   oo 62 (.fieldAddr 0 (tq 8)),
   oo 63 (.load true 32 (tq 62) false),
   oo 64 (.callv (tq 61) [((tq 63),0)] []),
   oo 65 (.un .not (tq 64))])
 (.cond (tq 65)
 (.seq (.reg [oo 2 (.move (.const (.sc (.bool false))) false)])
 (.seq (.mask (bl 4 79) (bl 604444463063240877800157 79))
 .ret))
 .skip))))
 (.reg [oo 66 (.bin .add (tq 57) (.const (.sc (.int .i64 1)))),
   oo 57 (.move (tq 66) false)]))))
def zdq:CC:=(.seq (.reg [oo 2 (.move (.const (.sc (.bool true))) false)])
 .ret)
def zcx:CC:=(.seq (.seq (.reg [oo 67 (.fieldAddr 4 (tq 1)),
   oo 68 (.load false 1 (tq 67) false),
   oo 69 (.lenS (tq 68)),
   oo 70 (.move (.const (.sc (.int .i64 0))) false)])
 (.block 4 (.loop (bl 2066035336255469781056 79) (bl 528905046081400263932665 79)
 zbn)))
 zdq)
def zcY:CC:=(.seq (.reg [oo 31 (.bin .lss (tq 30) (tq 29))])
 (.seq (.cond (tq 31)
 .skip
 (.seq (.mask (bl 2 79) (bl 604462909807314587351755 79))
 (.exit 0)))
 (.seq (.block 1 (.seq (.reg [oo 32 (.indexAddrS 1 (tq 28) (tq 30)),
   oo 33 (.load false 1 (tq 32) false),
   oo 4 (.move (tq 33) false)])
 (.seq (.reg [oo 34 (.move (tq 4) false),
   oo 35 (.bin .lss (tq 34) (.const (.sc (.int .i64 0))))])
 (.cond (tq 35)
 (.seq (.reg [oo 2 (.move (.const (.sc (.bool false))) false)])
 (.seq (.mask (bl 4 79) (bl 604462909807314587351757 79))
 .ret))
 .skip))))
 (.reg [oo 36 (.bin .add (tq 30) (.const (.sc (.int .i64 1)))),
   oo 30 (.move (tq 36) false)]))))
def zdY:CC:=(.seq (.seq (.dreg [] [(oo 37 (.fieldAddr 2 (tq 1)),q0),
   (oo 38 (.load false 1 (tq 37) false),q0),
   (oo 39 (.lenS (tq 38)),q0),
   (oo 40 (.bin .eql (tq 39) (.const (.sc (.int .i64 2)))),q0),
   (oo 41 (.move (tq 40) false),q0),
   (⟨(some 42),false,(some (41,true)),.fieldAddr 2 (tq 1)⟩,q0),
   (⟨(some 43),false,(some (41,true)),.load false 1 (tq 42) false⟩,ql 1 [] []),
   (⟨(some 44),false,(some (41,true)),.indexAddrS 1 (tq 43) (.const (.sc (.int .i64 0)))⟩,q0),
   (⟨(some 45),false,(some (41,true)),.load false 1 (tq 44) false⟩,qc [1] []),
   (⟨(some 46),false,(some (41,true)),.fieldAddr 2 (tq 1)⟩,q0),
   (⟨(some 47),false,(some (41,true)),.load false 1 (tq 46) false⟩,ql 1 [] []),
   (⟨(some 48),false,(some (41,true)),.indexAddrS 1 (tq 47) (.const (.sc (.int .i64 1)))⟩,q0),
   (⟨(some 49),false,(some (41,true)),.load false 1 (tq 48) false⟩,qc [1] []),
   (⟨(some 50),false,(some (41,true)),.bin .eql (tq 45) (tq 49)⟩,q0),
   (oo 51 (.pick (tq 41) (tq 50) (.const (.sc (.bool false)))),q0)])
 (.cond (tq 51)
 (.seq (.reg [oo 2 (.move (.const (.sc (.bool false))) false)])
 .ret)
 .skip))
 (.seq (.reg [oo 52 (.makeMap),
   oo 5 (.alloc false [(.sc (.map none))]),
   oz (.store 1 (tq 5) (tq 52))])
 (.seq (.reg [oo 53 (.makeFunc 369 [(tq 5)]),
   oo 6 (.move (tq 53) false)])
 (.seq (.seq (.reg [oo 54 (.fieldAddr 3 (tq 1)),
   oo 55 (.load false 1 (tq 54) false),
   oo 56 (.lenS (tq 55)),
   oo 57 (.move (.const (.sc (.int .i64 0))) false)])
 (.block 2 (.loop (bl 252201579132747842 79) (bl 604444463063240877800187 79)
 zbE)))
 zcx))))
def zP:CF:=⟨79,[.tmp 2],
 (.seq (.reg [oo 1 (.box true (tq 0)),
   oo 2 (.move (.const (.sc (.bool false))) false)])
 (.seq (.seq (.reg [oo 11 (.fieldAddr 2 (tq 1)),
   oo 12 (.load false 1 (tq 11) false),
   oo 13 (.lenS (tq 12)),
   oo 14 (.bin .gtr (tq 13) (.const (.sc (.int .i64 2)))),
   oo 15 (.move (tq 14) false),
   ⟨(some 16),false,(some (15,false)),.fieldAddr 3 (tq 1)⟩,
   ⟨(some 17),false,(some (15,false)),.load false 1 (tq 16) false⟩,
   ⟨(some 18),false,(some (15,false)),.lenS (tq 17)⟩,
   ⟨(some 19),false,(some (15,false)),.bin .gtr (tq 18) (.const (.sc (.int .i64 64)))⟩,
   oo 20 (.pick (tq 15) (.const (.sc (.bool true))) (tq 19)),
   oo 21 (.move (tq 20) false),
   ⟨(some 22),false,(some (21,false)),.fieldAddr 4 (tq 1)⟩,
   ⟨(some 23),false,(some (21,false)),.load false 1 (tq 22) false⟩,
   ⟨(some 24),false,(some (21,false)),.lenS (tq 23)⟩,
   ⟨(some 25),false,(some (21,false)),.bin .gtr (tq 24) (.const (.sc (.int .i64 2048)))⟩,
   oo 26 (.pick (tq 21) (.const (.sc (.bool true))) (tq 25))])
 (.cond (tq 26)
 (.seq (.reg [oo 2 (.move (.const (.sc (.bool false))) false)])
 .ret)
 .skip))
 (.seq (.seq (.reg [oo 27 (.fieldAddr 2 (tq 1)),
   oo 28 (.load false 1 (tq 27) false),
   oo 29 (.lenS (tq 28)),
   oo 30 (.move (.const (.sc (.int .i64 0))) false)])
 (.block 0 (.loop (bl 1879048194 79) (bl 604462909807314587351755 79)
 zcY)))
 zdY)))⟩
def zmr:Hint:=⟨[(0,0)],[],[none,none,none,some ((bl 1879048194 79),(bl 604462909807314587351755 79)),none,some ((bl 2 79),(bl 604462909807314587351755 79)),none,none,some ((bl 4 79),(bl 604462909807314587351757 79)),none,none,none,some ((bl 252201579132747842 79),(bl 604444463063240877800187 79)),none,some ((bl 66 79),(bl 604444463063240877800187 79)),none,none,some ((bl 4 79),(bl 604444463063240877800157 79)),none,some ((bl 2066035336255469781056 79),(bl 528905046081400263932665 79)),none,some ((bl 0 79),(bl 528905046081400263932633 79)),none,none,some ((bl 4 79),(bl 528905046081400263932637 79)),none],[],[],false,false⟩
def xy:Nat→Sh:=z6 [(12,(.sl 1)),(17,(.sl 35)),(23,(.sl 32)),(28,(.sl 1)),(33,(.int .i64)),(38,(.sl 1)),(43,(.sl 1)),(45,(.int .i64)),(47,(.sl 1)),(49,(.int .i64)),(55,(.sl 35)),(68,(.sl 32))]
def zz (ze:xp) (L:Nat):CBC:=(xD 369 (zgA ze L) noC)
def zew:St→St:=xZ 0 (bl 1879048194 79) (bl 604462909807314587351755 79)
def zc7:St→St:=xZ 0 (bl 252201579132747842 79) (bl 604444463063240877800187 79)
def zcR:St→St:=xZ 0 (bl 2066035336255469781056 79) (bl 528905046081400263932665 79)
def zdr (p28:List (List V)) (p29 p30:Int) (b1:List V):St:=⟨(jn 1 ((V.ptr 1 0)::(jn 26 ((V.sl 1 p28)::((V.sc (.int .i64 p29))::((V.sc (.int .i64 p30))::(jn 48 []))))))),(gn 1 ((.live true b1)::(gn 77 [])))⟩
def zgZ (p2:Bool):St:=⟨(jn 2 ((V.sc (.bool p2))::(jn 76 []))),(gn 79 [])⟩
def ze0 (b1:List V):St:=⟨(jn 1 ((V.ptr 1 0)::(jn 77 []))),(gn 1 ((.live true b1)::(gn 77 [])))⟩
def zci (p55:List (List V)) (p56 p57:Int) (b1:List V) (b52:List (V × V)):St:=⟨(jn 1 ((V.ptr 1 0)::(jn 4 ((V.fn 369 [(V.ptr 5 0)])::(jn 48 ((V.sl 35 p55)::((V.sc (.int .i64 p56))::((V.sc (.int .i64 p57))::(jn 21 []))))))))),(gn 1 ((.live true b1)::(gn 3 ((.live false [(V.mp 52)])::(gn 46 ((.mp b52)::(gn 26 [])))))))⟩
def zbB (p2:Bool) (b52:List (V × V)):St:=⟨(jn 2 ((V.sc (.bool p2))::(jn 76 []))),(gn 52 ((.mp b52)::(gn 26 [])))⟩
def zeZ (b1:List V) (b52:List (V × V)):St:=⟨(jn 1 ((V.ptr 1 0)::(jn 4 ((V.fn 369 [(V.ptr 5 0)])::(jn 72 []))))),(gn 1 ((.live true b1)::(gn 3 ((.live false [(V.mp 52)])::(gn 46 ((.mp b52)::(gn 26 [])))))))⟩
def zb6 (p68:List (List V)) (p69 p70:Int) (b52:List (V × V)):St:=⟨(jn 6 ((V.fn 369 [(V.ptr 5 0)])::(jn 61 ((V.sl 32 p68)::((V.sc (.int .i64 p69))::((V.sc (.int .i64 p70))::(jn 8 []))))))),(gn 5 ((.live false [(V.mp 52)])::(gn 46 ((.mp b52)::(gn 26 [])))))⟩
def zhY (b52:List (V × V)):St:=⟨(jn 79 []),(gn 52 ((.mp b52)::(gn 26 [])))⟩
def zlO {β:Type} (ze:xp) (L:Nat) (p0:List V) (k_fin:Bool→Option β) (k_hbbaba:List (List V)→Int→Int→List V→Option β):Option β :=
 cLd 1 p0 2 fun v0 =>
 ifb (decide (((List.length v0:Nat):Int) > (2:Int))) (
 k_fin false) (
 cLd 35 p0 3 fun v1 =>
 ifb (decide (((List.length v1:Nat):Int) > (64:Int))) (
 k_fin false) (
 cLd 32 p0 4 fun v2 =>
 ifb (decide (((List.length v2:Nat):Int) > (2048:Int))) (
 k_fin false) (
 cLd 1 p0 2 fun v3 =>
 k_hbbaba v3 ((List.length v3:Nat):Int) (0:Int) p0)))
theorem zrM {β:Type} (ze:xp) (L:Nat) (p0:List V) (k:KK β):zD xy (zz ze L) L zP [(V.agg p0)] [] k=zlO ze L p0 (fun p0=>k (V.sc (.bool p0)) []) (fun p28 p29 p30 b1=>xE (xj xy (zz ze L) 0 L zcY) zew L (zdr p28 p29 p30 b1) (yv 0 (zL (xj xy (zz ze L) 0 L zdY) (xR 0 (CF.res zP) k)))):=by kernel_rfl
def zgW {β:Type} (ze:xp) (L:Nat) (p28:List (List V)) (p29 p30:Int) (b1:List V) (k_ret:Bool→Option β) (k_hbbaba:List (List V)→Int→Int→List V→Option β) (k_x0:List V→Option β):Option β :=
 ifb (decide (p30 < p29)) (
 idx p28 p30 fun c4 =>
 cI .i64 c4 0 fun v5 =>
 ifb (decide (v5 < (0:Int))) (
 k_ret false) (
 lt (IntKind.wrap .i64 ((p30:Int)+(1:Int))) fun x6 =>
 k_hbbaba p28 p29 x6 b1)) (
 k_x0 b1)
theorem zn2 {β:Type} (ze:xp) (L:Nat) (p28:List (List V)) (p29 p30:Int) (b1:List V) (X:St→Option β) (K:KT β):xj xy (zz ze L) 0 L zcY (zdr p28 p29 p30 b1) (zbe zew X K)=zgW ze L p28 p29 p30 b1 (fun p2=>K .ret (zgZ p2)) (fun p28 p29 p30 b1=>X (zdr p28 p29 p30 b1)) (fun b1=>K (.exit 0) (ze0 b1)):=by kernel_rfl
def zi0 {β:Type} (ze:xp) (L:Nat) (p2:Bool) (k_fin:Bool→Option β):Option β :=
 k_fin p2
theorem zmh {β:Type} (ze:xp) (L:Nat) (p2:Bool) (k:KK β):(yv 0 (zL (xj xy (zz ze L) 0 L zdY) (xR 0 (CF.res zP) k))) .ret (zgZ p2)=zi0 ze L p2 (fun p0=>k (V.sc (.bool p0)) []):=by kernel_rfl
def zfx {β:Type} (ze:xp) (L:Nat) (b1:List V) (k_fin:Bool→Option β) (k_hbbbbbbaba:List (List V)→Int→Int→List V→List (V × V)→Option β):Option β :=
 cLd 1 b1 2 fun v7 =>
 ifb ((((List.length v7:Nat):Int):Int) == (2:Int)) (
 cLd 1 b1 2 fun v8 =>
 idx v8 (0:Int) fun c9 =>
 cI .i64 c9 0 fun v10 =>
 cLd 1 b1 2 fun v11 =>
 idx v11 (1:Int) fun c12 =>
 cI .i64 c12 0 fun v13 =>
 ifb ((v10:Int) == v13) (
 k_fin false) (
 cLd 35 b1 3 fun v14 =>
 k_hbbbbbbaba v14 ((List.length v14:Nat):Int) (0:Int) b1 ([]:List (V × V)))) (
 cLd 35 b1 3 fun v15 =>
 k_hbbbbbbaba v15 ((List.length v15:Nat):Int) (0:Int) b1 ([]:List (V × V)))
theorem zm9 {β:Type} (ze:xp) (L:Nat) (b1:List V) (k:KK β):(yv 0 (zL (xj xy (zz ze L) 0 L zdY) (xR 0 (CF.res zP) k))) (.exit 0) (ze0 b1)=zfx ze L b1 (fun p0=>k (V.sc (.bool p0)) []) (fun p55 p56 p57 b1 b52=>xE (xj xy (zz ze L) 0 L zbE) zc7 L (zci p55 p56 p57 b1 b52) (yv 2 (zL (xj xy (zz ze L) 0 L zcx) (xR 0 (CF.res zP) k)))):=by kernel_rfl
def zeN {β:Type} (ze:xp) (L:Nat) (p55:List (List V)) (p56 p57:Int) (b1:List V) (b52:List (V × V)) (k_retv1:Bool→List (V × V)→Option β) (k_hbbbbbbaba:List (List V)→Int→Int→List V→List (V × V)→Option β) (k_x2:List V→List (V × V)→Option β):Option β :=
 ifb (decide (p57 < p56)) (
 idx p55 p57 fun c16 =>
 chk ((List.length (List.take 35 c16))=35∧0+35≤35) (
 lt (za (List.replicate 32 (V.sc (.int .u8 (0:Int)))++[(V.sc (.int .i64 (0:Int))),(V.sc (.int .i64 (0:Int))),(V.sc (.int .u32 (0:Int)))]) 0 (List.take 35 c16)) fun r17 =>
 chk (0+32≤(List.length r17)) (
 ze β L (List.take 32 r17) b52 (fun v18 v19 =>
 ifb (!v18) (
 k_retv1 false v19) (
 lt (IntKind.wrap .i64 ((p57:Int)+(1:Int))) fun x20 =>
 k_hbbbbbbaba p55 p56 x20 b1 v19))))) (
 k_x2 b1 b52)
theorem zl2 {β:Type} (ze:xp) (L:Nat) (p55:List (List V)) (p56 p57:Int) (b1:List V) (b52:List (V × V)) (X:St→Option β) (K:KT β):xj xy (zz ze L) 0 L zbE (zci p55 p56 p57 b1 b52) (zbe zc7 X K)=zeN ze L p55 p56 p57 b1 b52 (fun p2 b52=>K .ret (zbB p2 b52)) (fun p55 p56 p57 b1 b52=>X (zci p55 p56 p57 b1 b52)) (fun b1 b52=>K (.exit 2) (zeZ b1 b52)):=by kernel_rfl
def zdf {β:Type} (ze:xp) (L:Nat) (p2:Bool) (b52:List (V × V)) (k_fin:Bool→Option β):Option β :=
 k_fin p2
theorem zjy {β:Type} (ze:xp) (L:Nat) (p2:Bool) (b52:List (V × V)) (k:KK β):(yv 2 (zL (xj xy (zz ze L) 0 L zcx) (xR 0 (CF.res zP) k))) .ret (zbB p2 b52)=zdf ze L p2 b52 (fun p0=>k (V.sc (.bool p0)) []):=by kernel_rfl
def zea {β:Type} (ze:xp) (L:Nat) (b1:List V) (b52:List (V × V)) (k_hbbbbbbbaba:List (List V)→Int→Int→List (V × V)→Option β):Option β :=
 cLd 32 b1 4 fun v21 =>
 k_hbbbbbbbaba v21 ((List.length v21:Nat):Int) (0:Int) b52
theorem zk6 {β:Type} (ze:xp) (L:Nat) (b1:List V) (b52:List (V × V)) (k:KK β):(yv 2 (zL (xj xy (zz ze L) 0 L zcx) (xR 0 (CF.res zP) k))) (.exit 2) (zeZ b1 b52)=zea ze L b1 b52 (fun p68 p69 p70 b52=>xE (xj xy (zz ze L) 0 L zbn) zcR L (zb6 p68 p69 p70 b52) (yv 4 (zL (xj xy (zz ze L) 0 L zdq) (xR 0 (CF.res zP) k)))):=by kernel_rfl
def zes {β:Type} (ze:xp) (L:Nat) (p68:List (List V)) (p69 p70:Int) (b52:List (V × V)) (k_retv1:Bool→List (V × V)→Option β) (k_hbbbbbbbaba:List (List V)→Int→Int→List (V × V)→Option β) (k_x4:List (V × V)→Option β):Option β :=
 ifb (decide (p70 < p69)) (
 idx p68 p70 fun c22 =>
 chk ((List.length (List.take 32 c22))=32∧0+32≤32) (
 lt (za (List.replicate 32 (V.sc (.int .u8 (0:Int)))) 0 (List.take 32 c22)) fun r23 =>
 chk (0+32≤(List.length r23)) (
 ze β L (List.take 32 r23) b52 (fun v24 v25 =>
 ifb (!v24) (
 k_retv1 false v25) (
 lt (IntKind.wrap .i64 ((p70:Int)+(1:Int))) fun x26 =>
 k_hbbbbbbbaba p68 p69 x26 v25))))) (
 k_x4 b52)
theorem zlG {β:Type} (ze:xp) (L:Nat) (p68:List (List V)) (p69 p70:Int) (b52:List (V × V)) (X:St→Option β) (K:KT β):xj xy (zz ze L) 0 L zbn (zb6 p68 p69 p70 b52) (zbe zcR X K)=zes ze L p68 p69 p70 b52 (fun p2 b52=>K .ret (zbB p2 b52)) (fun p68 p69 p70 b52=>X (zb6 p68 p69 p70 b52)) (fun b52=>K (.exit 4) (zhY b52)):=by kernel_rfl
def zc0 {β:Type} (ze:xp) (L:Nat) (p2:Bool) (b52:List (V × V)) (k_fin:Bool→Option β):Option β :=
 k_fin p2
theorem zi2 {β:Type} (ze:xp) (L:Nat) (p2:Bool) (b52:List (V × V)) (k:KK β):(yv 4 (zL (xj xy (zz ze L) 0 L zdq) (xR 0 (CF.res zP) k))) .ret (zbB p2 b52)=zc0 ze L p2 b52 (fun p0=>k (V.sc (.bool p0)) []):=by kernel_rfl
def zdQ {β:Type} (ze:xp) (L:Nat) (b52:List (V × V)) (k_fin:Bool→Option β):Option β :=
 k_fin true
theorem zkh {β:Type} (ze:xp) (L:Nat) (b52:List (V × V)) (k:KK β):(yv 4 (zL (xj xy (zz ze L) 0 L zdq) (xR 0 (CF.res zP) k))) (.exit 4) (zhY b52)=zdQ ze L b52 (fun p0=>k (V.sc (.bool p0)) []):=by kernel_rfl
def zdg {β:Type} (ze:xp) (L:Nat) (k_ret:Bool→Option β) (k_x0:List V→Option β):Nat→List (List V)→Int→Int→List V→Option β
 | 0,_,_,_,_=>none
 | n+1,p28,p29,p30,b1=>zgW ze L p28 p29 p30 b1 k_ret (fun p28 p29 p30 b1=>zdg ze L k_ret k_x0 n p28 p29 p30 b1) k_x0
theorem ziO {β:Type} (ze:xp) (L:Nat) (K:KT β):∀ (n:Nat) (p28:List (List V)) (p29 p30:Int) (b1:List V),xE (xj xy (zz ze L) 0 L zcY) zew n (zdr p28 p29 p30 b1) K=zdg ze L (fun p2=>K .ret (zgZ p2)) (fun b1=>K (.exit 0) (ze0 b1)) n p28 p29 p30 b1:=by
 intro n
 induction n with
 | zero=>intros; rfl
 | succ n ih =>
  intro p28 p29 p30 b1
  refine (zn2 ze L p28 p29 p30 b1 (fun σ=>xE (xj xy (zz ze L) 0 L zcY) zew n σ K) K).trans ?_
  simp only [ih]
  rfl
def zba {β:Type} (ze:xp) (L:Nat) (k_retv1:Bool→List (V × V)→Option β) (k_x2:List V→List (V × V)→Option β):Nat→List (List V)→Int→Int→List V→List (V × V)→Option β
 | 0,_,_,_,_,_=>none
 | n+1,p55,p56,p57,b1,b52=>zeN ze L p55 p56 p57 b1 b52 k_retv1 (fun p55 p56 p57 b1 b52=>zba ze L k_retv1 k_x2 n p55 p56 p57 b1 b52) k_x2
theorem zgu {β:Type} (ze:xp) (L:Nat) (K:KT β):∀ (n:Nat) (p55:List (List V)) (p56 p57:Int) (b1:List V) (b52:List (V × V)),xE (xj xy (zz ze L) 0 L zbE) zc7 n (zci p55 p56 p57 b1 b52) K=zba ze L (fun p2 b52=>K .ret (zbB p2 b52)) (fun b1 b52=>K (.exit 2) (zeZ b1 b52)) n p55 p56 p57 b1 b52:=by
 intro n
 induction n with
 | zero=>intros; rfl
 | succ n ih =>
  intro p55 p56 p57 b1 b52
  refine (zl2 ze L p55 p56 p57 b1 b52 (fun σ=>xE (xj xy (zz ze L) 0 L zbE) zc7 n σ K) K).trans ?_
  simp only [ih]
  rfl
def zbD {β:Type} (ze:xp) (L:Nat) (k_retv1:Bool→List (V × V)→Option β) (k_x4:List (V × V)→Option β):Nat→List (List V)→Int→Int→List (V × V)→Option β
 | 0,_,_,_,_=>none
 | n+1,p68,p69,p70,b52=>zes ze L p68 p69 p70 b52 k_retv1 (fun p68 p69 p70 b52=>zbD ze L k_retv1 k_x4 n p68 p69 p70 b52) k_x4
theorem zf6 {β:Type} (ze:xp) (L:Nat) (K:KT β):∀ (n:Nat) (p68:List (List V)) (p69 p70:Int) (b52:List (V × V)),xE (xj xy (zz ze L) 0 L zbn) zcR n (zb6 p68 p69 p70 b52) K=zbD ze L (fun p2 b52=>K .ret (zbB p2 b52)) (fun b52=>K (.exit 4) (zhY b52)) n p68 p69 p70 b52:=by
 intro n
 induction n with
 | zero=>intros; rfl
 | succ n ih =>
  intro p68 p69 p70 b52
  refine (zlG ze L p68 p69 p70 b52 (fun σ=>xE (xj xy (zz ze L) 0 L zbn) zcR n σ K) K).trans ?_
  simp only [ih]
  rfl
def zbg {β:Type} (ze:xp) (L:Nat) (b1:List V) (b52:List (V × V)) (k_fin:Bool→Option β):Option β :=
 zea ze L b1 b52 (fun p68 p69 p70 b52=>zbD ze L (fun p2 b52=>zc0 ze L p2 b52 k_fin) (fun b52=>zdQ ze L b52 k_fin) L p68 p69 p70 b52)
theorem zkA {β:Type} (ze:xp) (L:Nat) (b1:List V) (b52:List (V × V)) (k:KK β):(yv 2 (zL (xj xy (zz ze L) 0 L zcx) (xR 0 (CF.res zP) k))) (.exit 2) (zeZ b1 b52)=zbg ze L b1 b52 (fun p0=>k (V.sc (.bool p0)) []):=by
 refine (zk6 ze L b1 b52 k).trans ?_
 unfold zbg
 first
  | (simp only [zf6,zi2,zkh]; done)
  | (simp only [zf6]; rfl)
def zdu {β:Type} (ze:xp) (L:Nat) (b1:List V) (k_fin:Bool→Option β):Option β :=
 zfx ze L b1 k_fin (fun p55 p56 p57 b1 b52=>zba ze L (fun p2 b52=>zdf ze L p2 b52 k_fin) (fun b1 b52=>zbg ze L b1 b52 k_fin) L p55 p56 p57 b1 b52)
theorem zmn {β:Type} (ze:xp) (L:Nat) (b1:List V) (k:KK β):(yv 0 (zL (xj xy (zz ze L) 0 L zdY) (xR 0 (CF.res zP) k))) (.exit 0) (ze0 b1)=zdu ze L b1 (fun p0=>k (V.sc (.bool p0)) []):=by
 refine (zm9 ze L b1 k).trans ?_
 unfold zdu
 first
  | (simp only [zgu,zjy,zkA]; done)
  | (simp only [zgu]; rfl)
def ziq {β:Type} (ze:xp) (L:Nat) (p0:List V) (k_fin:Bool→Option β):Option β :=
 zlO ze L p0 k_fin (fun p28 p29 p30 b1=>zdg ze L (fun p2=>zi0 ze L p2 k_fin) (fun b1=>zdu ze L b1 k_fin) L p28 p29 p30 b1)
theorem zrF {β:Type} (ze:xp) (L:Nat) (p0:List V) (k:KK β):zD xy (zz ze L) L zP [(V.agg p0)] [] k=ziq ze L p0 (fun p0=>k (V.sc (.bool p0)) []):=by
 refine (zrM ze L p0 k).trans ?_
 unfold ziq
 first
  | (simp only [ziO,zmh,zmn]; done)
  | (simp only [ziO]; rfl)
abbrev zcD:=∀ (β:Type),Nat→List V→(Bool→Option β)→Option β
def zB (β:Type) (L:Nat) (p0:List V) (k_fin:Bool→Option β):Option β:=ziq ze L p0 k_fin
def zev (zB:zcD) (L:Nat) (β:Type) (args:List V) (bor:Bor) (k:KK β):Option β:=match args,bor with
 | [a0],[]=>aG a0 fun p0=>zB β L p0 (fun p0=>k (V.sc (.bool p0)) [])
 | _,_=>none
theorem zru (L:Nat) (β:Type) (args:List V) (bor:Bor) (k:KK β) (r:β) (h:zev zB L β args bor k=some r):zD xy (zz ze L) L zP args bor k=some r:=by
 unfold zev at h
 split at h
 ·have q:=zb3 h; clear h; obtain ⟨p0,rfl,h⟩:=q
  exact (zrF ze L p0 k).trans h
 ·cases h
def zgC:CF:=⟨8,[.tmp 3],
 (.seq (.reg [oo 2 (.box true (tq 0)),
   oo 3 (.move (.const (.sc (.bool false))) false)])
 (.seq (.reg [oo 4 (.fieldAddr 0 (tq 2)),
   oo 5 (.load true 32 (tq 4) false),
   oo 6 (.load true 32 (tq 1) false),
   oo 7 (.eqAgg false 32 (tq 5) (tq 6)),
   oo 3 (.move (tq 7) false)])
 .ret))⟩
def zlS:Hint:=⟨[],[],[none],[],[],false,false⟩
def zjW:Nat→Sh:=z6 []
def zjY (L:Nat):CBC:=noC
def zko {β:Type} (L:Nat) (p0 b0:List V) (k_fin:Bool→List V→Option β):Option β :=
 chk (0+32≤(List.length p0)) (
 chk (0+32≤(List.length b0)) (
 eqC 32 (List.take 32 p0) (List.take 32 b0) fun v0 =>
 k_fin v0 b0))
theorem zqY {β:Type} (L:Nat) (p0 b0:List V) (k:KK β):zD zjW (zjY L) L zgC [(V.agg p0),(V.ptr 0 0)] [(.live true b0)] k=zko L p0 b0 (fun p0 b0=>k (V.sc (.bool p0)) [(.live true b0)]):=by kernel_rfl
abbrev zG:=∀ (β:Type),Nat→List V→List V→(Bool→List V→Option β)→Option β
def zg (β:Type) (L:Nat) (p0 b0:List V) (k_fin:Bool→List V→Option β):Option β:=zko L p0 b0 k_fin
def zfd (zg:zG) (L:Nat) (β:Type) (args:List V) (bor:Bor) (k:KK β):Option β:=match args,bor with
 | [a0,a1],[(.live true b0)]=>aG a0 fun p0=>aP 0 0 a1 (zg β L p0 b0 (fun p0 b0=>k (V.sc (.bool p0)) [(.live true b0)]))
 | _,_=>none
theorem zqU (L:Nat) (β:Type) (args:List V) (bor:Bor) (k:KK β) (r:β) (h:zfd zg L β args bor k=some r):zD zjW (zjY L) L zgC args bor k=some r:=by
 unfold zfd at h
 split at h
 ·have q:=zb3 h; clear h; obtain ⟨p0,rfl,h⟩:=q
  have q:=zp7 h; clear h; obtain ⟨rfl,h⟩:=q
  exact (zqY L p0 _ k).trans h
 ·cases h
def yM:CC:=(.seq (.reg [oo 9 (.bin .lss (tq 8) (tq 7))])
 (.seq (.cond (tq 9)
 .skip
 (.seq (.mask (bl 0 19) (bl 458703 19))
 (.exit 0)))
 (.seq (.block 1 (.seq (.reg [oo 10 (.move (tq 8) false),
   oo 5 (.move (tq 10) false)])
 (.seq (.reg [oo 11 (.move (tq 1) false),
   oo 12 (.move (tq 0) false),
   oo 13 (.move (tq 5) false),
   oo 14 (.indexAddrS 35 (tq 12) (tq 13)),
   oo 15 (.load true 35 (tq 14) false),
   oo 16 (.callv (tq 11) [((tq 15),0)] [])])
 (.cond (tq 16)
 (.seq (.reg [oo 17 (.move (tq 5) false),
   oo 4 (.move (tq 17) false)])
 (.seq (.mask (bl 16 19) (bl 458719 19))
 .ret))
 .skip))))
 (.reg [oo 18 (.bin .add (tq 8) (.const (.sc (.int .i64 1)))),
   oo 8 (.move (tq 18) false)]))))
def y9:CC:=(.seq (.reg [oo 4 (.move (.const (.sc (.int .i64 (-1)))) false)])
 .ret)
def zw:CF:=⟨19,[.tmp 4],
 (.seq (.reg [oo 4 (.move (.const (.sc (.int .i64 0))) false)])
 (.seq (.seq (.reg [oo 6 (.move (tq 0) false),
   oo 7 (.lenS (tq 6)),
   oo 8 (.move (.const (.sc (.int .i64 0))) false)])
 (.block 0 (.loop (bl 387 19) (bl 458703 19)
 yM)))
 y9))⟩
def zcz:Hint:=⟨[],[],[none,some ((bl 387 19),(bl 458703 19)),none,some ((bl 0 19),(bl 458703 19)),none,none,some ((bl 16 19),(bl 458719 19)),none],[],[],false,false⟩
def xt:Nat→Sh:=z6 []
def zt (zg:zG) (L:Nat):CBC:=(xD 373 (zfd zg L) noC)
def yZ:St→St:=xZ 1 (bl 387 19) (bl 458703 19)
def zV (p0:List (List V)) (p7 p8:Int) (b0:List V):St:=⟨((V.sl 35 p0)::((V.fn 373 [(V.ptr 0 0)])::(jn 5 ((V.sc (.int .i64 p7))::((V.sc (.int .i64 p8))::(jn 10 [])))))),((.live true b0)::(gn 19 []))⟩
def zaJ (p4:Int) (b0:List V):St:=⟨(jn 4 ((V.sc (.int .i64 p4))::(jn 14 []))),((.live true b0)::(gn 19 []))⟩
def zaW (b0:List V):St:=⟨(jn 19 []),((.live true b0)::(gn 19 []))⟩
def zbi {β:Type} (zg:zG) (L:Nat) (p0:List (List V)) (b0:List V) (k_hbaba:List (List V)→Int→Int→List V→Option β):Option β :=
 k_hbaba p0 ((List.length p0:Nat):Int) (0:Int) b0
theorem zfI {β:Type} (zg:zG) (L:Nat) (p0:List (List V)) (b0:List V) (k:KK β):zD xt (zt zg L) L zw [(V.sl 35 p0),(V.fn 373 [(V.ptr 0 0)])] [(.live true b0)] k=zbi zg L p0 b0 (fun p0 p7 p8 b0=>xE (xj xt (zt zg L) 1 L yM) yZ L (zV p0 p7 p8 b0) (yv 0 (zL (xj xt (zt zg L) 1 L y9) (xR 1 (CF.res zw) k)))):=by kernel_rfl
def zaV {β:Type} (zg:zG) (L:Nat) (p0:List (List V)) (p7 p8:Int) (b0:List V) (k_ret:Int→List V→Option β) (k_hbaba:List (List V)→Int→Int→List V→Option β) (k_x0:List V→Option β):Option β :=
 ifb (decide (p8 < p7)) (
 idx p0 p8 fun c0 =>
 zg β L (List.take 35 c0) b0 (fun v1 v2 =>
 chk ([(List.length v2)]=[(List.length b0)]) (
 ifb v1 (
 k_ret p8 v2) (
 lt (IntKind.wrap .i64 ((p8:Int)+(1:Int))) fun x3 =>
 k_hbaba p0 p7 x3 v2)))) (
 k_x0 b0)
theorem zeK {β:Type} (zg:zG) (L:Nat) (p0:List (List V)) (p7 p8:Int) (b0:List V) (X:St→Option β) (K:KT β):xj xt (zt zg L) 1 L yM (zV p0 p7 p8 b0) (zbe yZ X K)=zaV zg L p0 p7 p8 b0 (fun p4 b0=>K .ret (zaJ p4 b0)) (fun p0 p7 p8 b0=>X (zV p0 p7 p8 b0)) (fun b0=>K (.exit 0) (zaW b0)):=by kernel_rfl
def zb0 {β:Type} (zg:zG) (L:Nat) (p4:Int) (b0:List V) (k_fin:Int→List V→Option β):Option β :=
 k_fin p4 b0
theorem zei {β:Type} (zg:zG) (L:Nat) (p4:Int) (b0:List V) (k:KK β):(yv 0 (zL (xj xt (zt zg L) 1 L y9) (xR 1 (CF.res zw) k))) .ret (zaJ p4 b0)=zb0 zg L p4 b0 (fun p0 b0=>k (V.sc (.int .i64 p0)) [(.live true b0)]):=by kernel_rfl
def zb9 {β:Type} (zg:zG) (L:Nat) (b0:List V) (k_fin:Int→List V→Option β):Option β :=
 k_fin (-1:Int) b0
theorem zem {β:Type} (zg:zG) (L:Nat) (b0:List V) (k:KK β):(yv 0 (zL (xj xt (zt zg L) 1 L y9) (xR 1 (CF.res zw) k))) (.exit 0) (zaW b0)=zb9 zg L b0 (fun p0 b0=>k (V.sc (.int .i64 p0)) [(.live true b0)]):=by kernel_rfl
def xN {β:Type} (zg:zG) (L:Nat) (k_ret:Int→List V→Option β) (k_x0:List V→Option β):Nat→List (List V)→Int→Int→List V→Option β
 | 0,_,_,_,_=>none
 | n+1,p0,p7,p8,b0=>zaV zg L p0 p7 p8 b0 k_ret (fun p0 p7 p8 b0=>xN zg L k_ret k_x0 n p0 p7 p8 b0) k_x0
theorem zbW {β:Type} (zg:zG) (L:Nat) (K:KT β):∀ (n:Nat) (p0:List (List V)) (p7 p8:Int) (b0:List V),xE (xj xt (zt zg L) 1 L yM) yZ n (zV p0 p7 p8 b0) K=xN zg L (fun p4 b0=>K .ret (zaJ p4 b0)) (fun b0=>K (.exit 0) (zaW b0)) n p0 p7 p8 b0:=by
 intro n
 induction n with
 | zero=>intros; rfl
 | succ n ih =>
  intro p0 p7 p8 b0
  refine (zeK zg L p0 p7 p8 b0 (fun σ=>xE (xj xt (zt zg L) 1 L yM) yZ n σ K) K).trans ?_
  simp only [ih]
  rfl
def zan {β:Type} (zg:zG) (L:Nat) (p0:List (List V)) (b0:List V) (k_fin:Int→List V→Option β):Option β :=
 zbi zg L p0 b0 (fun p0 p7 p8 b0=>xN zg L (fun p4 b0=>zb0 zg L p4 b0 k_fin) (fun b0=>zb9 zg L b0 k_fin) L p0 p7 p8 b0)
theorem zfs {β:Type} (zg:zG) (L:Nat) (p0:List (List V)) (b0:List V) (k:KK β):zD xt (zt zg L) L zw [(V.sl 35 p0),(V.fn 373 [(V.ptr 0 0)])] [(.live true b0)] k=zan zg L p0 b0 (fun p0 b0=>k (V.sc (.int .i64 p0)) [(.live true b0)]):=by
 refine (zfI zg L p0 b0 k).trans ?_
 unfold zan
 first
  | (simp only [zbW,zei,zem]; done)
  | (simp only [zbW]; rfl)
abbrev zal:=∀ (β:Type),Nat→List (List V)→List V→(Int→List V→Option β)→Option β
def zk (β:Type) (L:Nat) (p0:List (List V)) (b0:List V) (k_fin:Int→List V→Option β):Option β:=zan zg L p0 b0 k_fin
def zam (zk:zal) (L:Nat) (β:Type) (args:List V) (bor:Bor) (k:KK β):Option β:=match args,bor with
 | [a0,a1],[(.live true b0)]=>aL 35 a0 fun p0=>aF 373 [(0,0)] a1 (zk β L p0 b0 (fun p0 b0=>k (V.sc (.int .i64 p0)) [(.live true b0)]))
 | _,_=>none
theorem zfG (L:Nat) (β:Type) (args:List V) (bor:Bor) (k:KK β) (r:β) (h:zam zk L β args bor k=some r):zD xt (zt zg L) L zw args bor k=some r:=by
 unfold zam at h
 split at h
 ·have q:=za5 h; clear h; obtain ⟨p0,rfl,h⟩:=q
  have q:=zAm h; clear h; obtain ⟨rfl,h⟩:=q
  exact (zfs zg L p0 _ k).trans h
 ·cases h
def zf0:CF:=⟨9,[.tmp 4],
 (.seq (.reg [oo 2 (.box false (tq 0)),
   oo 3 (.box true (tq 1)),
   oo 4 (.move (.const (.sc (.int .i64 0))) false)])
 (.seq (.reg [oo 5 (.fieldAddr 3 (tq 2)),
   oo 6 (.load false 1 (tq 5) false),
   oo 7 (.makeFunc 373 [(tq 3)]),
   oo 8 (.call 372 [((tq 6),2),((tq 7),2)] []),
   oo 4 (.move (tq 8) false)])
 .ret))⟩
def znb:Hint:=⟨[(1,3)],[],[none],[],[],false,false⟩
def zlL:Nat→Sh:=z6 []
def zlp (zk:zal) (L:Nat):CBC:=(xD 372 (zam zk L) noC)
def zmE {β:Type} (zk:zal) (L:Nat) (zBO:Int) (zBP:Bool) (zBT zB0 zB3:List (List V)) (p1:List V) (k_fin:Int→Option β):Option β :=
 zk β L zB0 p1 (fun v0 v1 =>
 chk ([(List.length v1)]=[(List.length p1)]) (
 k_fin v0))
theorem zs5 {β:Type} (zk:zal) (L:Nat) (zBO:Int) (zBP:Bool) (zBT zB0 zB3:List (List V)) (p1:List V) (k:KK β):zD zlL (zlp zk L) L zf0 [(V.st [(V.sc (.int .u32 zBO)),(V.sc (.bool zBP)),(V.sl 1 zBT),(V.sl 35 zB0),(V.sl 32 zB3)]),(V.agg p1)] [] k=zmE zk L zBO zBP zBT zB0 zB3 p1 (fun p0=>k (V.sc (.int .i64 p0)) []):=by kernel_rfl
abbrev zjj:=∀ (β:Type),Nat→Int→Bool→List (List V)→List (List V)→List (List V)→List V→(Int→Option β)→Option β
def zW (β:Type) (L:Nat) (zBO:Int) (zBP:Bool) (zBT zB0 zB3:List (List V)) (p1:List V) (k_fin:Int→Option β):Option β:=zmE zk L zBO zBP zBT zB0 zB3 p1 k_fin
def zjZ (zW:zjj) (L:Nat) (β:Type) (args:List V) (bor:Bor) (k:KK β):Option β:=match args,bor with
 | [(.st [a0_0,a0_1,a0_2,a0_3,a0_4]),a1],[]=>aI .u32 a0_0 fun zBO=>aB a0_1 fun zBP=>aL 1 a0_2 fun zBT=>aL 35 a0_3 fun zB0=>aL 32 a0_4 fun zB3=>aG a1 fun p1=>zW β L zBO zBP zBT zB0 zB3 p1 (fun p0=>k (V.sc (.int .i64 p0)) [])
 | _,_=>none
theorem zr5 (L:Nat) (β:Type) (args:List V) (bor:Bor) (k:KK β) (r:β) (h:zjZ zW L β args bor k=some r):zD zlL (zlp zk L) L zf0 args bor k=some r:=by
 unfold zjZ at h
 split at h
 ·have q:=zar h; clear h; obtain ⟨zBO,rfl,h⟩:=q
  have q:=zoB h; clear h; obtain ⟨zBP,rfl,h⟩:=q
  have q:=za5 h; clear h; obtain ⟨zBT,rfl,h⟩:=q
  have q:=za5 h; clear h; obtain ⟨zB0,rfl,h⟩:=q
  have q:=za5 h; clear h; obtain ⟨zB3,rfl,h⟩:=q
  have q:=zb3 h; clear h; obtain ⟨p1,rfl,h⟩:=q
  exact (zs5 zk L zBO zBP zBT zB0 zB3 p1 k).trans h
 ·cases h
def xT:CC:=(.seq (.reg [oo 9 (.bin .lss (tq 8) (tq 7))])
 (.seq (.cond (tq 9)
 .skip
 (.seq (.mask (bl 0 19) (bl 524231 19))
 (.exit 0)))
 (.seq (.block 1 (.seq (.reg [oo 10 (.move (tq 8) false),
   oo 5 (.move (tq 10) false)])
 (.seq (.dreg [] [(oo 11 (.load true 32 (tq 3) false),ql 3 [] []),
   (oo 12 (.move (tq 0) false),q0),
   (oo 13 (.move (tq 5) false),q0),
   (oo 14 (.indexAddrS 32 (tq 12) (tq 13)),q0),
   (oo 15 (.load true 32 (tq 14) false),qc [3] []),
   (oo 16 (.eqAgg false 32 (tq 11) (tq 15)),q0)])
 (.cond (tq 16)
 (.seq (.reg [oo 17 (.move (tq 5) false),
   oo 4 (.move (tq 17) false)])
 (.seq (.mask (bl 16 19) (bl 524247 19))
 .ret))
 .skip))))
 (.reg [oo 18 (.bin .add (tq 8) (.const (.sc (.int .i64 1)))),
   oo 8 (.move (tq 18) false)]))))
def zax:CC:=(.seq (.reg [oo 4 (.move (.const (.sc (.int .i64 (-1)))) false)])
 .ret)
def yG:CF:=⟨19,[.tmp 4],
 (.seq (.reg [oo 3 (.box true (tq 1)),
   oo 4 (.move (.const (.sc (.int .i64 0))) false)])
 (.seq (.seq (.reg [oo 6 (.move (tq 0) false),
   oo 7 (.lenS (tq 6)),
   oo 8 (.move (.const (.sc (.int .i64 0))) false)])
 (.block 0 (.loop (bl 393 19) (bl 524239 19)
 xT)))
 zax))⟩
def zdc:Hint:=⟨[],[],[none,some ((bl 393 19),(bl 524239 19)),none,some ((bl 0 19),(bl 524231 19)),none,none,some ((bl 16 19),(bl 524247 19)),none],[],[],false,false⟩
def xx:Nat→Sh:=z6 []
def yx (L:Nat):CBC:=noC
def zak:St→St:=xZ 0 (bl 393 19) (bl 524239 19)
def z7 (p0:List (List V)) (p7 p8:Int) (b3:List V):St:=⟨((V.sl 32 p0)::(jn 2 ((V.ptr 3 0)::(jn 3 ((V.sc (.int .i64 p7))::((V.sc (.int .i64 p8))::(jn 10 []))))))),(gn 3 ((.live true b3)::(gn 15 [])))⟩
def zbd (p4:Int):St:=⟨(jn 4 ((V.sc (.int .i64 p4))::(jn 14 []))),(gn 19 [])⟩
def zbk:St:=⟨(jn 19 []),(gn 19 [])⟩
def zbZ {β:Type} (L:Nat) (p0:List (List V)) (p1:List V) (k_hbaba:List (List V)→Int→Int→List V→Option β):Option β :=
 k_hbaba p0 ((List.length p0:Nat):Int) (0:Int) p1
theorem zg5 {β:Type} (L:Nat) (p0:List (List V)) (p1:List V) (k:KK β):zD xx (yx L) L yG [(V.sl 32 p0),(V.agg p1)] [] k=zbZ L p0 p1 (fun p0 p7 p8 b3=>xE (xj xx (yx L) 0 L xT) zak L (z7 p0 p7 p8 b3) (yv 0 (zL (xj xx (yx L) 0 L zax) (xR 0 (CF.res yG) k)))):=by kernel_rfl
def zbl {β:Type} (L:Nat) (p0:List (List V)) (p7 p8:Int) (b3:List V) (k_ret:Int→Option β) (k_hbaba:List (List V)→Int→Int→List V→Option β) (k_x0:Option β):Option β :=
 ifb (decide (p8 < p7)) (
 chk (0+32≤(List.length b3)) (
 idx p0 p8 fun c0 =>
 eqC 32 (List.take 32 b3) (List.take 32 c0) fun v1 =>
 ifb v1 (
 k_ret p8) (
 lt (IntKind.wrap .i64 ((p8:Int)+(1:Int))) fun x2 =>
 k_hbaba p0 p7 x2 b3))) (
 k_x0)
theorem zfD {β:Type} (L:Nat) (p0:List (List V)) (p7 p8:Int) (b3:List V) (X:St→Option β) (K:KT β):xj xx (yx L) 0 L xT (z7 p0 p7 p8 b3) (zbe zak X K)=zbl L p0 p7 p8 b3 (fun p4=>K .ret (zbd p4)) (fun p0 p7 p8 b3=>X (z7 p0 p7 p8 b3)) (K (.exit 0) (zbk)):=by kernel_rfl
def zct {β:Type} (L:Nat) (p4:Int) (k_fin:Int→Option β):Option β :=
 k_fin p4
theorem zeW {β:Type} (L:Nat) (p4:Int) (k:KK β):(yv 0 (zL (xj xx (yx L) 0 L zax) (xR 0 (CF.res yG) k))) .ret (zbd p4)=zct L p4 (fun p0=>k (V.sc (.int .i64 p0)) []):=by kernel_rfl
def zcH {β:Type} (L:Nat) (k_fin:Int→Option β):Option β :=
 k_fin (-1:Int)
theorem zff {β:Type} (L:Nat) (k:KK β):(yv 0 (zL (xj xx (yx L) 0 L zax) (xR 0 (CF.res yG) k))) (.exit 0) (zbk)=zcH L (fun p0=>k (V.sc (.int .i64 p0)) []):=by kernel_rfl
def yU {β:Type} (L:Nat) (k_ret:Int→Option β) (k_x0:Option β):Nat→List (List V)→Int→Int→List V→Option β
 | 0,_,_,_,_=>none
 | n+1,p0,p7,p8,b3=>zbl L p0 p7 p8 b3 k_ret (fun p0 p7 p8 b3=>yU L k_ret k_x0 n p0 p7 p8 b3) k_x0
theorem zcw {β:Type} (L:Nat) (K:KT β):∀ (n:Nat) (p0:List (List V)) (p7 p8:Int) (b3:List V),xE (xj xx (yx L) 0 L xT) zak n (z7 p0 p7 p8 b3) K=yU L (fun p4=>K .ret (zbd p4)) (K (.exit 0) (zbk)) n p0 p7 p8 b3:=by
 intro n
 induction n with
 | zero=>intros; rfl
 | succ n ih =>
  intro p0 p7 p8 b3
  refine (zfD L p0 p7 p8 b3 (fun σ=>xE (xj xx (yx L) 0 L xT) zak n σ K) K).trans ?_
  simp only [ih]
  rfl
def zaM {β:Type} (L:Nat) (p0:List (List V)) (p1:List V) (k_fin:Int→Option β):Option β :=
 zbZ L p0 p1 (fun p0 p7 p8 b3=>yU L (fun p4=>zct L p4 k_fin) (zcH L k_fin) L p0 p7 p8 b3)
theorem zg1 {β:Type} (L:Nat) (p0:List (List V)) (p1:List V) (k:KK β):zD xx (yx L) L yG [(V.sl 32 p0),(V.agg p1)] [] k=zaM L p0 p1 (fun p0=>k (V.sc (.int .i64 p0)) []):=by
 refine (zg5 L p0 p1 k).trans ?_
 unfold zaM
 first
  | (simp only [zcw,zeW,zff]; done)
  | (simp only [zcw]; rfl)
abbrev zaP:=∀ (β:Type),Nat→List (List V)→List V→(Int→Option β)→Option β
def xn (β:Type) (L:Nat) (p0:List (List V)) (p1:List V) (k_fin:Int→Option β):Option β:=zaM L p0 p1 k_fin
def zaQ (xn:zaP) (L:Nat) (β:Type) (args:List V) (bor:Bor) (k:KK β):Option β:=match args,bor with
 | [a0,a1],[]=>aL 32 a0 fun p0=>aG a1 fun p1=>xn β L p0 p1 (fun p0=>k (V.sc (.int .i64 p0)) [])
 | _,_=>none
theorem zha (L:Nat) (β:Type) (args:List V) (bor:Bor) (k:KK β) (r:β) (h:zaQ xn L β args bor k=some r):zD xx (yx L) L yG args bor k=some r:=by
 unfold zaQ at h
 split at h
 ·have q:=za5 h; clear h; obtain ⟨p0,rfl,h⟩:=q
  have q:=zb3 h; clear h; obtain ⟨p1,rfl,h⟩:=q
  exact (zg1 L p0 p1 k).trans h
 ·cases h
def zaj:CF:=⟨9,[.tmp 4],
 (.seq (.reg [oo 3 (.box true (tq 1)),
   oo 4 (.move (.const (.sc (.bool false))) false)])
 (.seq (.reg [oo 5 (.move (tq 0) false),
   oo 6 (.load true 32 (tq 3) false),
   oo 7 (.call 254 [((tq 5),2),((tq 6),2)] []),
   oo 8 (.bin .geq (tq 7) (.const (.sc (.int .i64 0)))),
   oo 4 (.move (tq 8) false)])
 .ret))⟩
def zcE:Hint:=⟨[(1,2)],[],[none],[],[],false,false⟩
def zbh:Nat→Sh:=z6 []
def zbj (xn:zaP) (L:Nat):CBC:=(xD 254 (zaQ xn L) noC)
def zbo {β:Type} (xn:zaP) (L:Nat) (p0:List (List V)) (p1:List V) (k_fin:Bool→Option β):Option β :=
 chk (0+32≤(List.length p1)) (
 xn β L p0 (List.take 32 p1) (fun v0 =>
 k_fin (decide (v0 ≥ (0:Int)))))
theorem zf8 {β:Type} (xn:zaP) (L:Nat) (p0:List (List V)) (p1:List V) (k:KK β):zD zbh (zbj xn L) L zaj [(V.sl 32 p0),(V.agg p1)] [] k=zbo xn L p0 p1 (fun p0=>k (V.sc (.bool p0)) []):=by kernel_rfl
abbrev zM:=∀ (β:Type),Nat→List (List V)→List V→(Bool→Option β)→Option β
def zh (β:Type) (L:Nat) (p0:List (List V)) (p1:List V) (k_fin:Bool→Option β):Option β:=zbo xn L p0 p1 k_fin
def xW (zh:zM) (L:Nat) (β:Type) (args:List V) (bor:Bor) (k:KK β):Option β:=match args,bor with
 | [a0,a1],[]=>aL 32 a0 fun p0=>aG a1 fun p1=>zh β L p0 p1 (fun p0=>k (V.sc (.bool p0)) [])
 | _,_=>none
theorem zf7 (L:Nat) (β:Type) (args:List V) (bor:Bor) (k:KK β) (r:β) (h:xW zh L β args bor k=some r):zD zbh (zbj xn L) L zaj args bor k=some r:=by
 unfold xW at h
 split at h
 ·have q:=za5 h; clear h; obtain ⟨p0,rfl,h⟩:=q
  have q:=zb3 h; clear h; obtain ⟨p1,rfl,h⟩:=q
  exact (zf8 xn L p0 p1 k).trans h
 ·cases h
def zhr:CF:=⟨45,[.tmp 4],
 (.seq (.reg [oo 2 (.box true (tq 0)),
   oo 4 (.move (.const (.sc (.int .i64 0))) false)])
 (.seq (.seq (.reg [oo 6 (.fieldAddr 2 (tq 2)),
   oo 7 (.load false 1 (tq 6) false),
   oo 8 (.lenS (tq 7)),
   oo 9 (.bin .eql (tq 8) (.const (.sc (.int .i64 0))))])
 (.cond (tq 9)
 (.seq (.reg [oo 4 (.move (.const (.sc (.int .i64 (-1)))) false)])
 .ret)
 .skip))
 (.seq (.reg [oo 5 (.move (.const (.sc (.int .i64 0))) false)])
 (.seq (.seq (.reg [oo 10 (.fieldAddr 2 (tq 2)),
   oo 11 (.load false 1 (tq 10) false),
   oo 12 (.lenS (tq 11)),
   oo 13 (.bin .gtr (tq 12) (.const (.sc (.int .i64 1)))),
   oo 14 (.move (tq 13) false),
   ⟨(some 15),false,(some (14,true)),.move (tq 1) false⟩,
   ⟨(some 16),false,(some (14,true)),.bin .neq (tq 15) (.const (.sc (.int .i64 (-1))))⟩,
   oo 17 (.pick (tq 14) (tq 16) (.const (.sc (.bool false)))),
   oo 18 (.move (tq 17) false),
   ⟨(some 19),false,(some (18,true)),.move (tq 1) false⟩,
   ⟨(some 20),false,(some (18,true)),.bin .rem (tq 19) (.const (.sc (.int .i64 2)))⟩,
   ⟨(some 21),false,(some (18,true)),.bin .neq (tq 20) (.const (.sc (.int .i64 0)))⟩,
   oo 22 (.pick (tq 18) (tq 21) (.const (.sc (.bool false))))])
 (.cond (tq 22)
 (.reg [oo 5 (.move (.const (.sc (.int .i64 1))) false)])
 .skip))
 (.seq (.seq (.reg [oo 23 (.fieldAddr 2 (tq 2)),
   oo 24 (.load false 1 (tq 23) false),
   oo 25 (.move (tq 5) false),
   oo 26 (.indexAddrS 1 (tq 24) (tq 25)),
   oo 27 (.load false 1 (tq 26) false),
   oo 28 (.move (tq 1) false),
   oo 29 (.bin .neq (tq 27) (tq 28))])
 (.cond (tq 29)
 (.seq (.reg [oo 30 (.fieldAddr 2 (tq 2)),
   oo 31 (.load false 1 (tq 30) false),
   oo 32 (.move (tq 5) false),
   oo 33 (.indexAddrS 1 (tq 31) (tq 32)),
   oo 34 (.load false 1 (tq 33) false),
   oo 4 (.move (tq 34) false)])
 .ret)
 .skip))
 (.seq (.seq (.reg [oo 35 (.fieldAddr 2 (tq 2)),
   oo 36 (.load false 1 (tq 35) false),
   oo 37 (.lenS (tq 36)),
   oo 38 (.bin .gtr (tq 37) (.const (.sc (.int .i64 1))))])
 (.cond (tq 38)
 (.seq (.reg [oo 39 (.fieldAddr 2 (tq 2)),
   oo 40 (.load false 1 (tq 39) false),
   oo 41 (.move (tq 5) false),
   oo 42 (.bin .sub (.const (.sc (.int .i64 1))) (tq 41)),
   oo 43 (.indexAddrS 1 (tq 40) (tq 42)),
   oo 44 (.load false 1 (tq 43) false),
   oo 4 (.move (tq 44) false)])
 .ret)
 .skip))
 (.seq (.reg [oo 4 (.move (.const (.sc (.int .i64 (-1)))) false)])
 .ret)))))))⟩
def zmS:Hint:=⟨[(0,0)],[],[none,none,none,none,none,none,none,none],[],[],false,false⟩
def zkF:Nat→Sh:=z6 [(7,(.sl 1)),(11,(.sl 1)),(24,(.sl 1)),(27,(.int .i64)),(31,(.sl 1)),(34,(.int .i64)),(36,(.sl 1)),(40,(.sl 1)),(44,(.int .i64))]
def zks (L:Nat):CBC:=noC
def zln {β:Type} (L:Nat) (p0:List V) (p1:Int) (k_fin:Int→Option β):Option β :=
 cLd 1 p0 2 fun v0 =>
 ifb ((((List.length v0:Nat):Int):Int) == (0:Int)) (
 k_fin (-1:Int)) (
 cLd 1 p0 2 fun v1 =>
 ifb (decide (((List.length v1:Nat):Int) > (1:Int))) (
 ifb ((p1:Int) != (-1:Int)) (
 lt (Int.tmod p1 (2:Int)) fun x2 =>
 ifb ((x2:Int) != (0:Int)) (
 cLd 1 p0 2 fun v3 =>
 idx v3 (1:Int) fun c4 =>
 cI .i64 c4 0 fun v5 =>
 ifb ((v5:Int) != p1) (
 cLd 1 p0 2 fun v6 =>
 idx v6 (1:Int) fun c7 =>
 cI .i64 c7 0 fun v8 =>
 k_fin v8) (
 cLd 1 p0 2 fun v9 =>
 ifb (decide (((List.length v9:Nat):Int) > (1:Int))) (
 cLd 1 p0 2 fun v10 =>
 lt (IntKind.wrap .i64 (((1:Int):Int) - (1:Int))) fun x11 =>
 idx v10 x11 fun c12 =>
 cI .i64 c12 0 fun v13 =>
 k_fin v13) (
 k_fin (-1:Int)))) (
 cLd 1 p0 2 fun v14 =>
 idx v14 (0:Int) fun c15 =>
 cI .i64 c15 0 fun v16 =>
 ifb ((v16:Int) != p1) (
 cLd 1 p0 2 fun v17 =>
 idx v17 (0:Int) fun c18 =>
 cI .i64 c18 0 fun v19 =>
 k_fin v19) (
 cLd 1 p0 2 fun v20 =>
 ifb (decide (((List.length v20:Nat):Int) > (1:Int))) (
 cLd 1 p0 2 fun v21 =>
 lt (IntKind.wrap .i64 (((1:Int):Int) - (0:Int))) fun x22 =>
 idx v21 x22 fun c23 =>
 cI .i64 c23 0 fun v24 =>
 k_fin v24) (
 k_fin (-1:Int))))) (
 cLd 1 p0 2 fun v25 =>
 idx v25 (0:Int) fun c26 =>
 cI .i64 c26 0 fun v27 =>
 ifb ((v27:Int) != p1) (
 cLd 1 p0 2 fun v28 =>
 idx v28 (0:Int) fun c29 =>
 cI .i64 c29 0 fun v30 =>
 k_fin v30) (
 cLd 1 p0 2 fun v31 =>
 ifb (decide (((List.length v31:Nat):Int) > (1:Int))) (
 cLd 1 p0 2 fun v32 =>
 lt (IntKind.wrap .i64 (((1:Int):Int) - (0:Int))) fun x33 =>
 idx v32 x33 fun c34 =>
 cI .i64 c34 0 fun v35 =>
 k_fin v35) (
 k_fin (-1:Int))))) (
 cLd 1 p0 2 fun v36 =>
 idx v36 (0:Int) fun c37 =>
 cI .i64 c37 0 fun v38 =>
 ifb ((v38:Int) != p1) (
 cLd 1 p0 2 fun v39 =>
 idx v39 (0:Int) fun c40 =>
 cI .i64 c40 0 fun v41 =>
 k_fin v41) (
 cLd 1 p0 2 fun v42 =>
 ifb (decide (((List.length v42:Nat):Int) > (1:Int))) (
 cLd 1 p0 2 fun v43 =>
 lt (IntKind.wrap .i64 (((1:Int):Int) - (0:Int))) fun x44 =>
 idx v43 x44 fun c45 =>
 cI .i64 c45 0 fun v46 =>
 k_fin v46) (
 k_fin (-1:Int)))))
theorem zrz {β:Type} (L:Nat) (p0:List V) (p1:Int) (k:KK β):zD zkF (zks L) L zhr [(V.agg p0),(V.sc (.int .i64 p1))] [] k=zln L p0 p1 (fun p0=>k (V.sc (.int .i64 p0)) []):=by kernel_rfl
abbrev zir:=∀ (β:Type),Nat→List V→Int→(Int→Option β)→Option β
def xP (β:Type) (L:Nat) (p0:List V) (p1:Int) (k_fin:Int→Option β):Option β:=zln L p0 p1 k_fin
def zik (xP:zir) (L:Nat) (β:Type) (args:List V) (bor:Bor) (k:KK β):Option β:=match args,bor with
 | [a0,a1],[]=>aG a0 fun p0=>aI .i64 a1 fun p1=>xP β L p0 p1 (fun p0=>k (V.sc (.int .i64 p0)) [])
 | _,_=>none
theorem zrD (L:Nat) (β:Type) (args:List V) (bor:Bor) (k:KK β) (r:β) (h:zik xP L β args bor k=some r):zD zkF (zks L) L zhr args bor k=some r:=by
 unfold zik at h
 split at h
 ·have q:=zb3 h; clear h; obtain ⟨p0,rfl,h⟩:=q
  have q:=zar h; clear h; obtain ⟨p1,rfl,h⟩:=q
  exact (zrz L p0 p1 k).trans h
 ·cases h
def zcr:CF:=⟨8,[.tmp 2],
 (.seq (.reg [oo 2 (.move (.const (.gs 1 [])) true)])
 (.fork (.reg [oo 3 (.move (tq 0) false),
   oo 4 (.nilT false (tq 3))])
 (tq 4)
 (.seq (.reg [oo 2 (.nilS 1 7)])
 (.seq (.mask (bl 4 8) (bl 128 8))
 .ret))
 (.seq (.reg [⟨(some 5),true,none,.buildSlice 1 0 [(.sc (.int .i64 0))] []⟩,
   oo 6 (.move (tq 0) false),
   ⟨(some 7),true,none,.append 1 8 (tq 5) (tq 6)⟩,
   oo 2 (.move (tq 7) true)])
 (.seq (.mask (bl 4 8) (bl 128 8))
 .ret))))⟩
def zf9:Hint:=⟨[(0,0),(2,0),(3,3)],[(3,0),(3,2)],[none,some ((bl 4 8),(bl 128 8)),some ((bl 4 8),(bl 128 8))],[],[(2,0,[7])],false,false⟩
def zd0:Nat→Sh:=z6 []
def zd9 (L:Nat):CBC:=noC
def zeo {β:Type} (L:Nat) (p0:List (List V)) (k_fin:List (List V)→Option β):Option β :=
 lc p0 (
 k_fin ([]:List (List V))) (fun h0 t0 =>
 chk ((0+List.length (h0::t0)) * 8≤xh∧0+List.length (h0::t0)≤xh) (
 chk ((List.length (h0::t0))≠0∨(List.length (List.flatten (h0::t0)))=0) (
 k_fin (zc 1 (List.length (h0::t0)) (List.flatten (h0::t0))))))
theorem zlH {β:Type} (L:Nat) (p0:List (List V)) (k:KK β):zD zd0 (zd9 L) L zcr [(V.sl 1 p0)] [] k=zeo L p0 (fun p0=>k (V.fr 1 p0) []):=by kernel_rfl
abbrev zcO:=∀ (β:Type),Nat→List (List V)→(List (List V)→Option β)→Option β
def yw (β:Type) (L:Nat) (p0:List (List V)) (k_fin:List (List V)→Option β):Option β:=zeo L p0 k_fin
def zcS (yw:zcO) (L:Nat) (β:Type) (args:List V) (bor:Bor) (k:KK β):Option β:=match args,bor with
 | [a0],[]=>aL 1 a0 fun p0=>yw β L p0 (fun p0=>k (V.fr 1 p0) [])
 | _,_=>none
theorem zlI (L:Nat) (β:Type) (args:List V) (bor:Bor) (k:KK β) (r:β) (h:zcS yw L β args bor k=some r):zD zd0 (zd9 L) L zcr args bor k=some r:=by
 unfold zcS at h
 split at h
 ·have q:=za5 h; clear h; obtain ⟨p0,rfl,h⟩:=q
  exact (zlH L p0 k).trans h
 ·cases h
def zaD:CF:=⟨8,[.tmp 2],
 (.seq (.reg [oo 2 (.move (.const (.gs 35 [])) true)])
 (.fork (.reg [oo 3 (.move (tq 0) false),
   oo 4 (.nilT false (tq 3))])
 (tq 4)
 (.seq (.reg [oo 2 (.nilS 35 7)])
 (.seq (.mask (bl 4 8) (bl 128 8))
 .ret))
 (.seq (.reg [⟨(some 5),true,none,.buildSlice 35 0 (rp 32 (.sc (.int .u8 0)) (rp 2 (.sc (.int .i64 0)) (rp 1 (.sc (.int .u32 0)) []))) []⟩,
   oo 6 (.move (tq 0) false),
   ⟨(some 7),true,none,.append 35 56 (tq 5) (tq 6)⟩,
   oo 2 (.move (tq 7) true)])
 (.seq (.mask (bl 4 8) (bl 128 8))
 .ret))))⟩
def zdd:Hint:=⟨[(0,0),(2,0),(3,3)],[(3,0),(3,2)],[none,some ((bl 4 8),(bl 128 8)),some ((bl 4 8),(bl 128 8))],[],[(2,0,[7])],false,false⟩
def zbM:Nat→Sh:=z6 []
def zbJ (L:Nat):CBC:=noC
def zbU {β:Type} (L:Nat) (p0:List (List V)) (k_fin:List (List V)→Option β):Option β :=
 lc p0 (
 k_fin ([]:List (List V))) (fun h0 t0 =>
 chk ((0+List.length (h0::t0)) * 56≤xh∧0+List.length (h0::t0)≤xh) (
 chk ((List.length (h0::t0))≠0∨(List.length (List.flatten (h0::t0)))=0) (
 k_fin (zc 35 (List.length (h0::t0)) (List.flatten (h0::t0))))))
theorem zg6 {β:Type} (L:Nat) (p0:List (List V)) (k:KK β):zD zbM (zbJ L) L zaD [(V.sl 35 p0)] [] k=zbU L p0 (fun p0=>k (V.fr 35 p0) []):=by kernel_rfl
abbrev zaO:=∀ (β:Type),Nat→List (List V)→(List (List V)→Option β)→Option β
def zm (β:Type) (L:Nat) (p0:List (List V)) (k_fin:List (List V)→Option β):Option β:=zbU L p0 k_fin
def zaU (zm:zaO) (L:Nat) (β:Type) (args:List V) (bor:Bor) (k:KK β):Option β:=match args,bor with
 | [a0],[]=>aL 35 a0 fun p0=>zm β L p0 (fun p0=>k (V.fr 35 p0) [])
 | _,_=>none
theorem zhc (L:Nat) (β:Type) (args:List V) (bor:Bor) (k:KK β) (r:β) (h:zaU zm L β args bor k=some r):zD zbM (zbJ L) L zaD args bor k=some r:=by
 unfold zaU at h
 split at h
 ·have q:=za5 h; clear h; obtain ⟨p0,rfl,h⟩:=q
  exact (zg6 L p0 k).trans h
 ·cases h
def zaC:CF:=⟨8,[.tmp 2],
 (.seq (.reg [oo 2 (.move (.const (.gs 32 [])) true)])
 (.fork (.reg [oo 3 (.move (tq 0) false),
   oo 4 (.nilT false (tq 3))])
 (tq 4)
 (.seq (.reg [oo 2 (.nilS 32 7)])
 (.seq (.mask (bl 4 8) (bl 128 8))
 .ret))
 (.seq (.reg [⟨(some 5),true,none,.buildSlice 32 0 (rp 32 (.sc (.int .u8 0)) []) []⟩,
   oo 6 (.move (tq 0) false),
   ⟨(some 7),true,none,.append 32 32 (tq 5) (tq 6)⟩,
   oo 2 (.move (tq 7) true)])
 (.seq (.mask (bl 4 8) (bl 128 8))
 .ret))))⟩
def zdh:Hint:=⟨[(0,0),(2,0),(3,3)],[(3,0),(3,2)],[none,some ((bl 4 8),(bl 128 8)),some ((bl 4 8),(bl 128 8))],[],[(2,0,[7])],false,false⟩
def zbH:Nat→Sh:=z6 []
def zbI (L:Nat):CBC:=noC
def zb1 {β:Type} (L:Nat) (p0:List (List V)) (k_fin:List (List V)→Option β):Option β :=
 lc p0 (
 k_fin ([]:List (List V))) (fun h0 t0 =>
 chk ((0+List.length (h0::t0)) * 32≤xh∧0+List.length (h0::t0)≤xh) (
 chk ((List.length (h0::t0))≠0∨(List.length (List.flatten (h0::t0)))=0) (
 k_fin (zc 32 (List.length (h0::t0)) (List.flatten (h0::t0))))))
theorem zgL {β:Type} (L:Nat) (p0:List (List V)) (k:KK β):zD zbH (zbI L) L zaC [(V.sl 32 p0)] [] k=zb1 L p0 (fun p0=>k (V.fr 32 p0) []):=by kernel_rfl
abbrev zaS:=∀ (β:Type),Nat→List (List V)→(List (List V)→Option β)→Option β
def ym (β:Type) (L:Nat) (p0:List (List V)) (k_fin:List (List V)→Option β):Option β:=zb1 L p0 k_fin
def zaT (ym:zaS) (L:Nat) (β:Type) (args:List V) (bor:Bor) (k:KK β):Option β:=match args,bor with
 | [a0],[]=>aL 32 a0 fun p0=>ym β L p0 (fun p0=>k (V.fr 32 p0) [])
 | _,_=>none
theorem zg8 (L:Nat) (β:Type) (args:List V) (bor:Bor) (k:KK β) (r:β) (h:zaT ym L β args bor k=some r):zD zbH (zbI L) L zaC args bor k=some r:=by
 unfold zaT at h
 split at h
 ·have q:=za5 h; clear h; obtain ⟨p0,rfl,h⟩:=q
  exact (zgL L p0 k).trans h
 ·cases h
def zgo:CF:=⟨16,[.cellS 2 5 false],
 (.seq (.reg [oo 1 (.box false (tq 0)),
   oo 2 (.alloc false [(.sc (.int .u32 0)),(.sc (.bool false)),(.gs 1 []),(.gs 35 []),(.gs 32 [])])])
 (.seq (.reg [oo 3 (.fieldAddr 2 (tq 1)),
   oo 4 (.load false 1 (tq 3) false),
   ⟨(some 5),true,none,.call 360 [((tq 4),0)] []⟩,
   oo 6 (.fieldAddr 2 (tq 1)),
   oz (.store 1 (tq 6) (tq 5))])
 (.seq (.reg [oo 7 (.fieldAddr 3 (tq 1)),
   oo 8 (.load false 1 (tq 7) false),
   ⟨(some 9),true,none,.call 370 [((tq 8),0)] []⟩,
   oo 10 (.fieldAddr 3 (tq 1)),
   oz (.store 1 (tq 10) (tq 9))])
 (.seq (.reg [oo 11 (.fieldAddr 4 (tq 1)),
   oo 12 (.load false 1 (tq 11) false),
   ⟨(some 13),true,none,.call 371 [((tq 12),0)] []⟩,
   oo 14 (.fieldAddr 4 (tq 1)),
   oz (.store 1 (tq 14) (tq 13))])
 (.seq (.reg [oo 15 (.load true 5 (tq 1) true),
   oz (.store 5 (tq 2) (tq 15))])
 .ret)))))⟩
def zlP:Hint:=⟨[(4,0)],[(1,2),(2,2),(3,2)],[none],[],[],false,true⟩
def zjN:Nat→Sh:=z6 [(1,(.row [(.int .u32),.bool,(.sl 1),(.sl 35),(.sl 32)]))]
def zjG (yw:zcO) (zm:zaO) (ym:zaS) (L:Nat):CBC:=(xD 371 (zaT ym L) (xD 370 (zaU zm L) (xD 360 (zcS yw L) noC)))
abbrev zlT (β:Type):Type:=Int→Bool→Nat→Nat→Nat→List V→List V→List V→Option β
def zky {β:Type} (yw:zcO) (zm:zaO) (ym:zaS) (L:Nat) (p0:List V) (k_fin:zlT β):Option β :=
 chk (List.length p0=5) (
 cI .u32 p0 0 fun v0 =>
 cB p0 1 fun v1 =>
 cL 1 p0 2 fun v2 =>
 cL 35 p0 3 fun v3 =>
 cL 32 p0 4 fun v4 =>
 yw β L v2 (fun v5 =>
 zm β L v3 (fun v6 =>
 ym β L v4 (fun v7 =>
 k_fin v0 v1 (List.length v5) (List.length v6) (List.length v7) (List.flatten v5) (List.flatten v6) (List.flatten v7)))))
theorem zqO {β:Type} (yw:zcO) (zm:zaO) (ym:zaS) (L:Nat) (p0:List V) (k:KK β):zD zjN (zjG yw zm ym L) L zgo [(V.agg p0)] [] k=zky yw zm ym L p0 (fun zBO zBP zBX zBW zBY b0 b1 b2=>k (V.st [(V.sc (.int .u32 zBO)),(V.sc (.bool zBP)),(V.own 0 0 zBX 1),(V.own 1 0 zBW 35),(V.own 2 0 zBY 32)]) [(.live true b0),(.live true b1),(.live true b2)]):=by kernel_rfl
abbrev zcf:=∀ (β:Type),Nat→List V→(Int→Bool→Nat→Nat→Nat→List V→List V→List V→Option β)→Option β
def zu (β:Type) (L:Nat) (p0:List V) (k_fin:zlT β):Option β:=zky yw zm ym L p0 k_fin
def zdW (zu:zcf) (L:Nat) (β:Type) (args:List V) (bor:Bor) (k:KK β):Option β:=match args,bor with
 | [a0],[]=>aG a0 fun p0=>zu β L p0 (fun zBO zBP zBX zBW zBY b0 b1 b2=>k (V.st [(V.sc (.int .u32 zBO)),(V.sc (.bool zBP)),(V.own 0 0 zBX 1),(V.own 1 0 zBW 35),(V.own 2 0 zBY 32)]) [(.live true b0),(.live true b1),(.live true b2)])
 | _,_=>none
theorem zqV (L:Nat) (β:Type) (args:List V) (bor:Bor) (k:KK β) (r:β) (h:zdW zu L β args bor k=some r):zD zjN (zjG yw zm ym L) L zgo args bor k=some r:=by
 unfold zdW at h
 split at h
 ·have q:=zb3 h; clear h; obtain ⟨p0,rfl,h⟩:=q
  exact (zqO yw zm ym L p0 k).trans h
 ·cases h
def zhA:CF:=⟨12,[.tmp 4],
 (.seq (.reg [oo 4 (.move (.const (.sc (.int .u32 0))) false)])
 (.seq (.seq (.reg [oo 5 (.move (tq 1) false),
   oo 6 (.move (tq 0) false),
   oo 7 (.un .xor (tq 6)),
   oo 8 (.bin .gtr (tq 5) (tq 7))])
 (.cond (tq 8)
 (.seq (.reg [oo 4 (.move (.const (.sc (.int .u32 4294967295))) false)])
 .ret)
 .skip))
 (.seq (.reg [oo 9 (.move (tq 0) false),
   oo 10 (.move (tq 1) false),
   oo 11 (.bin .add (tq 9) (tq 10)),
   oo 4 (.move (tq 11) false)])
 .ret)))⟩
def zmQ:Hint:=⟨[],[],[none,none,none],[],[],false,false⟩
def zkD:Nat→Sh:=z6 []
def zkE (L:Nat):CBC:=noC
def zlu {β:Type} (L:Nat) (p0 p1:Int) (k_fin:Int→Option β):Option β :=
 lt (zxa .u32 p0) fun x0 =>
 ifb (decide (p1 > x0)) (
 k_fin (4294967295:Int)) (
 lt (IntKind.wrap .u32 ((p0:Int)+p1)) fun x1 =>
 k_fin x1)
theorem zrw {β:Type} (L:Nat) (p0 p1:Int) (k:KK β):zD zkD (zkE L) L zhA [(V.sc (.int .u32 p0)),(V.sc (.int .u32 p1))] [] k=zlu L p0 p1 (fun p0=>k (V.sc (.int .u32 p0)) []):=by kernel_rfl
abbrev zim:=∀ (β:Type),Nat→Int→Int→(Int→Option β)→Option β
def zK (β:Type) (L:Nat) (p0 p1:Int) (k_fin:Int→Option β):Option β:=zlu L p0 p1 k_fin
def zip (zK:zim) (L:Nat) (β:Type) (args:List V) (bor:Bor) (k:KK β):Option β:=match args,bor with
 | [a0,a1],[]=>aI .u32 a0 fun p0=>aI .u32 a1 fun p1=>zK β L p0 p1 (fun p0=>k (V.sc (.int .u32 p0)) [])
 | _,_=>none
theorem zr0 (L:Nat) (β:Type) (args:List V) (bor:Bor) (k:KK β) (r:β) (h:zip zK L β args bor k=some r):zD zkD (zkE L) L zhA args bor k=some r:=by
 unfold zip at h
 split at h
 ·have q:=zar h; clear h; obtain ⟨p0,rfl,h⟩:=q
  have q:=zar h; clear h; obtain ⟨p1,rfl,h⟩:=q
  exact (zrw L p0 p1 k).trans h
 ·cases h
def zin:CF:=⟨69,[.cellS 10 5 true,.tmpP 11,.tmpP 12],
 (.seq (.reg [oo 5 (.box false (tq 0)),
   oo 7 (.box true (tq 2)),
   oo 10 (.alloc false [(.sc (.int .u32 0)),(.sc (.bool false)),(.gs 1 []),(.gs 35 []),(.gs 32 [])]),
   oo 11 (.move (.const (.sc (.int .i64 0))) false),
   oo 12 (.move (.const (.sc (.int .i64 0))) false)])
 (.seq (.seq (.reg [oo 14 (.load true 5 (tq 5) false),
   oo 15 (.call 356 [((tq 14),1)] []),
   oo 16 (.un .not (tq 15)),
   oo 17 (.move (tq 16) false),
   ⟨(some 18),false,(some (17,false)),.move (tq 1) false⟩,
   ⟨(some 19),false,(some (17,false)),.bin .lss (tq 18) (.const (.sc (.int .i64 (-1))))⟩,
   oo 20 (.pick (tq 17) (.const (.sc (.bool true))) (tq 19))])
 (.cond (tq 20)
 (.seq (.reg [oo 21 (.build [(.sc (.int .u32 0)),(.sc (.bool false)),(.sl 1 []),(.sl 35 []),(.sl 32 [])] []),
   oz (.store 5 (tq 10) (tq 21)),
   oo 11 (.move (.const (.sc (.int .i64 0))) false),
   oo 12 (.move (.const (.sc (.int .i64 6))) false)])
 .ret)
 .skip))
 (.seq (.seq (.reg [oo 22 (.load true 5 (tq 5) true),
   oo 23 (.load true 32 (tq 7) false),
   oo 24 (.call 363 [((tq 22),3),((tq 23),2)] []),
   oo 25 (.bin .geq (tq 24) (.const (.sc (.int .i64 0)))),
   oo 26 (.move (tq 25) false),
   ⟨(some 27),false,(some (26,false)),.fieldAddr 4 (tq 5)⟩,
   ⟨(some 28),false,(some (26,false)),.load false 1 (tq 27) false⟩,
   ⟨(some 29),false,(some (26,false)),.load true 32 (tq 7) false⟩,
   ⟨(some 30),false,(some (26,false)),.call 248 [((tq 28),2),((tq 29),2)] []⟩,
   oo 31 (.pick (tq 26) (.const (.sc (.bool true))) (tq 30))])
 (.cond (tq 31)
 (.seq (.reg [oo 32 (.build [(.sc (.int .u32 0)),(.sc (.bool false)),(.sl 1 []),(.sl 35 []),(.sl 32 [])] []),
   oz (.store 5 (tq 10) (tq 32)),
   oo 11 (.move (.const (.sc (.int .i64 0))) false),
   oo 12 (.move (.const (.sc (.int .i64 150))) false)])
 .ret)
 .skip))
 (.seq (.reg [oo 33 (.load true 5 (tq 5) false),
   oo 34 (.move (tq 1) false),
   oo 35 (.call 344 [((tq 33),1),((tq 34),0)] []),
   oo 13 (.move (tq 35) false)])
 (.seq (.seq (.reg [oo 36 (.fieldAddr 1 (tq 5)),
   oo 37 (.load false 1 (tq 36) false),
   oo 38 (.move (tq 37) false),
   ⟨(some 39),false,(some (38,true)),.move (tq 1) false⟩,
   ⟨(some 40),false,(some (38,true)),.bin .neq (tq 39) (.const (.sc (.int .i64 (-1))))⟩,
   oo 41 (.pick (tq 38) (tq 40) (.const (.sc (.bool false))))])
 (.cond (tq 41)
 (.reg [oo 13 (.move (.const (.sc (.int .i64 (-1)))) false)])
 .skip))
 (.seq (.seq (.reg [oo 42 (.move (tq 13) false),
   oo 43 (.bin .neq (tq 42) (.const (.sc (.int .i64 (-1))))),
   oo 44 (.move (tq 43) false),
   ⟨(some 45),false,(some (44,true)),.fieldAddr 3 (tq 5)⟩,
   ⟨(some 46),false,(some (44,true)),.load false 1 (tq 45) false⟩,
   ⟨(some 47),false,(some (44,true)),.lenS (tq 46)⟩,
   ⟨(some 48),false,(some (44,true)),.bin .geq (tq 47) (.const (.sc (.int .i64 64)))⟩,
   oo 49 (.pick (tq 44) (tq 48) (.const (.sc (.bool false))))])
 (.cond (tq 49)
 (.seq (.reg [oo 50 (.build [(.sc (.int .u32 0)),(.sc (.bool false)),(.sl 1 []),(.sl 35 []),(.sl 32 [])] []),
   oz (.store 5 (tq 10) (tq 50)),
   oo 11 (.move (.const (.sc (.int .i64 0))) false),
   oo 12 (.move (.const (.sc (.int .i64 380))) false)])
 .ret)
 .skip))
 (.seq (.reg [oo 51 (.load true 5 (tq 5) false),
   oo 52 (.call 358 [((tq 51),1)] [16,19,25]),
   oz (.store 5 (tq 5) (tq 52))])
 (.seq (.seq (.reg [oo 53 (.move (tq 13) false),
   oo 54 (.bin .neq (tq 53) (.const (.sc (.int .i64 (-1)))))])
 (.cond (tq 54)
 (.dreg [] [(oo 55 (.fieldAddr 3 (tq 5)),q0),
   (oo 56 (.load false 1 (tq 55) true),ql 5 [7] [64]),
   (oo 57 (.load true 32 (tq 7) false),ql 7 [5] []),
   (oo 58 (.move (tq 1) false),q0),
   (oo 59 (.move (tq 13) false),q0),
   (oo 60 (.move (tq 3) false),q0),
   (oo 61 (.move (tq 4) false),q0),
   (oo 62 (.call 359 [((tq 60),0),((tq 61),0)] []),qc [5,7] []),
   (oo 63 (.build (rp 32 (.sc (.int .u8 0)) (rp 2 (.sc (.int .i64 0)) (rp 1 (.sc (.int .u32 0)) []))) [(0,32,(tq 57)),(32,1,(tq 58)),(33,1,(tq 59)),(34,1,(tq 62))]),q0),
   (oo 64 (.buildSlice 35 1 (rp 32 (.sc (.int .u8 0)) (rp 2 (.sc (.int .i64 0)) (rp 1 (.sc (.int .u32 0)) []))) [(0,35,(tq 63))]),qn [5] []),
   (oo 65 (.append 35 56 (tq 56) (tq 64)),q0),
   (oo 66 (.fieldAddr 3 (tq 5)),q0),
   (oz (.store 1 (tq 66) (tq 65)),q0)])
 .skip))
 (.seq (.reg [oo 67 (.load true 5 (tq 5) true),
   oo 68 (.move (tq 13) false),
   oz (.store 5 (tq 10) (tq 67)),
   oo 11 (.move (tq 68) false),
   oo 12 (.move (.const (.sc (.int .i64 0))) false)])
 .ret)))))))))⟩
def znd:Hint:=⟨[(3,0),(3,2),(3,8),(12,1),(13,0)],[],[none,none,none,none,none,none,none,none,none],[],[(10,1,[16,19,25])],true,true⟩
def zlv:Nat→Sh:=z6 [(5,(.row [(.int .u32),.bool,(.sl 1),(.sl 35),(.sl 32)]))]
def zlM (zB:zcD) (zW:zjj) (zh:zM) (xP:zir) (zu:zcf) (zK:zim) (L:Nat):CBC:=(xD 359 (zip zK L) (xD 358 (zdW zu L) (xD 344 (zik xP L) (xD 248 (xW zh L) (xD 363 (zjZ zW L) (xD 356 (zev zB L) noC))))))
def zmy {β:Type} (zB:zcD) (zW:zjj) (zh:zM) (xP:zir) (zu:zcf) (zK:zim) (L:Nat) (p0:List V) (p1:Int) (p2:List V) (p3 p4:Int) (k_fin:List V→Int→Int→Option β):Option β :=
 chk (List.length p0=5) (
 cI .u32 p0 0 fun v0 =>
 cB p0 1 fun v1 =>
 cL 1 p0 2 fun v2 =>
 cL 35 p0 3 fun v3 =>
 cL 32 p0 4 fun v4 =>
 zB β L [(V.sc (.int .u32 v0)),(V.sc (.bool v1)),(V.sl 1 v2),(V.sl 35 v3),(V.sl 32 v4)] (fun v5 =>
 ifb (!v5) (
 k_fin [(V.sc (.int .u32 (0:Int))),(V.sc (.bool false)),(V.sl 1 ([]:List (List V))),(V.sl 35 ([]:List (List V))),(V.sl 32 ([]:List (List V)))] (0:Int) (6:Int)) (
 ifb (decide (p1 < (-1:Int))) (
 k_fin [(V.sc (.int .u32 (0:Int))),(V.sc (.bool false)),(V.sl 1 ([]:List (List V))),(V.sl 35 ([]:List (List V))),(V.sl 32 ([]:List (List V)))] (0:Int) (6:Int)) (
 chk (0+32≤(List.length p2)) (
 zW β L v0 v1 v2 v3 v4 (List.take 32 p2) (fun v6 =>
 ifb (decide (v6 ≥ (0:Int))) (
 k_fin [(V.sc (.int .u32 (0:Int))),(V.sc (.bool false)),(V.sl 1 ([]:List (List V))),(V.sl 35 ([]:List (List V))),(V.sl 32 ([]:List (List V)))] (0:Int) (150:Int)) (
 chk (0+32≤(List.length p2)) (
 zh β L v4 (List.take 32 p2) (fun v7 =>
 ifb v7 (
 k_fin [(V.sc (.int .u32 (0:Int))),(V.sc (.bool false)),(V.sl 1 ([]:List (List V))),(V.sl 35 ([]:List (List V))),(V.sl 32 ([]:List (List V)))] (0:Int) (150:Int)) (
 xP β L [(V.sc (.int .u32 v0)),(V.sc (.bool v1)),(V.sl 1 v2),(V.sl 35 v3),(V.sl 32 v4)] p1 (fun v8 =>
 ifb v1 (
 ifb ((p1:Int) != (-1:Int)) (
 zu β L [(V.sc (.int .u32 v0)),(V.sc (.bool v1)),(V.sl 1 v2),(V.sl 35 v3),(V.sl 32 v4)] (fun v9 v10 v11 v12 v13 v14 v15 v16 =>
 k_fin [(V.sc (.int .u32 v9)),(V.sc (.bool v10)),(V.sl 1 (zc 1 v11 v14)),(V.sl 35 (zc 35 v12 v15)),(V.sl 32 (zc 32 v13 v16))] (-1:Int) (0:Int))) (
 ifb ((v8:Int) != (-1:Int)) (
 ifb (decide (((List.length v3:Nat):Int) ≥ (64:Int))) (
 k_fin [(V.sc (.int .u32 (0:Int))),(V.sc (.bool false)),(V.sl 1 ([]:List (List V))),(V.sl 35 ([]:List (List V))),(V.sl 32 ([]:List (List V)))] (0:Int) (380:Int)) (
 zu β L [(V.sc (.int .u32 v0)),(V.sc (.bool v1)),(V.sl 1 v2),(V.sl 35 v3),(V.sl 32 v4)] (fun v17 v18 v19 v20 v21 v22 v23 v24 =>
 ifb ((v8:Int) != (-1:Int)) (
 chk (0+32≤(List.length p2)) (
 zK β L p3 p4 (fun v25 =>
 chk ((List.length (List.take 32 p2))=32∧0+32≤35) (
 chk (1=1∧32+1≤(List.length (za (List.replicate 32 (V.sc (.int .u8 (0:Int)))++[(V.sc (.int .i64 (0:Int))),(V.sc (.int .i64 (0:Int))),(V.sc (.int .u32 (0:Int)))]) 0 (List.take 32 p2)))) (
 chk (1=1∧33+1≤(List.length (za (za (List.replicate 32 (V.sc (.int .u8 (0:Int)))++[(V.sc (.int .i64 (0:Int))),(V.sc (.int .i64 (0:Int))),(V.sc (.int .u32 (0:Int)))]) 0 (List.take 32 p2)) 32 [(V.sc (.int .i64 p1))]))) (
 chk (1=1∧34+1≤(List.length (za (za (za (List.replicate 32 (V.sc (.int .u8 (0:Int)))++[(V.sc (.int .i64 (0:Int))),(V.sc (.int .i64 (0:Int))),(V.sc (.int .u32 (0:Int)))]) 0 (List.take 32 p2)) 32 [(V.sc (.int .i64 p1))]) 33 [(V.sc (.int .i64 v8))]))) (
 chk ((List.length (za (za (za (za (List.replicate 32 (V.sc (.int .u8 (0:Int)))++[(V.sc (.int .i64 (0:Int))),(V.sc (.int .i64 (0:Int))),(V.sc (.int .u32 (0:Int)))]) 0 (List.take 32 p2)) 32 [(V.sc (.int .i64 p1))]) 33 [(V.sc (.int .i64 v8))]) 34 [(V.sc (.int .u32 v25))]))=35∧0+35≤35) (
 chk ((v20+List.length (zc 35 1 (za (List.replicate 32 (V.sc (.int .u8 (0:Int)))++[(V.sc (.int .i64 (0:Int))),(V.sc (.int .i64 (0:Int))),(V.sc (.int .u32 (0:Int)))]) 0 (za (za (za (za (List.replicate 32 (V.sc (.int .u8 (0:Int)))++[(V.sc (.int .i64 (0:Int))),(V.sc (.int .i64 (0:Int))),(V.sc (.int .u32 (0:Int)))]) 0 (List.take 32 p2)) 32 [(V.sc (.int .i64 p1))]) 33 [(V.sc (.int .i64 v8))]) 34 [(V.sc (.int .u32 v25))])))) * 56≤xh∧(v20+List.length (zc 35 1 (za (List.replicate 32 (V.sc (.int .u8 (0:Int)))++[(V.sc (.int .i64 (0:Int))),(V.sc (.int .i64 (0:Int))),(V.sc (.int .u32 (0:Int)))]) 0 (za (za (za (za (List.replicate 32 (V.sc (.int .u8 (0:Int)))++[(V.sc (.int .i64 (0:Int))),(V.sc (.int .i64 (0:Int))),(V.sc (.int .u32 (0:Int)))]) 0 (List.take 32 p2)) 32 [(V.sc (.int .i64 p1))]) 33 [(V.sc (.int .i64 v8))]) 34 [(V.sc (.int .u32 v25))]))))≤xh∧((v20+List.length (zc 35 1 (za (List.replicate 32 (V.sc (.int .u8 (0:Int)))++[(V.sc (.int .i64 (0:Int))),(V.sc (.int .i64 (0:Int))),(V.sc (.int .u32 (0:Int)))]) 0 (za (za (za (za (List.replicate 32 (V.sc (.int .u8 (0:Int)))++[(V.sc (.int .i64 (0:Int))),(V.sc (.int .i64 (0:Int))),(V.sc (.int .u32 (0:Int)))]) 0 (List.take 32 p2)) 32 [(V.sc (.int .i64 p1))]) 33 [(V.sc (.int .i64 v8))]) 34 [(V.sc (.int .u32 v25))]))))≠0∨(List.length v23)=0)) (
 lt (List.take (v20 * 35) v23++List.flatten (zc 35 1 (za (List.replicate 32 (V.sc (.int .u8 (0:Int)))++[(V.sc (.int .i64 (0:Int))),(V.sc (.int .i64 (0:Int))),(V.sc (.int .u32 (0:Int)))]) 0 (za (za (za (za (List.replicate 32 (V.sc (.int .u8 (0:Int)))++[(V.sc (.int .i64 (0:Int))),(V.sc (.int .i64 (0:Int))),(V.sc (.int .u32 (0:Int)))]) 0 (List.take 32 p2)) 32 [(V.sc (.int .i64 p1))]) 33 [(V.sc (.int .i64 v8))]) 34 [(V.sc (.int .u32 v25))])))) fun r26 =>
 k_fin [(V.sc (.int .u32 v17)),(V.sc (.bool v18)),(V.sl 1 (zc 1 v19 v22)),(V.sl 35 (zc 35 (v20+List.length (zc 35 1 (za (List.replicate 32 (V.sc (.int .u8 (0:Int)))++[(V.sc (.int .i64 (0:Int))),(V.sc (.int .i64 (0:Int))),(V.sc (.int .u32 (0:Int)))]) 0 (za (za (za (za (List.replicate 32 (V.sc (.int .u8 (0:Int)))++[(V.sc (.int .i64 (0:Int))),(V.sc (.int .i64 (0:Int))),(V.sc (.int .u32 (0:Int)))]) 0 (List.take 32 p2)) 32 [(V.sc (.int .i64 p1))]) 33 [(V.sc (.int .i64 v8))]) 34 [(V.sc (.int .u32 v25))])))) r26)),(V.sl 32 (zc 32 v21 v24))] v8 (0:Int)))))))))) (
 k_fin [(V.sc (.int .u32 v17)),(V.sc (.bool v18)),(V.sl 1 (zc 1 v19 v22)),(V.sl 35 (zc 35 v20 v23)),(V.sl 32 (zc 32 v21 v24))] v8 (0:Int))))) (
 zu β L [(V.sc (.int .u32 v0)),(V.sc (.bool v1)),(V.sl 1 v2),(V.sl 35 v3),(V.sl 32 v4)] (fun v27 v28 v29 v30 v31 v32 v33 v34 =>
 ifb ((v8:Int) != (-1:Int)) (
 chk (0+32≤(List.length p2)) (
 zK β L p3 p4 (fun v35 =>
 chk ((List.length (List.take 32 p2))=32∧0+32≤35) (
 chk (1=1∧32+1≤(List.length (za (List.replicate 32 (V.sc (.int .u8 (0:Int)))++[(V.sc (.int .i64 (0:Int))),(V.sc (.int .i64 (0:Int))),(V.sc (.int .u32 (0:Int)))]) 0 (List.take 32 p2)))) (
 chk (1=1∧33+1≤(List.length (za (za (List.replicate 32 (V.sc (.int .u8 (0:Int)))++[(V.sc (.int .i64 (0:Int))),(V.sc (.int .i64 (0:Int))),(V.sc (.int .u32 (0:Int)))]) 0 (List.take 32 p2)) 32 [(V.sc (.int .i64 p1))]))) (
 chk (1=1∧34+1≤(List.length (za (za (za (List.replicate 32 (V.sc (.int .u8 (0:Int)))++[(V.sc (.int .i64 (0:Int))),(V.sc (.int .i64 (0:Int))),(V.sc (.int .u32 (0:Int)))]) 0 (List.take 32 p2)) 32 [(V.sc (.int .i64 p1))]) 33 [(V.sc (.int .i64 v8))]))) (
 chk ((List.length (za (za (za (za (List.replicate 32 (V.sc (.int .u8 (0:Int)))++[(V.sc (.int .i64 (0:Int))),(V.sc (.int .i64 (0:Int))),(V.sc (.int .u32 (0:Int)))]) 0 (List.take 32 p2)) 32 [(V.sc (.int .i64 p1))]) 33 [(V.sc (.int .i64 v8))]) 34 [(V.sc (.int .u32 v35))]))=35∧0+35≤35) (
 chk ((v30+List.length (zc 35 1 (za (List.replicate 32 (V.sc (.int .u8 (0:Int)))++[(V.sc (.int .i64 (0:Int))),(V.sc (.int .i64 (0:Int))),(V.sc (.int .u32 (0:Int)))]) 0 (za (za (za (za (List.replicate 32 (V.sc (.int .u8 (0:Int)))++[(V.sc (.int .i64 (0:Int))),(V.sc (.int .i64 (0:Int))),(V.sc (.int .u32 (0:Int)))]) 0 (List.take 32 p2)) 32 [(V.sc (.int .i64 p1))]) 33 [(V.sc (.int .i64 v8))]) 34 [(V.sc (.int .u32 v35))])))) * 56≤xh∧(v30+List.length (zc 35 1 (za (List.replicate 32 (V.sc (.int .u8 (0:Int)))++[(V.sc (.int .i64 (0:Int))),(V.sc (.int .i64 (0:Int))),(V.sc (.int .u32 (0:Int)))]) 0 (za (za (za (za (List.replicate 32 (V.sc (.int .u8 (0:Int)))++[(V.sc (.int .i64 (0:Int))),(V.sc (.int .i64 (0:Int))),(V.sc (.int .u32 (0:Int)))]) 0 (List.take 32 p2)) 32 [(V.sc (.int .i64 p1))]) 33 [(V.sc (.int .i64 v8))]) 34 [(V.sc (.int .u32 v35))]))))≤xh∧((v30+List.length (zc 35 1 (za (List.replicate 32 (V.sc (.int .u8 (0:Int)))++[(V.sc (.int .i64 (0:Int))),(V.sc (.int .i64 (0:Int))),(V.sc (.int .u32 (0:Int)))]) 0 (za (za (za (za (List.replicate 32 (V.sc (.int .u8 (0:Int)))++[(V.sc (.int .i64 (0:Int))),(V.sc (.int .i64 (0:Int))),(V.sc (.int .u32 (0:Int)))]) 0 (List.take 32 p2)) 32 [(V.sc (.int .i64 p1))]) 33 [(V.sc (.int .i64 v8))]) 34 [(V.sc (.int .u32 v35))]))))≠0∨(List.length v33)=0)) (
 lt (List.take (v30 * 35) v33++List.flatten (zc 35 1 (za (List.replicate 32 (V.sc (.int .u8 (0:Int)))++[(V.sc (.int .i64 (0:Int))),(V.sc (.int .i64 (0:Int))),(V.sc (.int .u32 (0:Int)))]) 0 (za (za (za (za (List.replicate 32 (V.sc (.int .u8 (0:Int)))++[(V.sc (.int .i64 (0:Int))),(V.sc (.int .i64 (0:Int))),(V.sc (.int .u32 (0:Int)))]) 0 (List.take 32 p2)) 32 [(V.sc (.int .i64 p1))]) 33 [(V.sc (.int .i64 v8))]) 34 [(V.sc (.int .u32 v35))])))) fun r36 =>
 k_fin [(V.sc (.int .u32 v27)),(V.sc (.bool v28)),(V.sl 1 (zc 1 v29 v32)),(V.sl 35 (zc 35 (v30+List.length (zc 35 1 (za (List.replicate 32 (V.sc (.int .u8 (0:Int)))++[(V.sc (.int .i64 (0:Int))),(V.sc (.int .i64 (0:Int))),(V.sc (.int .u32 (0:Int)))]) 0 (za (za (za (za (List.replicate 32 (V.sc (.int .u8 (0:Int)))++[(V.sc (.int .i64 (0:Int))),(V.sc (.int .i64 (0:Int))),(V.sc (.int .u32 (0:Int)))]) 0 (List.take 32 p2)) 32 [(V.sc (.int .i64 p1))]) 33 [(V.sc (.int .i64 v8))]) 34 [(V.sc (.int .u32 v35))])))) r36)),(V.sl 32 (zc 32 v31 v34))] v8 (0:Int)))))))))) (
 k_fin [(V.sc (.int .u32 v27)),(V.sc (.bool v28)),(V.sl 1 (zc 1 v29 v32)),(V.sl 35 (zc 35 v30 v33)),(V.sl 32 (zc 32 v31 v34))] v8 (0:Int)))))) (
 ifb ((v8:Int) != (-1:Int)) (
 ifb (decide (((List.length v3:Nat):Int) ≥ (64:Int))) (
 k_fin [(V.sc (.int .u32 (0:Int))),(V.sc (.bool false)),(V.sl 1 ([]:List (List V))),(V.sl 35 ([]:List (List V))),(V.sl 32 ([]:List (List V)))] (0:Int) (380:Int)) (
 zu β L [(V.sc (.int .u32 v0)),(V.sc (.bool v1)),(V.sl 1 v2),(V.sl 35 v3),(V.sl 32 v4)] (fun v37 v38 v39 v40 v41 v42 v43 v44 =>
 ifb ((v8:Int) != (-1:Int)) (
 chk (0+32≤(List.length p2)) (
 zK β L p3 p4 (fun v45 =>
 chk ((List.length (List.take 32 p2))=32∧0+32≤35) (
 chk (1=1∧32+1≤(List.length (za (List.replicate 32 (V.sc (.int .u8 (0:Int)))++[(V.sc (.int .i64 (0:Int))),(V.sc (.int .i64 (0:Int))),(V.sc (.int .u32 (0:Int)))]) 0 (List.take 32 p2)))) (
 chk (1=1∧33+1≤(List.length (za (za (List.replicate 32 (V.sc (.int .u8 (0:Int)))++[(V.sc (.int .i64 (0:Int))),(V.sc (.int .i64 (0:Int))),(V.sc (.int .u32 (0:Int)))]) 0 (List.take 32 p2)) 32 [(V.sc (.int .i64 p1))]))) (
 chk (1=1∧34+1≤(List.length (za (za (za (List.replicate 32 (V.sc (.int .u8 (0:Int)))++[(V.sc (.int .i64 (0:Int))),(V.sc (.int .i64 (0:Int))),(V.sc (.int .u32 (0:Int)))]) 0 (List.take 32 p2)) 32 [(V.sc (.int .i64 p1))]) 33 [(V.sc (.int .i64 v8))]))) (
 chk ((List.length (za (za (za (za (List.replicate 32 (V.sc (.int .u8 (0:Int)))++[(V.sc (.int .i64 (0:Int))),(V.sc (.int .i64 (0:Int))),(V.sc (.int .u32 (0:Int)))]) 0 (List.take 32 p2)) 32 [(V.sc (.int .i64 p1))]) 33 [(V.sc (.int .i64 v8))]) 34 [(V.sc (.int .u32 v45))]))=35∧0+35≤35) (
 chk ((v40+List.length (zc 35 1 (za (List.replicate 32 (V.sc (.int .u8 (0:Int)))++[(V.sc (.int .i64 (0:Int))),(V.sc (.int .i64 (0:Int))),(V.sc (.int .u32 (0:Int)))]) 0 (za (za (za (za (List.replicate 32 (V.sc (.int .u8 (0:Int)))++[(V.sc (.int .i64 (0:Int))),(V.sc (.int .i64 (0:Int))),(V.sc (.int .u32 (0:Int)))]) 0 (List.take 32 p2)) 32 [(V.sc (.int .i64 p1))]) 33 [(V.sc (.int .i64 v8))]) 34 [(V.sc (.int .u32 v45))])))) * 56≤xh∧(v40+List.length (zc 35 1 (za (List.replicate 32 (V.sc (.int .u8 (0:Int)))++[(V.sc (.int .i64 (0:Int))),(V.sc (.int .i64 (0:Int))),(V.sc (.int .u32 (0:Int)))]) 0 (za (za (za (za (List.replicate 32 (V.sc (.int .u8 (0:Int)))++[(V.sc (.int .i64 (0:Int))),(V.sc (.int .i64 (0:Int))),(V.sc (.int .u32 (0:Int)))]) 0 (List.take 32 p2)) 32 [(V.sc (.int .i64 p1))]) 33 [(V.sc (.int .i64 v8))]) 34 [(V.sc (.int .u32 v45))]))))≤xh∧((v40+List.length (zc 35 1 (za (List.replicate 32 (V.sc (.int .u8 (0:Int)))++[(V.sc (.int .i64 (0:Int))),(V.sc (.int .i64 (0:Int))),(V.sc (.int .u32 (0:Int)))]) 0 (za (za (za (za (List.replicate 32 (V.sc (.int .u8 (0:Int)))++[(V.sc (.int .i64 (0:Int))),(V.sc (.int .i64 (0:Int))),(V.sc (.int .u32 (0:Int)))]) 0 (List.take 32 p2)) 32 [(V.sc (.int .i64 p1))]) 33 [(V.sc (.int .i64 v8))]) 34 [(V.sc (.int .u32 v45))]))))≠0∨(List.length v43)=0)) (
 lt (List.take (v40 * 35) v43++List.flatten (zc 35 1 (za (List.replicate 32 (V.sc (.int .u8 (0:Int)))++[(V.sc (.int .i64 (0:Int))),(V.sc (.int .i64 (0:Int))),(V.sc (.int .u32 (0:Int)))]) 0 (za (za (za (za (List.replicate 32 (V.sc (.int .u8 (0:Int)))++[(V.sc (.int .i64 (0:Int))),(V.sc (.int .i64 (0:Int))),(V.sc (.int .u32 (0:Int)))]) 0 (List.take 32 p2)) 32 [(V.sc (.int .i64 p1))]) 33 [(V.sc (.int .i64 v8))]) 34 [(V.sc (.int .u32 v45))])))) fun r46 =>
 k_fin [(V.sc (.int .u32 v37)),(V.sc (.bool v38)),(V.sl 1 (zc 1 v39 v42)),(V.sl 35 (zc 35 (v40+List.length (zc 35 1 (za (List.replicate 32 (V.sc (.int .u8 (0:Int)))++[(V.sc (.int .i64 (0:Int))),(V.sc (.int .i64 (0:Int))),(V.sc (.int .u32 (0:Int)))]) 0 (za (za (za (za (List.replicate 32 (V.sc (.int .u8 (0:Int)))++[(V.sc (.int .i64 (0:Int))),(V.sc (.int .i64 (0:Int))),(V.sc (.int .u32 (0:Int)))]) 0 (List.take 32 p2)) 32 [(V.sc (.int .i64 p1))]) 33 [(V.sc (.int .i64 v8))]) 34 [(V.sc (.int .u32 v45))])))) r46)),(V.sl 32 (zc 32 v41 v44))] v8 (0:Int)))))))))) (
 k_fin [(V.sc (.int .u32 v37)),(V.sc (.bool v38)),(V.sl 1 (zc 1 v39 v42)),(V.sl 35 (zc 35 v40 v43)),(V.sl 32 (zc 32 v41 v44))] v8 (0:Int))))) (
 zu β L [(V.sc (.int .u32 v0)),(V.sc (.bool v1)),(V.sl 1 v2),(V.sl 35 v3),(V.sl 32 v4)] (fun v47 v48 v49 v50 v51 v52 v53 v54 =>
 ifb ((v8:Int) != (-1:Int)) (
 chk (0+32≤(List.length p2)) (
 zK β L p3 p4 (fun v55 =>
 chk ((List.length (List.take 32 p2))=32∧0+32≤35) (
 chk (1=1∧32+1≤(List.length (za (List.replicate 32 (V.sc (.int .u8 (0:Int)))++[(V.sc (.int .i64 (0:Int))),(V.sc (.int .i64 (0:Int))),(V.sc (.int .u32 (0:Int)))]) 0 (List.take 32 p2)))) (
 chk (1=1∧33+1≤(List.length (za (za (List.replicate 32 (V.sc (.int .u8 (0:Int)))++[(V.sc (.int .i64 (0:Int))),(V.sc (.int .i64 (0:Int))),(V.sc (.int .u32 (0:Int)))]) 0 (List.take 32 p2)) 32 [(V.sc (.int .i64 p1))]))) (
 chk (1=1∧34+1≤(List.length (za (za (za (List.replicate 32 (V.sc (.int .u8 (0:Int)))++[(V.sc (.int .i64 (0:Int))),(V.sc (.int .i64 (0:Int))),(V.sc (.int .u32 (0:Int)))]) 0 (List.take 32 p2)) 32 [(V.sc (.int .i64 p1))]) 33 [(V.sc (.int .i64 v8))]))) (
 chk ((List.length (za (za (za (za (List.replicate 32 (V.sc (.int .u8 (0:Int)))++[(V.sc (.int .i64 (0:Int))),(V.sc (.int .i64 (0:Int))),(V.sc (.int .u32 (0:Int)))]) 0 (List.take 32 p2)) 32 [(V.sc (.int .i64 p1))]) 33 [(V.sc (.int .i64 v8))]) 34 [(V.sc (.int .u32 v55))]))=35∧0+35≤35) (
 chk ((v50+List.length (zc 35 1 (za (List.replicate 32 (V.sc (.int .u8 (0:Int)))++[(V.sc (.int .i64 (0:Int))),(V.sc (.int .i64 (0:Int))),(V.sc (.int .u32 (0:Int)))]) 0 (za (za (za (za (List.replicate 32 (V.sc (.int .u8 (0:Int)))++[(V.sc (.int .i64 (0:Int))),(V.sc (.int .i64 (0:Int))),(V.sc (.int .u32 (0:Int)))]) 0 (List.take 32 p2)) 32 [(V.sc (.int .i64 p1))]) 33 [(V.sc (.int .i64 v8))]) 34 [(V.sc (.int .u32 v55))])))) * 56≤xh∧(v50+List.length (zc 35 1 (za (List.replicate 32 (V.sc (.int .u8 (0:Int)))++[(V.sc (.int .i64 (0:Int))),(V.sc (.int .i64 (0:Int))),(V.sc (.int .u32 (0:Int)))]) 0 (za (za (za (za (List.replicate 32 (V.sc (.int .u8 (0:Int)))++[(V.sc (.int .i64 (0:Int))),(V.sc (.int .i64 (0:Int))),(V.sc (.int .u32 (0:Int)))]) 0 (List.take 32 p2)) 32 [(V.sc (.int .i64 p1))]) 33 [(V.sc (.int .i64 v8))]) 34 [(V.sc (.int .u32 v55))]))))≤xh∧((v50+List.length (zc 35 1 (za (List.replicate 32 (V.sc (.int .u8 (0:Int)))++[(V.sc (.int .i64 (0:Int))),(V.sc (.int .i64 (0:Int))),(V.sc (.int .u32 (0:Int)))]) 0 (za (za (za (za (List.replicate 32 (V.sc (.int .u8 (0:Int)))++[(V.sc (.int .i64 (0:Int))),(V.sc (.int .i64 (0:Int))),(V.sc (.int .u32 (0:Int)))]) 0 (List.take 32 p2)) 32 [(V.sc (.int .i64 p1))]) 33 [(V.sc (.int .i64 v8))]) 34 [(V.sc (.int .u32 v55))]))))≠0∨(List.length v53)=0)) (
 lt (List.take (v50 * 35) v53++List.flatten (zc 35 1 (za (List.replicate 32 (V.sc (.int .u8 (0:Int)))++[(V.sc (.int .i64 (0:Int))),(V.sc (.int .i64 (0:Int))),(V.sc (.int .u32 (0:Int)))]) 0 (za (za (za (za (List.replicate 32 (V.sc (.int .u8 (0:Int)))++[(V.sc (.int .i64 (0:Int))),(V.sc (.int .i64 (0:Int))),(V.sc (.int .u32 (0:Int)))]) 0 (List.take 32 p2)) 32 [(V.sc (.int .i64 p1))]) 33 [(V.sc (.int .i64 v8))]) 34 [(V.sc (.int .u32 v55))])))) fun r56 =>
 k_fin [(V.sc (.int .u32 v47)),(V.sc (.bool v48)),(V.sl 1 (zc 1 v49 v52)),(V.sl 35 (zc 35 (v50+List.length (zc 35 1 (za (List.replicate 32 (V.sc (.int .u8 (0:Int)))++[(V.sc (.int .i64 (0:Int))),(V.sc (.int .i64 (0:Int))),(V.sc (.int .u32 (0:Int)))]) 0 (za (za (za (za (List.replicate 32 (V.sc (.int .u8 (0:Int)))++[(V.sc (.int .i64 (0:Int))),(V.sc (.int .i64 (0:Int))),(V.sc (.int .u32 (0:Int)))]) 0 (List.take 32 p2)) 32 [(V.sc (.int .i64 p1))]) 33 [(V.sc (.int .i64 v8))]) 34 [(V.sc (.int .u32 v55))])))) r56)),(V.sl 32 (zc 32 v51 v54))] v8 (0:Int)))))))))) (
 k_fin [(V.sc (.int .u32 v47)),(V.sc (.bool v48)),(V.sl 1 (zc 1 v49 v52)),(V.sl 35 (zc 35 v50 v53)),(V.sl 32 (zc 32 v51 v54))] v8 (0:Int))))))))))))))))
theorem ztl {β:Type} (zB:zcD) (zW:zjj) (zh:zM) (xP:zir) (zu:zcf) (zK:zim) (L:Nat) (p0:List V) (p1:Int) (p2:List V) (p3 p4:Int) (k:KK β):zD zlv (zlM zB zW zh xP zu zK L) L zin [(V.agg p0),(V.sc (.int .i64 p1)),(V.agg p2),(V.sc (.int .u32 p3)),(V.sc (.int .u32 p4))] [] k=zmy zB zW zh xP zu zK L p0 p1 p2 p3 p4 (fun zBO zBP zBT=>k (V.tup [(V.agg zBO),(V.sc (.int .i64 zBP)),(V.sc (.int .i64 zBT))]) []):=by kernel_rfl
abbrev yk:=∀ (β:Type),Nat→List V→Int→List V→Int→Int→(List V→Int→Int→Option β)→Option β
def zd (β:Type) (L:Nat) (p0:List V) (p1:Int) (p2:List V) (p3 p4:Int) (k_fin:List V→Int→Int→Option β):Option β:=zmy zB zW zh xP zu zK L p0 p1 p2 p3 p4 k_fin
def zhd (zd:yk) (L:Nat) (β:Type) (args:List V) (bor:Bor) (k:KK β):Option β:=match args,bor with
 | [a0,a1,a2,a3,a4],[]=>aG a0 fun p0=>aI .i64 a1 fun p1=>aG a2 fun p2=>aI .u32 a3 fun p3=>aI .u32 a4 fun p4=>zd β L p0 p1 p2 p3 p4 (fun zBO zBP zBT=>k (V.tup [(V.agg zBO),(V.sc (.int .i64 zBP)),(V.sc (.int .i64 zBT))]) [])
 | _,_=>none
theorem zsG (L:Nat) (β:Type) (args:List V) (bor:Bor) (k:KK β) (r:β) (h:zhd zd L β args bor k=some r):zD zlv (zlM zB zW zh xP zu zK L) L zin args bor k=some r:=by
 unfold zhd at h
 split at h
 ·have q:=zb3 h; clear h; obtain ⟨p0,rfl,h⟩:=q
  have q:=zar h; clear h; obtain ⟨p1,rfl,h⟩:=q
  have q:=zb3 h; clear h; obtain ⟨p2,rfl,h⟩:=q
  have q:=zar h; clear h; obtain ⟨p3,rfl,h⟩:=q
  have q:=zar h; clear h; obtain ⟨p4,rfl,h⟩:=q
  exact (ztl zB zW zh xP zu zK L p0 p1 p2 p3 p4 k).trans h
 ·cases h
end
end Go.Proofs.Ytpbbfpfmdckclaa
