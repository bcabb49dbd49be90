/- Part 9 of the proof of PenaltyFull: an abstract machine over plain values, its soundness, and the functions of the program on plain values. -/
import Derived.Test.YtmfiekdpifgimaaRows
import Derived.Shelf.Spec.SlicesInsertGrow
import Derived.Lib.Overlaps
import Derived.Test.YtmfiekdpifgimaaMPenaltyFull8
namespace Go.Proofs.Ytmfiekdpifgimaa
section
open Go.Shelf Go.RowKit Go.Lib
set_option linter.unusedVariables false
set_option linter.unusedSimpArgs false
set_option maxHeartbeats 4000000 in
set_option maxRecDepth 100000 in
theorem znG (A:Option Addr) (n c vb m vc:Nat) (w w1:World) (r:Value) (hm:0 < m) (hA:A=none→n=0∧c=0) (hnc:n≤c) (hnm:n+m≤140737488355328)
  (happ:∀ ty,(Builtin.append_ #[23,23] ty #[.slice A n c,.slice (some ⟨vb,0,none⟩) m vc]).run Try.prog w=.ok r w1) :
  Calls Try.prog 13 #[.slice A n c,.int .i64 n,.slice (some ⟨vb,0,none⟩) m vc] w fun e w'=>e=.returned r∧w'=w1:=by
 have hz1:¬ ((m:Int)=0):=by omega
 go_enter Try.func13,Try.ntmps13
 cases A with
 | none =>
  obtain ⟨h0,h1⟩:=hA rfl
  subst h0 h1
  go_wp2_with (at_builtin; refine Lib.wpList_append_run _ rfl _ _ _ _ rfl _ _ rfl rfl _ _ (happ _) ?_)
  go_ret
  exact ⟨rfl,rfl⟩
 | some a =>
  obtain ⟨ab,ao,asp⟩:=a
  go_wp2_with (at_builtin; refine Lib.wpList_append_run _ rfl _ _ _ _ rfl _ _ rfl rfl _ _ (happ _) ?_)
  all_goals (go_ret; exact ⟨rfl,rfl⟩)
set_option maxHeartbeats 4000000 in
set_option maxRecDepth 100000 in
theorem zmN (b n c i vb m vc:Nat) (w:World) (hi:i < n) (hm:0 < m) (hroom:n+m≤c) (hnm:n+m≤140737488355328) (hvb:vb≠b) (r1 r2:Value) (w1 w2:World)
  (hov:∀ lb cb,(callFunc 18 #[.slice (some ⟨vb,0,none⟩) m vc,.slice (some ⟨b,(i+m) * 3,none⟩) lb cb]).run Try.prog w=.ok (.value (.bool false)) w)
  (h1:∀ ty dc sc,(Builtin.copy_ #[23,23] ty #[.slice (some ⟨b,(i+m) * 3,none⟩) (n+m - (i+m)) dc,.slice (some ⟨b,i * 3,none⟩) (n+m - i) sc]).run Try.prog w.drew=.ok r1 w1)
  (h2:∀ ty dc,(Builtin.copy_ #[23,23] ty #[.slice (some ⟨b,i * 3,none⟩) (n+m - i) dc,.slice (some ⟨vb,0,none⟩) m vc]).run Try.prog w1=.ok r2 w2) :
  Calls Try.prog 13 #[.slice (some ⟨b,0,none⟩) n c,.int .i64 i,.slice (some ⟨vb,0,none⟩) m vc] w fun e w'=>e=.returned (.slice (some ⟨b,0,none⟩) (n+m) c)∧w'=w2:=by
 have hz1:¬ ((m:Int)=0):=by omega
 have hz2:¬ ((i:Int)=(n:Int)):=by omega
 have hw1:IntKind.i64.wrap ((i:Int)+(m:Int))=(i:Int)+(m:Int):=by rw [IntKind.wrap_i64]; omega
 have hb1:(0:Int)≤(i:Int)+(m:Int):=by omega
 have hin:i≤n:=by omega
 have htn:((i:Int)+(m:Int)).toNat=i+m:=by omega
 have hb2:¬ (c=i+m):=by omega
 have hb3:(i:Int)≤(n:Int)+(m:Int):=by omega
 have hb4:¬ (c=i):=by omega
 have mixed:Try.prog.follows .mixedOrders=true:=by kernel_rfl
 go_enter Try.func13,Try.ntmps13
 go_wp2_with (simp only [hov])
 go_region_law_o (refine step_copy_runI rfl _ _ 23 23 rfl _ _ (by simp [Act.eval,Act.put]) (by simp [Act.eval,Act.put]) (h1 _ _ _) ?_)
 go_wp2_with (at_builtin; refine wpList_copy_runI _ rfl _ _ 23 23 rfl _ _ rfl rfl (h2 _ _) ?_)
 go_ret
 exact ⟨rfl,rfl⟩
set_option maxHeartbeats 4000000 in
set_option maxRecDepth 100000 in
theorem zm2 (b n c i vb m vc N G:Nat) (w:World) (hi:i < n) (hm:0 < m) (hnc:n≤c) (hroom:c < n+m) (hnm:n+m≤140737488355328) (hG:n+m≤G) (r1 r2:Value) (w1 w2 w3:World)
  (h0:∀ ty,(Builtin.append_ #[23,3] ty #[.slice (some ⟨b,0,none⟩) i c,.int .i64 ((n:Int)+(m:Int) - (i:Int))]).run Try.prog w=.ok (.slice (some ⟨N,0,none⟩) (n+m) G) w1)
  (h1:∀ ty dc,(Builtin.copy_ #[23,23] ty #[.slice (some ⟨N,i * 3,none⟩) (n+m - i) dc,.slice (some ⟨vb,0,none⟩) m vc]).run Try.prog w1=.ok r1 w2)
  (h2:∀ ty dc sc,(Builtin.copy_ #[23,23] ty #[.slice (some ⟨N,(i+m) * 3,none⟩) (n+m - (i+m)) dc,.slice (some ⟨b,i * 3,none⟩) (n - i) sc]).run Try.prog w2.drew=.ok r2 w3) :
  Calls Try.prog 13 #[.slice (some ⟨b,0,none⟩) n c,.int .i64 i,.slice (some ⟨vb,0,none⟩) m vc] w fun e w'=>e=.returned (.slice (some ⟨N,0,none⟩) (n+m) G)∧w'=w3:=by
 have hz1:¬ ((m:Int)=0):=by omega
 have hz2:¬ ((i:Int)=(n:Int)):=by omega
 have hz3:(c:Int) < (n:Int)+(m:Int):=by omega
 have hw1:IntKind.i64.wrap ((i:Int)+(m:Int))=(i:Int)+(m:Int):=by rw [IntKind.wrap_i64]; omega
 have hb1:(0:Int)≤(i:Int)+(m:Int):=by omega
 have hin:i≤n:=by omega
 have htn:((i:Int)+(m:Int)).toNat=i+m:=by omega
 have hb3:(i:Int)≤(n:Int):=by omega
 have hGi:¬ (G=i):=by omega
 have hGim:¬ (G=i+m):=by omega
 have hci:¬ (c=i):=by omega
 have mixed:Try.prog.follows .mixedOrders=true:=by kernel_rfl
 go_enter Try.func13,Try.ntmps13
 go_wp2_with (first
  | (at_builtin; refine Lib.wpList_append_run _ rfl _ _ _ _ rfl _ _ rfl rfl _ _ (h0 _) ?_)
  | (at_builtin; refine wpList_copy_runI _ rfl _ _ 23 23 rfl _ _ rfl rfl (h1 _ _) ?_))
 go_region_law_o (refine step_copy_runI rfl _ _ 23 23 rfl (.slice (some ⟨N,(i+m) * 3,none⟩) (n+m - (i+m)) (G - (i+m))) (.slice (some ⟨b,i * 3,none⟩) (n - i) (c - i)) (by simp [Act.eval,Act.put]) (by simp [Act.eval,Act.put]) (h2 3 (G - (i+m)) (c - i)) ?_)
 go_wp2
 go_ret
 exact ⟨rfl,rfl⟩
theorem zoQ:InsW Try.prog 13 23 3 26 18 3 24 where
 ty:=rfl
 it:=⟨_,rfl⟩
 inf:=⟨_,_,rfl,rfl,rfl,rfl,rfl⟩
 pos:=by decide
 ovl:=fun w vb b o2 m vc lb cb A1 A2 T1 T2 hne h1 h2 h0=>by
  rw [run_callFunc_extern (P:=Try.prog) (f:=18) Try.func18 (by kernel_rfl) (by kernel_rfl) (by kernel_rfl) (e:=Extern.SlicesOverlaps.overlaps #[23,23] #[4]) (by kernel_rfl),
   Lib.run_overlaps_apart w 23 4 26 rfl 3 (fun w=>rfl) ⟨vb,0,none⟩ ⟨b,o2,none⟩ m vc lb cb hne T1 T2 A1.size A2.size (by simp [World.shape?,h1]) (by simp [World.shape?,h2]) h0 (by simp [World.frozen?,h1]) (by simp [World.frozen?,h1])]
  rfl
 e:=znG
 s:=zmN
 g:=zm2
end
section
set_option maxRecDepth 100000
set_option linter.unusedVariables false
set_option linter.unusedSimpArgs false
def zP:CC:=(.seq (.reg [oo 12 (.bin .lss (tq 11) (tq 10))])
 (.seq (.cond (tq 12)
 .skip
 (.seq (.mask (bl 0 32) (bl 4294967251 32))
 (.exit 0)))
 (.seq (.block 1 (.seq (.reg [oo 13 (.indexAddrS 3 (tq 9) (tq 11)),
   oo 14 (.load true 3 (tq 13) false),
   oo 5 (.alloc true [(.sc (.int .i64 0)),(.sc (.int .i64 0)),(.sc (.int .u32 0))]),
   oz (.store 3 (tq 5) (tq 14))])
 (.seq (.seq (.reg [oo 15 (.fieldAddr 0 (tq 5)),
   oo 16 (.load false 1 (tq 15) false),
   oo 17 (.move (tq 3) false),
   oo 18 (.bin .leq (tq 16) (tq 17)),
   oo 19 (.move (tq 18) false),
   ⟨(some 20),false,(some (19,false)),.fieldAddr 1 (tq 5)⟩,
   ⟨(some 21),false,(some (19,false)),.load false 1 (tq 20) false⟩,
   ⟨(some 22),false,(some (19,false)),.bin .lss (tq 21) (.const (.sc (.int .i64 0)))⟩,
   oo 23 (.pick (tq 19) (.const (.sc (.bool true))) (tq 22)),
   oo 24 (.move (tq 23) false),
   ⟨(some 25),false,(some (24,false)),.fieldAddr 1 (tq 5)⟩,
   ⟨(some 26),false,(some (24,false)),.load false 1 (tq 25) false⟩,
   ⟨(some 27),false,(some (24,false)),.bin .gtr (tq 26) (.const (.sc (.int .i64 100)))⟩,
   oo 28 (.pick (tq 24) (.const (.sc (.bool true))) (tq 27))])
 (.cond (tq 28)
 (.seq (.reg [oo 2 (.move (.const (.sc (.bool false))) false)])
 (.seq (.mask (bl 4 32) (bl 4294967255 32))
 .ret))
 .skip))
 (.reg [oo 29 (.fieldAddr 0 (tq 5)),
   oo 30 (.load false 1 (tq 29) false),
   oo 3 (.move (tq 30) false)]))))
 (.reg [oo 31 (.bin .add (tq 11) (.const (.sc (.int .i64 1)))),
   oo 11 (.move (tq 31) false)]))))
def zaq:CC:=(.seq (.reg [oo 2 (.move (.const (.sc (.bool true))) false)])
 .ret)
def zK:CF:=⟨32,[.tmp 2],
 (.seq (.reg [oo 2 (.move (.const (.sc (.bool false))) false)])
 (.seq (.seq (.reg [oo 6 (.move (tq 0) false),
   oo 7 (.lenS (tq 6)),
   oo 8 (.bin .gtr (tq 7) (.const (.sc (.int .i64 64))))])
 (.cond (tq 8)
 (.seq (.reg [oo 2 (.move (.const (.sc (.bool false))) false)])
 .ret)
 .skip))
 (.seq (.reg [oo 3 (.move (.const (.sc (.int .i64 (-1)))) false)])
 (.seq (.seq (.reg [oo 9 (.move (tq 0) false),
   oo 10 (.lenS (tq 9)),
   oo 11 (.move (.const (.sc (.int .i64 0))) false)])
 (.block 0 (.loop (bl 3592 32) (bl 4294967259 32)
 zP)))
 zaq))))⟩
def zd0:Hint:=⟨[],[],[none,none,none,some ((bl 3592 32),(bl 4294967259 32)),none,some ((bl 0 32),(bl 4294967251 32)),none,none,some ((bl 4 32),(bl 4294967255 32)),none],[],[],false,false,[]⟩
def zy:Nat→Sh:=zcI [(16,(.int .i64)),(21,(.int .i64)),(26,(.int .i64)),(30,(.int .i64))]
def xx (L:Nat):CBC:=noC
def y4:St→St:=zaL 0 (bl 3592 32) (bl 4294967259 32)
def yT (p3:Int) (p9:List (List V)) (p10 p11:Int):St:=⟨(jn 3 ((V.sc (.int .i64 p3))::(jn 5 ((V.sl 3 p9)::((V.sc (.int .i64 p10))::((V.sc (.int .i64 p11))::(jn 20 []))))))),(gn 32 [])⟩
def zbc (p2:Bool):St:=⟨(jn 2 ((V.sc (.bool p2))::(jn 29 []))),(gn 32 [])⟩
def zbs:St:=⟨(jn 32 []),(gn 32 [])⟩
def zc4 {β:Type} (L:Nat) (p0:List (List V)) (k_fin:Bool→Option β) (k_hbbbaba:Int→List (List V)→Int→Int→Option β):Option β :=
 ifb (decide (((List.length p0:Nat):Int) > (64:Int))) (
 k_fin false) (
 k_hbbbaba (-1:Int) p0 ((List.length p0:Nat):Int) (0:Int))
theorem zgq {β:Type} (L:Nat) (p0:List (List V)) (k:KK β):xH zy (xx L) L zK [(V.sl 3 p0)] [] k=zc4 L p0 (fun p0=>k (V.sc (.bool p0)) []) (fun p3 p9 p10 p11=>yS (xn zy (xx L) 0 L zP) y4 L (yT p3 p9 p10 p11) (yO 0 (zao (xn zy (xx L) 0 L zaq) (zaW 0 (CF.res zK) k)))):=by kernel_rfl
def za3 {β:Type} (L:Nat) (p3:Int) (p9:List (List V)) (p10 p11:Int) (k_ret:Bool→Option β) (k_hbbbaba:Int→List (List V)→Int→Int→Option β) (k_x0:Option β):Option β :=
 ifb (decide (p11 < p10)) (
 idx p9 p11 fun c0 =>
 chk ((List.length (List.take 3 c0))=3∧0+3≤3) (
 lt (yj [(V.sc (.int .i64 (0:Int))),(V.sc (.int .i64 (0:Int))),(V.sc (.int .u32 (0:Int)))] 0 (List.take 3 c0)) fun r1 =>
 cI .i64 r1 0 fun v2 =>
 ifb (decide (v2≤p3)) (
 k_ret false) (
 cI .i64 r1 1 fun v3 =>
 ifb (decide (v3 < (0:Int))) (
 k_ret false) (
 cI .i64 r1 1 fun v4 =>
 ifb (decide (v4 > (100:Int))) (
 k_ret false) (
 cI .i64 r1 0 fun v5 =>
 lt (IntKind.wrap .i64 ((p11:Int)+(1:Int))) fun x6 =>
 k_hbbbaba v5 p9 p10 x6))))) (
 k_x0)
theorem zeA {β:Type} (L:Nat) (p3:Int) (p9:List (List V)) (p10 p11:Int) (X:St→Option β) (K:KT β):xn zy (xx L) 0 L zP (yT p3 p9 p10 p11) (zeS y4 X K)=za3 L p3 p9 p10 p11 (fun p2=>K .ret (zbc p2)) (fun p3 p9 p10 p11=>X (yT p3 p9 p10 p11)) (K (.exit 0) (zbs)):=by kernel_rfl
def zbP {β:Type} (L:Nat) (p2:Bool) (k_fin:Bool→Option β):Option β :=
 k_fin p2
theorem zdW {β:Type} (L:Nat) (p2:Bool) (k:KK β):(yO 0 (zao (xn zy (xx L) 0 L zaq) (zaW 0 (CF.res zK) k))) .ret (zbc p2)=zbP L p2 (fun p0=>k (V.sc (.bool p0)) []):=by kernel_rfl
def zcc {β:Type} (L:Nat) (k_fin:Bool→Option β):Option β :=
 k_fin true
theorem zd2 {β:Type} (L:Nat) (k:KK β):(yO 0 (zao (xn zy (xx L) 0 L zaq) (zaW 0 (CF.res zK) k))) (.exit 0) (zbs)=zcc L (fun p0=>k (V.sc (.bool p0)) []):=by kernel_rfl
def zR {β:Type} (L:Nat) (k_ret:Bool→Option β) (k_x0:Option β):Nat→Int→List (List V)→Int→Int→Option β
 | 0,_,_,_,_=>none
 | n+1,p3,p9,p10,p11=>za3 L p3 p9 p10 p11 k_ret (fun p3 p9 p10 p11=>zR L k_ret k_x0 n p3 p9 p10 p11) k_x0
theorem zbG {β:Type} (L:Nat) (K:KT β):∀ (n:Nat) (p3:Int) (p9:List (List V)) (p10 p11:Int),yS (xn zy (xx L) 0 L zP) y4 n (yT p3 p9 p10 p11) K=zR L (fun p2=>K .ret (zbc p2)) (K (.exit 0) (zbs)) n p3 p9 p10 p11:=by
 intro n
 induction n with
 | zero=>intros; rfl
 | succ n ih =>
  intro p3 p9 p10 p11
  refine (zeA L p3 p9 p10 p11 (fun σ=>yS (xn zy (xx L) 0 L zP) y4 n σ K) K).trans ?_
  simp only [ih]
  rfl
def zbw {β:Type} (L:Nat) (p0:List (List V)) (k_fin:Bool→Option β):Option β :=
 zc4 L p0 k_fin (fun p3 p9 p10 p11=>zR L (fun p2=>zbP L p2 k_fin) (zcc L k_fin) L p3 p9 p10 p11)
theorem zgk {β:Type} (L:Nat) (p0:List (List V)) (k:KK β):xH zy (xx L) L zK [(V.sl 3 p0)] [] k=zbw L p0 (fun p0=>k (V.sc (.bool p0)) []):=by
 refine (zgq L p0 k).trans ?_
 unfold zbw
 first
  | (simp only [zbG,zdW,zd2]; done)
  | (simp only [zbG]; rfl)
abbrev zby:=∀ (β:Type),Nat→List (List V)→(Bool→Option β)→Option β
def zm (β:Type) (L:Nat) (p0:List (List V)) (k_fin:Bool→Option β):Option β:=zbw L p0 k_fin
def zbz (zm:zby) (L:Nat) (β:Type) (args:List V) (bor:Bor) (k:KK β):Option β:=match args,bor with
 | [a0],[]=>aL 3 a0 fun p0=>zm β L p0 (fun p0=>k (V.sc (.bool p0)) [])
 | _,_=>none
theorem zgF (L:Nat) (β:Type) (args:List V) (bor:Bor) (k:KK β) (r:β) (h:zbz zm L β args bor k=some r):xH zy (xx L) L zK args bor k=some r:=by
 unfold zbz at h
 split at h
 ·have q:=zct h; clear h; obtain ⟨p0,rfl,h⟩:=q
  exact (zgk L p0 k).trans h
 ·cases h
def yQ:CC:=(.seq (.reg [oo 11 (.bin .lss (tq 10) (tq 9))])
 (.seq (.cond (tq 11)
 .skip
 (.seq (.mask (bl 1 27) (bl 134217487 27))
 (.exit 0)))
 (.seq (.block 1 (.seq (.reg [oo 12 (.move (tq 10) false),
   oo 13 (.indexAddrS 3 (tq 8) (tq 10)),
   oo 14 (.load true 3 (tq 13) false),
   oo 7 (.alloc true [(.sc (.int .i64 0)),(.sc (.int .i64 0)),(.sc (.int .u32 0))]),
   oo 6 (.move (tq 12) false),
   oz (.store 3 (tq 7) (tq 14))])
 (.seq (.reg [oo 15 (.fieldAddr 0 (tq 7)),
   oo 16 (.load false 1 (tq 15) false),
   oo 17 (.move (tq 1) false),
   oo 18 (.bin .geq (tq 16) (tq 17))])
 (.cond (tq 18)
 (.seq (.dreg [] [(oo 19 (.move (tq 6) false),q0),
   (oo 20 (.fieldAddr 0 (tq 7)),q0),
   (oo 21 (.load false 1 (tq 20) false),q0),
   (oo 22 (.move (tq 1) false),q0),
   (oo 23 (.bin .eql (tq 21) (tq 22)),q0),
   (oo 4 (.move (tq 19) false),q0),
   (oo 5 (.move (tq 23) false),q0)])
 (.seq (.mask (bl 48 27) (bl 134217535 27))
 .ret))
 .skip))))
 (.reg [oo 24 (.bin .add (tq 10) (.const (.sc (.int .i64 1)))),
   oo 10 (.move (tq 24) false)]))))
def zax:CC:=(.seq (.reg [oo 25 (.move (tq 0) false),
   oo 26 (.lenS (tq 25)),
   oo 4 (.move (tq 26) false),
   oo 5 (.move (.const (.sc (.bool false))) false)])
 .ret)
def zI:CF:=⟨27,[.tmp 4,.tmp 5],
 (.seq (.reg [oo 4 (.move (.const (.sc (.int .i64 0))) false),
   oo 5 (.move (.const (.sc (.bool false))) false)])
 (.seq (.seq (.reg [oo 8 (.move (tq 0) false),
   oo 9 (.lenS (tq 8)),
   oo 10 (.move (.const (.sc (.int .i64 0))) false)])
 (.block 0 (.loop (bl 1795 27) (bl 134217487 27)
 yQ)))
 zax))⟩
def zdz:Hint:=⟨[],[],[none,some ((bl 1795 27),(bl 134217487 27)),none,some ((bl 1 27),(bl 134217487 27)),none,none,some ((bl 48 27),(bl 134217535 27)),none],[],[],false,false,[]⟩
def zu:Nat→Sh:=zcI [(16,(.int .i64)),(21,(.int .i64))]
def xt (L:Nat):CBC:=noC
def zac:St→St:=zaL 0 (bl 1795 27) (bl 134217487 27)
def yW (p0:List (List V)) (p1:Int) (p8:List (List V)) (p9 p10:Int):St:=⟨((V.sl 3 p0)::((V.sc (.int .i64 p1))::(jn 6 ((V.sl 3 p8)::((V.sc (.int .i64 p9))::((V.sc (.int .i64 p10))::(jn 16 []))))))),(gn 27 [])⟩
def zaO (p4:Int) (p5:Bool):St:=⟨(jn 4 ((V.sc (.int .i64 p4))::((V.sc (.bool p5))::(jn 21 [])))),(gn 27 [])⟩
def za7 (p0:List (List V)):St:=⟨((V.sl 3 p0)::(jn 26 [])),(gn 27 [])⟩
def zap {β:Type} (L:Nat) (p0:List (List V)) (p1:Int) (k_hbaba:List (List V)→Int→List (List V)→Int→Int→Option β):Option β :=
 k_hbaba p0 p1 p0 ((List.length p0:Nat):Int) (0:Int)
theorem zf8 {β:Type} (L:Nat) (p0:List (List V)) (p1:Int) (k:KK β):xH zu (xt L) L zI [(V.sl 3 p0),(V.sc (.int .i64 p1))] [] k=zap L p0 p1 (fun p0 p1 p8 p9 p10=>yS (xn zu (xt L) 0 L yQ) zac L (yW p0 p1 p8 p9 p10) (yO 0 (zao (xn zu (xt L) 0 L zax) (zaW 0 (CF.res zI) k)))):=by kernel_rfl
def zbh {β:Type} (L:Nat) (p0:List (List V)) (p1:Int) (p8:List (List V)) (p9 p10:Int) (k_ret:Int→Bool→Option β) (k_hbaba:List (List V)→Int→List (List V)→Int→Int→Option β) (k_x0:List (List V)→Option β):Option β :=
 ifb (decide (p10 < p9)) (
 idx p8 p10 fun c0 =>
 chk ((List.length (List.take 3 c0))=3∧0+3≤3) (
 lt (yj [(V.sc (.int .i64 (0:Int))),(V.sc (.int .i64 (0:Int))),(V.sc (.int .u32 (0:Int)))] 0 (List.take 3 c0)) fun r1 =>
 cI .i64 r1 0 fun v2 =>
 ifb (decide (v2 ≥ p1)) (
 cI .i64 r1 0 fun v3 =>
 k_ret p10 ((v3:Int) == p1)) (
 lt (IntKind.wrap .i64 ((p10:Int)+(1:Int))) fun x4 =>
 k_hbaba p0 p1 p8 p9 x4))) (
 k_x0 p0)
theorem zeO {β:Type} (L:Nat) (p0:List (List V)) (p1:Int) (p8:List (List V)) (p9 p10:Int) (X:St→Option β) (K:KT β):xn zu (xt L) 0 L yQ (yW p0 p1 p8 p9 p10) (zeS zac X K)=zbh L p0 p1 p8 p9 p10 (fun p4 p5=>K .ret (zaO p4 p5)) (fun p0 p1 p8 p9 p10=>X (yW p0 p1 p8 p9 p10)) (fun p0=>K (.exit 0) (za7 p0)):=by kernel_rfl
def xD {β:Type} (L:Nat) (p4:Int) (p5:Bool) (k_fin:Int→Bool→Option β):Option β :=
 k_fin p4 p5
theorem zd4 {β:Type} (L:Nat) (p4:Int) (p5:Bool) (k:KK β):(yO 0 (zao (xn zu (xt L) 0 L zax) (zaW 0 (CF.res zI) k))) .ret (zaO p4 p5)=xD L p4 p5 (fun zph zpi=>k (V.tup [(V.sc (.int .i64 zph)),(V.sc (.bool zpi))]) []):=by kernel_rfl
def xO {β:Type} (L:Nat) (p0:List (List V)) (k_fin:Int→Bool→Option β):Option β :=
 k_fin ((List.length p0:Nat):Int) false
theorem zei {β:Type} (L:Nat) (p0:List (List V)) (k:KK β):(yO 0 (zao (xn zu (xt L) 0 L zax) (zaW 0 (CF.res zI) k))) (.exit 0) (za7 p0)=xO L p0 (fun zph zpi=>k (V.tup [(V.sc (.int .i64 zph)),(V.sc (.bool zpi))]) []):=by kernel_rfl
def xT {β:Type} (L:Nat) (k_ret:Int→Bool→Option β) (k_x0:List (List V)→Option β):Nat→List (List V)→Int→List (List V)→Int→Int→Option β
 | 0,_,_,_,_,_=>none
 | n+1,p0,p1,p8,p9,p10=>zbh L p0 p1 p8 p9 p10 k_ret (fun p0 p1 p8 p9 p10=>xT L k_ret k_x0 n p0 p1 p8 p9 p10) k_x0
theorem zca {β:Type} (L:Nat) (K:KT β):∀ (n:Nat) (p0:List (List V)) (p1:Int) (p8:List (List V)) (p9 p10:Int),yS (xn zu (xt L) 0 L yQ) zac n (yW p0 p1 p8 p9 p10) K=xT L (fun p4 p5=>K .ret (zaO p4 p5)) (fun p0=>K (.exit 0) (za7 p0)) n p0 p1 p8 p9 p10:=by
 intro n
 induction n with
 | zero=>intros; rfl
 | succ n ih =>
  intro p0 p1 p8 p9 p10
  refine (zeO L p0 p1 p8 p9 p10 (fun σ=>yS (xn zu (xt L) 0 L yQ) zac n σ K) K).trans ?_
  simp only [ih]
  rfl
def zY {β:Type} (L:Nat) (p0:List (List V)) (p1:Int) (k_fin:Int→Bool→Option β):Option β :=
 zap L p0 p1 (fun p0 p1 p8 p9 p10=>xT L (fun p4 p5=>xD L p4 p5 k_fin) (fun p0=>xO L p0 k_fin) L p0 p1 p8 p9 p10)
theorem zgc {β:Type} (L:Nat) (p0:List (List V)) (p1:Int) (k:KK β):xH zu (xt L) L zI [(V.sl 3 p0),(V.sc (.int .i64 p1))] [] k=zY L p0 p1 (fun zph zpi=>k (V.tup [(V.sc (.int .i64 zph)),(V.sc (.bool zpi))]) []):=by
 refine (zf8 L p0 p1 k).trans ?_
 unfold zY
 first
  | (simp only [zca,zd4,zei]; done)
  | (simp only [zca]; rfl)
abbrev za6:=∀ (β:Type),Nat→List (List V)→Int→(Int→Bool→Option β)→Option β
def zk (β:Type) (L:Nat) (p0:List (List V)) (p1:Int) (k_fin:Int→Bool→Option β):Option β:=zY L p0 p1 k_fin
def zbg (zk:za6) (L:Nat) (β:Type) (args:List V) (bor:Bor) (k:KK β):Option β:=match args,bor with
 | [a0,a1],[]=>aL 3 a0 fun p0=>aI .i64 a1 fun p1=>zk β L p0 p1 (fun zph zpi=>k (V.tup [(V.sc (.int .i64 zph)),(V.sc (.bool zpi))]) [])
 | _,_=>none
theorem zf7 (L:Nat) (β:Type) (args:List V) (bor:Bor) (k:KK β) (r:β) (h:zbg zk L β args bor k=some r):xH zu (xt L) L zI args bor k=some r:=by
 unfold zbg at h
 split at h
 ·have q:=zct h; clear h; obtain ⟨p0,rfl,h⟩:=q
  have q:=xJ h; clear h; obtain ⟨p1,rfl,h⟩:=q
  exact (zgc L p0 p1 k).trans h
 ·cases h
def yw:CF:=⟨8,[.tmp 2],
 (.seq (.reg [oo 2 (.move (.const (.gs 3 [])) true)])
 (.fork (.reg [oo 3 (.move (tq 0) false),
   oo 4 (.nilT false (tq 3))])
 (tq 4)
 (.seq (.reg [oo 2 (.nilS 3 7)])
 (.seq (.mask (bl 4 8) (bl 128 8))
 .ret))
 (.seq (.reg [⟨(some 5),true,none,.buildSlice 3 0 [(.sc (.int .i64 0)),(.sc (.int .i64 0)),(.sc (.int .u32 0))] []⟩,
   oo 6 (.move (tq 0) false),
   ⟨(some 7),true,none,.append 3 24 (tq 5) (tq 6)⟩,
   oo 2 (.move (tq 7) true)])
 (.seq (.mask (bl 4 8) (bl 128 8))
 .ret))))⟩
def xQ:Hint:=⟨[(0,0),(2,0),(3,3)],[(3,0),(3,2)],[none,some ((bl 4 8),(bl 128 8)),some ((bl 4 8),(bl 128 8))],[],[(2,0,[7])],false,false,[]⟩
def yE:Nat→Sh:=zcI []
def zF (L:Nat):CBC:=noC
def yG {β:Type} (L:Nat) (p0:List (List V)) (k_fin:List (List V)→Option β):Option β :=
 lc p0 (
 k_fin ([]:List (List V))) (fun h0 t0 =>
 chk ((0+List.length (h0::t0)) * 24≤zi∧0+List.length (h0::t0)≤zi) (
 chk ((List.length (h0::t0))≠0∨(List.length (List.flatten (h0::t0)))=0) (
 k_fin (zb 3 (List.length (h0::t0)) (List.flatten (h0::t0))))))
theorem zaY {β:Type} (L:Nat) (p0:List (List V)) (k:KK β):xH yE (zF L) L yw [(V.sl 3 p0)] [] k=yG L p0 (fun p0=>k (V.fr 3 p0) []):=by kernel_rfl
abbrev zx:=∀ (β:Type),Nat→List (List V)→(List (List V)→Option β)→Option β
def xb (β:Type) (L:Nat) (p0:List (List V)) (k_fin:List (List V)→Option β):Option β:=yG L p0 k_fin
def xw (xb:zx) (L:Nat) (β:Type) (args:List V) (bor:Bor) (k:KK β):Option β:=match args,bor with
 | [a0],[]=>aL 3 a0 fun p0=>xb β L p0 (fun p0=>k (V.fr 3 p0) [])
 | _,_=>none
theorem zaZ (L:Nat) (β:Type) (args:List V) (bor:Bor) (k:KK β) (r:β) (h:xw xb L β args bor k=some r):xH yE (zF L) L yw args bor k=some r:=by
 unfold xw at h
 split at h
 ·have q:=zct h; clear h; obtain ⟨p0,rfl,h⟩:=q
  exact (zaY L p0 k).trans h
 ·cases h
abbrev xv:=∀ (β:Type),Nat→Nat→Int→Nat→List V→List V→(List (List V)→Nat→List V→Option β)→Option β
def zc (β:Type) (L:Nat) (p0l:Nat) (p1:Int) (p2l:Nat) (b0 b1:List V) (k_fin:List (List V)→Nat→List V→Option β):Option β:=chk (zjM 3 24 p0l p2l p1 b0 b1) (k_fin (zeF 3 p0l p2l (Int.toNat p1) b0 b1) (List.length b0) b1)
def zw (zc:xv) (L:Nat) (β:Type) (args:List V) (bor:Bor) (k:KK β):Option β:=match args,bor with
 | [a0,a1,a2],[(.live true b0),(.live true b1)]=>aO0 0 3 a0 fun p0l=>aI .i64 a1 fun p1=>aO0 1 3 a2 fun p2l=>zc β L p0l p1 p2l b0 b1 (fun rr dd vv=>k (V.fr 3 rr) [.dead dd,.live true vv])
 | _,_=>none
def za5:CF:=⟨12,[.tmp 4],
 (.seq (.reg [oo 4 (.move (.const (.sc (.int .u32 0))) false)])
 (.seq (.seq (.reg [oo 5 (.move (tq 1) false),
   oo 6 (.move (tq 0) false),
   oo 7 (.un .xor (tq 6)),
   oo 8 (.bin .gtr (tq 5) (tq 7))])
 (.cond (tq 8)
 (.seq (.reg [oo 4 (.move (.const (.sc (.int .u32 4294967295))) false)])
 .ret)
 .skip))
 (.seq (.reg [oo 9 (.move (tq 0) false),
   oo 10 (.move (tq 1) false),
   oo 11 (.bin .add (tq 9) (tq 10)),
   oo 4 (.move (tq 11) false)])
 .ret)))⟩
def zdS:Hint:=⟨[],[],[none,none,none],[],[],false,false,[]⟩
def zcJ:Nat→Sh:=zcI []
def zcF (L:Nat):CBC:=noC
def zeU {β:Type} (L:Nat) (p0 p1:Int) (k_fin:Int→Option β):Option β :=
 lt (zoS .u32 p0) fun x0 =>
 ifb (decide (p1 > x0)) (
 k_fin (4294967295:Int)) (
 lt (IntKind.wrap .u32 ((p0:Int)+p1)) fun x1 =>
 k_fin x1)
theorem zgl {β:Type} (L:Nat) (p0 p1:Int) (k:KK β):xH zcJ (zcF L) L za5 [(V.sc (.int .u32 p0)),(V.sc (.int .u32 p1))] [] k=zeU L p0 p1 (fun p0=>k (V.sc (.int .u32 p0)) []):=by kernel_rfl
abbrev zbA:=∀ (β:Type),Nat→Int→Int→(Int→Option β)→Option β
def xk (β:Type) (L:Nat) (p0 p1:Int) (k_fin:Int→Option β):Option β:=zeU L p0 p1 k_fin
def zbF (xk:zbA) (L:Nat) (β:Type) (args:List V) (bor:Bor) (k:KK β):Option β:=match args,bor with
 | [a0,a1],[]=>aI .u32 a0 fun p0=>aI .u32 a1 fun p1=>xk β L p0 p1 (fun p0=>k (V.sc (.int .u32 p0)) [])
 | _,_=>none
theorem zgZ (L:Nat) (β:Type) (args:List V) (bor:Bor) (k:KK β) (r:β) (h:zbF xk L β args bor k=some r):xH zcJ (zcF L) L za5 args bor k=some r:=by
 unfold zbF at h
 split at h
 ·have q:=xJ h; clear h; obtain ⟨p0,rfl,h⟩:=q
  have q:=xJ h; clear h; obtain ⟨p1,rfl,h⟩:=q
  exact (zgl L p0 p1 k).trans h
 ·cases h
def zbD:CF:=⟨76,[.tmpP 10,.tmpP 11],
 (.seq (.reg [oo 10 (.move (.const (.gs 3 [])) true),
   oo 11 (.move (.const (.sc (.int .i64 0))) false)])
 (.seq (.seq (.reg [oo 15 (.move (tq 0) false),
   oo 16 (.call 313 [((tq 15),0)] []),
   oo 17 (.un .not (tq 16))])
 (.cond (tq 17)
 (.seq (.reg [oo 10 (.move (.const (.gs 3 [])) true),
   oo 11 (.move (.const (.sc (.int .i64 6))) false)])
 .ret)
 .skip))
 (.seq (.seq (.reg [oo 18 (.move (tq 1) false),
   oo 19 (.bin .lss (tq 18) (.const (.sc (.int .i64 0)))),
   oo 20 (.move (tq 19) false),
   ⟨(some 21),false,(some (20,false)),.move (tq 2) false⟩,
   ⟨(some 22),false,(some (20,false)),.bin .lss (tq 21) (.const (.sc (.int .i64 0)))⟩,
   oo 23 (.pick (tq 20) (.const (.sc (.bool true))) (tq 22))])
 (.cond (tq 23)
 (.seq (.reg [oo 10 (.move (.const (.gs 3 [])) true),
   oo 11 (.move (.const (.sc (.int .i64 5))) false)])
 .ret)
 .skip))
 (.seq (.reg [oo 25 (.move (tq 0) false),
   oo 26 (.move (tq 1) false),
   oo 27 (.call 314 [((tq 25),0),((tq 26),0)] []),
   oo 24 (.move (tq 27) true),
   oo 28 (.pull (tq 24) 0),
   oo 29 (.pull (tq 24) 1),
   oo 12 (.move (tq 28) false),
   oo 13 (.move (tq 29) false)])
 (.seq (.seq (.reg [oo 30 (.move (tq 13) false),
   oo 31 (.un .not (tq 30)),
   oo 32 (.move (tq 31) false),
   ⟨(some 33),false,(some (32,true)),.move (tq 0) false⟩,
   ⟨(some 34),false,(some (32,true)),.lenS (tq 33)⟩,
   ⟨(some 35),false,(some (32,true)),.bin .geq (tq 34) (.const (.sc (.int .i64 64)))⟩,
   oo 36 (.pick (tq 32) (tq 35) (.const (.sc (.bool false))))])
 (.cond (tq 36)
 (.seq (.reg [oo 10 (.move (.const (.gs 3 [])) true),
   oo 11 (.move (.const (.sc (.int .i64 380))) false)])
 .ret)
 .skip))
 (.seq (.reg [oo 37 (.move (tq 0) false),
   ⟨(some 38),true,none,.call 315 [((tq 37),0)] []⟩,
   oo 14 (.move (tq 38) true)])
 (.seq (.seq (.reg [oo 39 (.move (tq 13) false),
   oo 40 (.un .not (tq 39))])
 (.cond (tq 40)
 (.reg [oo 41 (.move (tq 14) false),
   oo 42 (.move (tq 12) false),
   oo 43 (.move (tq 1) false),
   oo 44 (.build [(.sc (.int .i64 0)),(.sc (.int .i64 0)),(.sc (.int .u32 0))] [(0,1,(tq 43))]),
   ⟨(some 45),true,none,.buildSlice 3 1 [(.sc (.int .i64 0)),(.sc (.int .i64 0)),(.sc (.int .u32 0))] [(0,3,(tq 44))]⟩,
   ⟨(some 46),true,none,.call 316 [((tq 41),2),((tq 42),2),((tq 45),2)] []⟩,
   oo 14 (.move (tq 46) true)])
 .skip))
 (.seq (.seq (.reg [oo 47 (.move (tq 2) false),
   oo 48 (.move (tq 14) false),
   oo 49 (.move (tq 12) false),
   oo 50 (.indexAddrS 3 (tq 48) (tq 49)),
   oo 51 (.fieldAddr 1 (tq 50)),
   oo 52 (.load false 1 (tq 51) false),
   oo 53 (.bin .sub (.const (.sc (.int .i64 100))) (tq 52)),
   oo 54 (.bin .geq (tq 47) (tq 53))])
 (.cond (tq 54)
 (.seq (.reg [oo 55 (.move (tq 14) false),
   oo 56 (.move (tq 12) false),
   oo 57 (.indexAddrS 3 (tq 55) (tq 56)),
   oo 58 (.fieldAddr 1 (tq 57)),
   oz (.store 1 (tq 58) (.const (.sc (.int .i64 100))))])
 (.reg [oo 59 (.move (tq 14) false),
   oo 60 (.move (tq 12) false),
   oo 61 (.move (tq 3) false),
   oo 62 (.move (tq 4) false),
   oo 63 (.call 317 [((tq 61),0),((tq 62),0)] []),
   oo 64 (.indexAddrS 3 (tq 59) (tq 60)),
   oo 65 (.fieldAddr 2 (tq 64)),
   oz (.store 1 (tq 65) (tq 63))]))
 (.reg [oo 66 (.move (tq 14) false),
   oo 67 (.move (tq 12) false),
   oo 68 (.indexAddrS 3 (tq 66) (tq 67)),
   oo 69 (.fieldAddr 1 (tq 68)),
   oo 70 (.load false 1 (tq 69) false),
   oo 71 (.move (tq 2) false),
   oo 72 (.bin .add (tq 70) (tq 71)),
   oo 73 (.indexAddrS 3 (tq 66) (tq 67)),
   oo 74 (.fieldAddr 1 (tq 73)),
   oz (.store 1 (tq 74) (tq 72))])))
 (.seq (.reg [oo 75 (.move (tq 14) true),
   oo 10 (.move (tq 75) true),
   oo 11 (.move (.const (.sc (.int .i64 0))) false)])
 .ret)))))))))⟩
def zee:Hint:=⟨[(0,0),(2,0),(4,0),(5,3),(7,0),(8,2),(10,5),(10,6),(15,0),(15,1)],[(8,1),(10,4),(10,5)],[none,none,none,none,none,none,none,none,none],[],[],true,false,[]⟩
def zdf:Nat→Sh:=zcI [(52,(.int .i64)),(70,(.int .i64))]
def zdh (zm:zby) (zk:za6) (xb:zx) (zc:xv) (xk:zbA) (L:Nat):CBC:=(zbZ 317 (zbF xk L) (zbZ 316 (zw zc L) (zbZ 315 (xw xb L) (zbZ 314 (zbg zk L) (zbZ 313 (zbz zm L) noC)))))
def zb4 {β:Type} (zm:zby) (zk:za6) (xb:zx) (zc:xv) (xk:zbA) (L:Nat) (p0:List (List V)) (p1 p2 p3 p4:Int) (k_fin:List (List V)→Int→Option β):Option β :=
 zm β L p0 (fun v0 =>
 ifb (!v0) (
 k_fin ([]:List (List V)) (6:Int)) (
 ifb (decide (p1 < (0:Int))) (
 k_fin ([]:List (List V)) (5:Int)) (
 ifb (decide (p2 < (0:Int))) (
 k_fin ([]:List (List V)) (5:Int)) (
 zk β L p0 p1 (fun v1 v2 =>
 ifb (!v2) (
 ifb (decide (((List.length p0:Nat):Int) ≥ (64:Int))) (
 k_fin ([]:List (List V)) (380:Int)) (
 xb β L p0 (fun v3 =>
 ifb (!v2) (
 zc β L (List.length v3) v1 1 (List.flatten v3) (List.flatten (zb 3 1 [(V.sc (.int .i64 p1)),(V.sc (.int .i64 (0:Int))),(V.sc (.int .u32 (0:Int)))])) (fun v4 v5 v6 =>
 chk ([v5,(List.length v6)]=[(List.length (List.flatten v3)),(List.length (List.flatten (zb 3 1 [(V.sc (.int .i64 p1)),(V.sc (.int .i64 (0:Int))),(V.sc (.int .u32 (0:Int)))])))]) (
 chk (0≤v1∧v1 < (((List.length v4):Nat):Int)) (
 cI .i64 (List.flatten v4) ((0+((Int.toNat v1) * 3))+1) fun v7 =>
 lt (IntKind.wrap .i64 (((100:Int):Int) - v7)) fun x8 =>
 ifb (decide (p2 ≥ x8)) (
 chk (0≤v1∧v1 < (((List.length v4):Nat):Int)) (
 chk (1=1∧((0+((Int.toNat v1) * 3))+1)+1≤(List.length (List.flatten v4))) (
 lt (yj (List.flatten v4) ((0+((Int.toNat v1) * 3))+1) [(V.sc (.int .i64 (100:Int)))]) fun r9 =>
 xk β L p3 p4 (fun v10 =>
 chk (0≤v1∧v1 < (((List.length v4):Nat):Int)) (
 chk (1=1∧((0+((Int.toNat v1) * 3))+2)+1≤(List.length r9)) (
 lt (yj r9 ((0+((Int.toNat v1) * 3))+2) [(V.sc (.int .u32 v10))]) fun r11 =>
 k_fin (zb 3 (List.length v4) r11) (0:Int))))))) (
 chk (0≤v1∧v1 < (((List.length v4):Nat):Int)) (
 cI .i64 (List.flatten v4) ((0+((Int.toNat v1) * 3))+1) fun v12 =>
 lt (IntKind.wrap .i64 ((v12:Int)+p2)) fun x13 =>
 chk (0≤v1∧v1 < (((List.length v4):Nat):Int)) (
 chk (1=1∧((0+((Int.toNat v1) * 3))+1)+1≤(List.length (List.flatten v4))) (
 lt (yj (List.flatten v4) ((0+((Int.toNat v1) * 3))+1) [(V.sc (.int .i64 x13))]) fun r14 =>
 k_fin (zb 3 (List.length v4) r14) (0:Int))))))))) (
 chk (0≤v1∧v1 < (((List.length v3):Nat):Int)) (
 cI .i64 (List.flatten v3) ((0+((Int.toNat v1) * 3))+1) fun v15 =>
 lt (IntKind.wrap .i64 (((100:Int):Int) - v15)) fun x16 =>
 ifb (decide (p2 ≥ x16)) (
 chk (0≤v1∧v1 < (((List.length v3):Nat):Int)) (
 chk (1=1∧((0+((Int.toNat v1) * 3))+1)+1≤(List.length (List.flatten v3))) (
 lt (yj (List.flatten v3) ((0+((Int.toNat v1) * 3))+1) [(V.sc (.int .i64 (100:Int)))]) fun r17 =>
 xk β L p3 p4 (fun v18 =>
 chk (0≤v1∧v1 < (((List.length v3):Nat):Int)) (
 chk (1=1∧((0+((Int.toNat v1) * 3))+2)+1≤(List.length r17)) (
 lt (yj r17 ((0+((Int.toNat v1) * 3))+2) [(V.sc (.int .u32 v18))]) fun r19 =>
 k_fin (zb 3 (List.length v3) r19) (0:Int))))))) (
 chk (0≤v1∧v1 < (((List.length v3):Nat):Int)) (
 cI .i64 (List.flatten v3) ((0+((Int.toNat v1) * 3))+1) fun v20 =>
 lt (IntKind.wrap .i64 ((v20:Int)+p2)) fun x21 =>
 chk (0≤v1∧v1 < (((List.length v3):Nat):Int)) (
 chk (1=1∧((0+((Int.toNat v1) * 3))+1)+1≤(List.length (List.flatten v3))) (
 lt (yj (List.flatten v3) ((0+((Int.toNat v1) * 3))+1) [(V.sc (.int .i64 x21))]) fun r22 =>
 k_fin (zb 3 (List.length v3) r22) (0:Int)))))))))) (
 xb β L p0 (fun v23 =>
 ifb (!v2) (
 zc β L (List.length v23) v1 1 (List.flatten v23) (List.flatten (zb 3 1 [(V.sc (.int .i64 p1)),(V.sc (.int .i64 (0:Int))),(V.sc (.int .u32 (0:Int)))])) (fun v24 v25 v26 =>
 chk ([v25,(List.length v26)]=[(List.length (List.flatten v23)),(List.length (List.flatten (zb 3 1 [(V.sc (.int .i64 p1)),(V.sc (.int .i64 (0:Int))),(V.sc (.int .u32 (0:Int)))])))]) (
 chk (0≤v1∧v1 < (((List.length v24):Nat):Int)) (
 cI .i64 (List.flatten v24) ((0+((Int.toNat v1) * 3))+1) fun v27 =>
 lt (IntKind.wrap .i64 (((100:Int):Int) - v27)) fun x28 =>
 ifb (decide (p2 ≥ x28)) (
 chk (0≤v1∧v1 < (((List.length v24):Nat):Int)) (
 chk (1=1∧((0+((Int.toNat v1) * 3))+1)+1≤(List.length (List.flatten v24))) (
 lt (yj (List.flatten v24) ((0+((Int.toNat v1) * 3))+1) [(V.sc (.int .i64 (100:Int)))]) fun r29 =>
 xk β L p3 p4 (fun v30 =>
 chk (0≤v1∧v1 < (((List.length v24):Nat):Int)) (
 chk (1=1∧((0+((Int.toNat v1) * 3))+2)+1≤(List.length r29)) (
 lt (yj r29 ((0+((Int.toNat v1) * 3))+2) [(V.sc (.int .u32 v30))]) fun r31 =>
 k_fin (zb 3 (List.length v24) r31) (0:Int))))))) (
 chk (0≤v1∧v1 < (((List.length v24):Nat):Int)) (
 cI .i64 (List.flatten v24) ((0+((Int.toNat v1) * 3))+1) fun v32 =>
 lt (IntKind.wrap .i64 ((v32:Int)+p2)) fun x33 =>
 chk (0≤v1∧v1 < (((List.length v24):Nat):Int)) (
 chk (1=1∧((0+((Int.toNat v1) * 3))+1)+1≤(List.length (List.flatten v24))) (
 lt (yj (List.flatten v24) ((0+((Int.toNat v1) * 3))+1) [(V.sc (.int .i64 x33))]) fun r34 =>
 k_fin (zb 3 (List.length v24) r34) (0:Int))))))))) (
 chk (0≤v1∧v1 < (((List.length v23):Nat):Int)) (
 cI .i64 (List.flatten v23) ((0+((Int.toNat v1) * 3))+1) fun v35 =>
 lt (IntKind.wrap .i64 (((100:Int):Int) - v35)) fun x36 =>
 ifb (decide (p2 ≥ x36)) (
 chk (0≤v1∧v1 < (((List.length v23):Nat):Int)) (
 chk (1=1∧((0+((Int.toNat v1) * 3))+1)+1≤(List.length (List.flatten v23))) (
 lt (yj (List.flatten v23) ((0+((Int.toNat v1) * 3))+1) [(V.sc (.int .i64 (100:Int)))]) fun r37 =>
 xk β L p3 p4 (fun v38 =>
 chk (0≤v1∧v1 < (((List.length v23):Nat):Int)) (
 chk (1=1∧((0+((Int.toNat v1) * 3))+2)+1≤(List.length r37)) (
 lt (yj r37 ((0+((Int.toNat v1) * 3))+2) [(V.sc (.int .u32 v38))]) fun r39 =>
 k_fin (zb 3 (List.length v23) r39) (0:Int))))))) (
 chk (0≤v1∧v1 < (((List.length v23):Nat):Int)) (
 cI .i64 (List.flatten v23) ((0+((Int.toNat v1) * 3))+1) fun v40 =>
 lt (IntKind.wrap .i64 ((v40:Int)+p2)) fun x41 =>
 chk (0≤v1∧v1 < (((List.length v23):Nat):Int)) (
 chk (1=1∧((0+((Int.toNat v1) * 3))+1)+1≤(List.length (List.flatten v23))) (
 lt (yj (List.flatten v23) ((0+((Int.toNat v1) * 3))+1) [(V.sc (.int .i64 x41))]) fun r42 =>
 k_fin (zb 3 (List.length v23) r42) (0:Int))))))))))))))
theorem zhc {β:Type} (zm:zby) (zk:za6) (xb:zx) (zc:xv) (xk:zbA) (L:Nat) (p0:List (List V)) (p1 p2 p3 p4:Int) (k:KK β):xH zdf (zdh zm zk xb zc xk L) L zbD [(V.sl 3 p0),(V.sc (.int .i64 p1)),(V.sc (.int .i64 p2)),(V.sc (.int .u32 p3)),(V.sc (.int .u32 p4))] [] k=zb4 zm zk xb zc xk L p0 p1 p2 p3 p4 (fun zph zpi=>k (V.tup [(V.gs 3 zph),(V.sc (.int .i64 zpi))]) []):=by kernel_rfl
abbrev xo:=∀ (β:Type),Nat→List (List V)→Int→Int→Int→Int→(List (List V)→Int→Option β)→Option β
def ya (β:Type) (L:Nat) (p0:List (List V)) (p1 p2 p3 p4:Int) (k_fin:List (List V)→Int→Option β):Option β:=zb4 zm zk xb zc xk L p0 p1 p2 p3 p4 k_fin
def za1 (ya:xo) (L:Nat) (β:Type) (args:List V) (bor:Bor) (k:KK β):Option β:=match args,bor with
 | [a0,a1,a2,a3,a4],[]=>aL 3 a0 fun p0=>aI .i64 a1 fun p1=>aI .i64 a2 fun p2=>aI .u32 a3 fun p3=>aI .u32 a4 fun p4=>ya β L p0 p1 p2 p3 p4 (fun zph zpi=>k (V.tup [(V.gs 3 zph),(V.sc (.int .i64 zpi))]) [])
 | _,_=>none
theorem zg9 (L:Nat) (β:Type) (args:List V) (bor:Bor) (k:KK β) (r:β) (h:za1 ya L β args bor k=some r):xH zdf (zdh zm zk xb zc xk L) L zbD args bor k=some r:=by
 unfold za1 at h
 split at h
 ·have q:=zct h; clear h; obtain ⟨p0,rfl,h⟩:=q
  have q:=xJ h; clear h; obtain ⟨p1,rfl,h⟩:=q
  have q:=xJ h; clear h; obtain ⟨p2,rfl,h⟩:=q
  have q:=xJ h; clear h; obtain ⟨p3,rfl,h⟩:=q
  have q:=xJ h; clear h; obtain ⟨p4,rfl,h⟩:=q
  exact (zhc zm zk xb zc xk L p0 p1 p2 p3 p4 k).trans h
 ·cases h
def zaM:CF:=⟨14,[.tmp 4],
 (.seq (.reg [oo 2 (.box true (tq 0)),
   oo 4 (.move (.const (.sc (.bool false))) false)])
 (.seq (.reg [oo 5 (.fieldAddr 1 (tq 2)),
   oo 6 (.load false 1 (tq 5) false),
   oo 7 (.bin .eql (tq 6) (.const (.sc (.int .i64 100)))),
   oo 8 (.move (tq 7) false),
   ⟨(some 9),false,(some (8,true)),.fieldAddr 2 (tq 2)⟩,
   ⟨(some 10),false,(some (8,true)),.load false 1 (tq 9) false⟩,
   ⟨(some 11),false,(some (8,true)),.move (tq 1) false⟩,
   ⟨(some 12),false,(some (8,true)),.bin .gtr (tq 10) (tq 11)⟩,
   oo 13 (.pick (tq 8) (tq 12) (.const (.sc (.bool false)))),
   oo 4 (.move (tq 13) false)])
 .ret))⟩
def zdw:Hint:=⟨[],[],[none],[],[],false,false,[]⟩
def zcf:Nat→Sh:=zcI [(6,(.int .i64)),(10,(.int .u32))]
def zcg (L:Nat):CBC:=noC
def zet {β:Type} (L:Nat) (p0:List V) (p1:Int) (k_fin:Bool→Option β):Option β :=
 cI .i64 p0 1 fun v0 =>
 ifb ((v0:Int) == (100:Int)) (
 cI .u32 p0 2 fun v1 =>
 k_fin (decide (v1 > p1))) (
 k_fin false)
theorem zgd {β:Type} (L:Nat) (p0:List V) (p1:Int) (k:KK β):xH zcf (zcg L) L zaM [(V.agg p0),(V.sc (.int .u32 p1))] [] k=zet L p0 p1 (fun p0=>k (V.sc (.bool p0)) []):=by kernel_rfl
abbrev zo:=∀ (β:Type),Nat→List V→Int→(Bool→Option β)→Option β
def yb (β:Type) (L:Nat) (p0:List V) (p1:Int) (k_fin:Bool→Option β):Option β:=zet L p0 p1 k_fin
def zbk (yb:zo) (L:Nat) (β:Type) (args:List V) (bor:Bor) (k:KK β):Option β:=match args,bor with
 | [a0,a1],[]=>aG a0 fun p0=>aI .u32 a1 fun p1=>yb β L p0 p1 (fun p0=>k (V.sc (.bool p0)) [])
 | _,_=>none
theorem zgb (L:Nat) (β:Type) (args:List V) (bor:Bor) (k:KK β) (r:β) (h:zbk yb L β args bor k=some r):xH zcf (zcg L) L zaM args bor k=some r:=by
 unfold zbk at h
 split at h
 ·have q:=zoj h; clear h; obtain ⟨p0,rfl,h⟩:=q
  have q:=xJ h; clear h; obtain ⟨p1,rfl,h⟩:=q
  exact (zgd L p0 p1 k).trans h
 ·cases h
def zS:CC:=(.seq (.reg [oo 12 (.bin .lss (tq 11) (tq 10))])
 (.seq (.cond (tq 12)
 .skip
 (.seq (.mask (bl 0 25) (bl 29359807 25))
 (.exit 0)))
 (.seq (.block 1 (.seq (.reg [oo 13 (.indexAddrS 3 (tq 9) (tq 11)),
   oo 14 (.load true 3 (tq 13) false),
   oo 8 (.alloc true [(.sc (.int .i64 0)),(.sc (.int .i64 0)),(.sc (.int .u32 0))]),
   oz (.store 3 (tq 8) (tq 14))])
 (.seq (.reg [oo 15 (.fieldAddr 0 (tq 8)),
   oo 16 (.load false 1 (tq 15) false),
   oo 17 (.move (tq 1) false),
   oo 18 (.bin .eql (tq 16) (tq 17)),
   oo 19 (.move (tq 18) false),
   ⟨(some 20),false,(some (19,true)),.load true 3 (tq 8) false⟩,
   ⟨(some 21),false,(some (19,true)),.move (tq 2) false⟩,
   ⟨(some 22),false,(some (19,true)),.call 320 [((tq 20),0),((tq 21),0)] []⟩,
   oo 23 (.pick (tq 19) (tq 22) (.const (.sc (.bool false))))])
 (.cond (tq 23)
 (.seq (.reg [oo 6 (.move (.const (.sc (.bool true))) false)])
 (.seq (.mask (bl 64 25) (bl 29359871 25))
 .ret))
 .skip))))
 (.reg [oo 24 (.bin .add (tq 11) (.const (.sc (.int .i64 1)))),
   oo 11 (.move (tq 24) false)]))))
def zaG:CC:=(.seq (.reg [oo 6 (.move (.const (.sc (.bool false))) false)])
 .ret)
def yI:CF:=⟨25,[.tmp 6],
 (.seq (.reg [oo 6 (.move (.const (.sc (.bool false))) false)])
 (.seq (.seq (.reg [oo 9 (.move (tq 0) false),
   oo 10 (.lenS (tq 9)),
   oo 11 (.move (.const (.sc (.int .i64 0))) false)])
 (.block 0 (.loop (bl 3590 25) (bl 29359807 25)
 zS)))
 zaG))⟩
def zdy:Hint:=⟨[],[],[none,some ((bl 3590 25),(bl 29359807 25)),none,some ((bl 0 25),(bl 29359807 25)),none,none,some ((bl 64 25),(bl 29359871 25)),none],[],[],false,false,[]⟩
def zt:Nat→Sh:=zcI [(16,(.int .i64))]
def yt (yb:zo) (L:Nat):CBC:=(zbZ 320 (zbk yb L) noC)
def zaf:St→St:=zaL 0 (bl 3590 25) (bl 29359807 25)
def zW (p1 p2:Int) (p9:List (List V)) (p10 p11:Int):St:=⟨(jn 1 ((V.sc (.int .i64 p1))::((V.sc (.int .u32 p2))::(jn 6 ((V.sl 3 p9)::((V.sc (.int .i64 p10))::((V.sc (.int .i64 p11))::(jn 13 [])))))))),(gn 25 [])⟩
def zaT (p6:Bool):St:=⟨(jn 6 ((V.sc (.bool p6))::(jn 18 []))),(gn 25 [])⟩
def zbj:St:=⟨(jn 25 []),(gn 25 [])⟩
def zeL {β:Type} (yb:zo) (L:Nat) (p0:List (List V)) (p1 p2:Int) (k_hbaba:Int→Int→List (List V)→Int→Int→Option β):Option β :=
 k_hbaba p1 p2 p0 ((List.length p0:Nat):Int) (0:Int)
theorem zf9 {β:Type} (yb:zo) (L:Nat) (p0:List (List V)) (p1 p2:Int) (k:KK β):xH zt (yt yb L) L yI [(V.sl 3 p0),(V.sc (.int .i64 p1)),(V.sc (.int .u32 p2))] [] k=zeL yb L p0 p1 p2 (fun p1 p2 p9 p10 p11=>yS (xn zt (yt yb L) 0 L zS) zaf L (zW p1 p2 p9 p10 p11) (yO 0 (zao (xn zt (yt yb L) 0 L zaG) (zaW 0 (CF.res yI) k)))):=by kernel_rfl
def zcV {β:Type} (yb:zo) (L:Nat) (p1 p2:Int) (p9:List (List V)) (p10 p11:Int) (k_ret:Bool→Option β) (k_hbaba:Int→Int→List (List V)→Int→Int→Option β) (k_x0:Option β):Option β :=
 ifb (decide (p11 < p10)) (
 idx p9 p11 fun c0 =>
 chk ((List.length (List.take 3 c0))=3∧0+3≤3) (
 lt (yj [(V.sc (.int .i64 (0:Int))),(V.sc (.int .i64 (0:Int))),(V.sc (.int .u32 (0:Int)))] 0 (List.take 3 c0)) fun r1 =>
 cI .i64 r1 0 fun v2 =>
 ifb ((v2:Int) == p1) (
 chk (0+3≤(List.length r1)) (
 yb β L (List.take 3 r1) p2 (fun v3 =>
 ifb v3 (
 k_ret true) (
 lt (IntKind.wrap .i64 ((p11:Int)+(1:Int))) fun x4 =>
 k_hbaba p1 p2 p9 p10 x4)))) (
 lt (IntKind.wrap .i64 ((p11:Int)+(1:Int))) fun x5 =>
 k_hbaba p1 p2 p9 p10 x5))) (
 k_x0)
theorem zeP {β:Type} (yb:zo) (L:Nat) (p1 p2:Int) (p9:List (List V)) (p10 p11:Int) (X:St→Option β) (K:KT β):xn zt (yt yb L) 0 L zS (zW p1 p2 p9 p10 p11) (zeS zaf X K)=zcV yb L p1 p2 p9 p10 p11 (fun p6=>K .ret (zaT p6)) (fun p1 p2 p9 p10 p11=>X (zW p1 p2 p9 p10 p11)) (K (.exit 0) (zbj)):=by kernel_rfl
def zcb {β:Type} (yb:zo) (L:Nat) (p6:Bool) (k_fin:Bool→Option β):Option β :=
 k_fin p6
theorem zd8 {β:Type} (yb:zo) (L:Nat) (p6:Bool) (k:KK β):(yO 0 (zao (xn zt (yt yb L) 0 L zaG) (zaW 0 (CF.res yI) k))) .ret (zaT p6)=zcb yb L p6 (fun p0=>k (V.sc (.bool p0)) []):=by kernel_rfl
def zcq {β:Type} (yb:zo) (L:Nat) (k_fin:Bool→Option β):Option β :=
 k_fin false
theorem zel {β:Type} (yb:zo) (L:Nat) (k:KK β):(yO 0 (zao (xn zt (yt yb L) 0 L zaG) (zaW 0 (CF.res yI) k))) (.exit 0) (zbj)=zcq yb L (fun p0=>k (V.sc (.bool p0)) []):=by kernel_rfl
def zbi {β:Type} (yb:zo) (L:Nat) (k_ret:Bool→Option β) (k_x0:Option β):Nat→Int→Int→List (List V)→Int→Int→Option β
 | 0,_,_,_,_,_=>none
 | n+1,p1,p2,p9,p10,p11=>zcV yb L p1 p2 p9 p10 p11 k_ret (fun p1 p2 p9 p10 p11=>zbi yb L k_ret k_x0 n p1 p2 p9 p10 p11) k_x0
theorem zcd {β:Type} (yb:zo) (L:Nat) (K:KT β):∀ (n:Nat) (p1 p2:Int) (p9:List (List V)) (p10 p11:Int),yS (xn zt (yt yb L) 0 L zS) zaf n (zW p1 p2 p9 p10 p11) K=zbi yb L (fun p6=>K .ret (zaT p6)) (K (.exit 0) (zbj)) n p1 p2 p9 p10 p11:=by
 intro n
 induction n with
 | zero=>intros; rfl
 | succ n ih =>
  intro p1 p2 p9 p10 p11
  refine (zeP yb L p1 p2 p9 p10 p11 (fun σ=>yS (xn zt (yt yb L) 0 L zS) zaf n σ K) K).trans ?_
  simp only [ih]
  rfl
def zcG {β:Type} (yb:zo) (L:Nat) (p0:List (List V)) (p1 p2:Int) (k_fin:Bool→Option β):Option β :=
 zeL yb L p0 p1 p2 (fun p1 p2 p9 p10 p11=>zbi yb L (fun p6=>zcb yb L p6 k_fin) (zcq yb L k_fin) L p1 p2 p9 p10 p11)
theorem zga {β:Type} (yb:zo) (L:Nat) (p0:List (List V)) (p1 p2:Int) (k:KK β):xH zt (yt yb L) L yI [(V.sl 3 p0),(V.sc (.int .i64 p1)),(V.sc (.int .u32 p2))] [] k=zcG yb L p0 p1 p2 (fun p0=>k (V.sc (.bool p0)) []):=by
 refine (zf9 yb L p0 p1 p2 k).trans ?_
 unfold zcG
 first
  | (simp only [zcd,zd8,zel]; done)
  | (simp only [zcd]; rfl)
abbrev zba:=∀ (β:Type),Nat→List (List V)→Int→Int→(Bool→Option β)→Option β
def zl (β:Type) (L:Nat) (p0:List (List V)) (p1 p2:Int) (k_fin:Bool→Option β):Option β:=zcG yb L p0 p1 p2 k_fin
def zbe (zl:zba) (L:Nat) (β:Type) (args:List V) (bor:Bor) (k:KK β):Option β:=match args,bor with
 | [a0,a1,a2],[]=>aL 3 a0 fun p0=>aI .i64 a1 fun p1=>aI .u32 a2 fun p2=>zl β L p0 p1 p2 (fun p0=>k (V.sc (.bool p0)) [])
 | _,_=>none
theorem zge (L:Nat) (β:Type) (args:List V) (bor:Bor) (k:KK β) (r:β) (h:zbe zl L β args bor k=some r):xH zt (yt yb L) L yI args bor k=some r:=by
 unfold zbe at h
 split at h
 ·have q:=zct h; clear h; obtain ⟨p0,rfl,h⟩:=q
  have q:=xJ h; clear h; obtain ⟨p1,rfl,h⟩:=q
  have q:=xJ h; clear h; obtain ⟨p2,rfl,h⟩:=q
  exact (zga yb L p0 p1 p2 k).trans h
 ·cases h
def zcx:CF:=⟨34,[.tmp 0],
 (.seq (.reg [oo 0 (.move (.const (.sc (.bool false))) false)])
 (.seq (.reg [oo 6 (.call 309 [((.const (.gs 3 [])),0),((.const (.sc (.int .i64 3))),0),((.const (.sc (.int .i64 50))),0),((.const (.sc (.int .u32 10))),0),((.const (.sc (.int .u32 100))),0)] []),
   oo 5 (.move (tq 6) true),
   oo 7 (.extract (tq 5) 0),
   oo 8 (.pull (tq 5) 1),
   oo 1 (.move (tq 7) false),
   oo 2 (.move (tq 8) false)])
 (.seq (.reg [oo 10 (.move (tq 1) false),
   oo 11 (.call 309 [((tq 10),0),((.const (.sc (.int .i64 3))),0),((.const (.sc (.int .i64 50))),0),((.const (.sc (.int .u32 20))),0),((.const (.sc (.int .u32 100))),0)] []),
   oo 9 (.move (tq 11) true),
   oo 12 (.extract (tq 9) 0),
   oo 13 (.pull (tq 9) 1),
   oo 3 (.move (tq 12) false),
   oo 4 (.move (tq 13) false)])
 (.seq (.reg [oo 14 (.move (tq 2) false),
   oo 15 (.bin .eql (tq 14) (.const (.sc (.int .i64 0)))),
   oo 16 (.move (tq 15) false),
   ⟨(some 17),false,(some (16,true)),.move (tq 4) false⟩,
   ⟨(some 18),false,(some (16,true)),.bin .eql (tq 17) (.const (.sc (.int .i64 0)))⟩,
   oo 19 (.pick (tq 16) (tq 18) (.const (.sc (.bool false)))),
   oo 20 (.move (tq 19) false),
   ⟨(some 21),false,(some (20,true)),.move (tq 1) false⟩,
   ⟨(some 22),false,(some (20,true)),.call 312 [((tq 21),0),((.const (.sc (.int .i64 3))),0),((.const (.sc (.int .u32 10))),0)] []⟩,
   ⟨(some 23),false,(some (20,true)),.un .not (tq 22)⟩,
   oo 24 (.pick (tq 20) (tq 23) (.const (.sc (.bool false)))),
   oo 25 (.move (tq 24) false),
   ⟨(some 26),false,(some (25,true)),.move (tq 3) false⟩,
   ⟨(some 27),false,(some (25,true)),.call 312 [((tq 26),0),((.const (.sc (.int .i64 3))),0),((.const (.sc (.int .u32 119))),0)] []⟩,
   oo 28 (.pick (tq 25) (tq 27) (.const (.sc (.bool false)))),
   oo 29 (.move (tq 28) false),
   ⟨(some 30),false,(some (29,true)),.move (tq 3) false⟩,
   ⟨(some 31),false,(some (29,true)),.call 312 [((tq 30),0),((.const (.sc (.int .i64 3))),0),((.const (.sc (.int .u32 120))),0)] []⟩,
   ⟨(some 32),false,(some (29,true)),.un .not (tq 31)⟩,
   oo 33 (.pick (tq 29) (tq 32) (.const (.sc (.bool false)))),
   oo 0 (.move (tq 33) false)])
 .ret))))⟩
def zeY:Hint:=⟨[(1,1),(1,2),(2,2),(2,3)],[],[none],[],[],false,false,[]⟩
def zd3:Nat→Sh:=zcI []
def zd6 (ya:xo) (zl:zba) (L:Nat):CBC:=(zbZ 312 (zbe zl L) (zbZ 309 (za1 ya L) noC))
def zgr {β:Type} (ya:xo) (zl:zba) (L:Nat) (k_fin:Bool→Option β):Option β :=
 ya β L ([]:List (List V)) (3:Int) (50:Int) (10:Int) (100:Int) (fun v0 v1 =>
 ya β L v0 (3:Int) (50:Int) (20:Int) (100:Int) (fun v2 v3 =>
 ifb ((v1:Int) == (0:Int)) (
 ifb ((v3:Int) == (0:Int)) (
 zl β L v0 (3:Int) (10:Int) (fun v4 =>
 ifb (!v4) (
 zl β L v2 (3:Int) (119:Int) (fun v5 =>
 ifb v5 (
 zl β L v2 (3:Int) (120:Int) (fun v6 =>
 k_fin (!v6))) (
 k_fin false))) (
 k_fin false))) (
 k_fin false)) (
 k_fin false)))
theorem ziF {β:Type} (ya:xo) (zl:zba) (L:Nat) (k:KK β):xH zd3 (zd6 ya zl L) L zcx [] [] k=zgr ya zl L (fun p0=>k (V.sc (.bool p0)) []):=by kernel_rfl
abbrev xG:=∀ (β:Type),Nat→(Bool→Option β)→Option β
def zf (β:Type) (L:Nat) (k_fin:Bool→Option β):Option β:=zgr ya zl L k_fin
def zcY (zf:xG) (L:Nat) (β:Type) (args:List V) (bor:Bor) (k:KK β):Option β:=match args,bor with
 | [],[]=>zf β L (fun p0=>k (V.sc (.bool p0)) [])
 | _,_=>none
theorem ziv (L:Nat) (β:Type) (args:List V) (bor:Bor) (k:KK β) (r:β) (h:zcY zf L β args bor k=some r):xH zd3 (zd6 ya zl L) L zcx args bor k=some r:=by
 unfold zcY at h
 split at h
 ·exact (ziF ya zl L k).trans h
 ·cases h
def zdN:CF:=⟨15,[.tmp 4],
 (.seq (.reg [oo 4 (.move (.const (.sc (.int .i64 0))) false)])
 (.seq (.reg [oo 6 (.move (tq 0) false),
   oo 7 (.move (tq 1) false),
   oo 8 (.bin .rem (tq 6) (tq 7)),
   oo 5 (.move (tq 8) false)])
 (.seq (.seq (.reg [oo 9 (.move (tq 5) false),
   oo 10 (.bin .lss (tq 9) (.const (.sc (.int .i64 0))))])
 (.cond (tq 10)
 (.reg [oo 11 (.move (tq 5) false),
   oo 12 (.move (tq 1) false),
   oo 13 (.bin .add (tq 11) (tq 12)),
   oo 5 (.move (tq 13) false)])
 .skip))
 (.seq (.reg [oo 14 (.move (tq 5) false),
   oo 4 (.move (tq 14) false)])
 .ret))))⟩
def zf0:Hint:=⟨[],[],[none,none],[],[],false,false,[]⟩
def zfi:Nat→Sh:=zcI []
def zfg (L:Nat):CBC:=noC
def zej {β:Type} (L:Nat) (p0 p1:Int) (k_fin:Int→Option β):Option β :=
 chk (p1≠0) (
 lt (Int.tmod p0 p1) fun x0 =>
 ifb (decide (x0 < (0:Int))) (
 lt (IntKind.wrap .i64 ((x0:Int)+p1)) fun x1 =>
 k_fin x1) (
 k_fin x0))
theorem zjE {β:Type} (L:Nat) (p0 p1:Int) (k:KK β):xH zfi (zfg L) L zdN [(V.sc (.int .i64 p0)),(V.sc (.int .i64 p1))] [] k=zej L p0 p1 (fun p0=>k (V.sc (.int .i64 p0)) []):=by kernel_rfl
abbrev zQ:=∀ (β:Type),Nat→Int→Int→(Int→Option β)→Option β
def yg (β:Type) (L:Nat) (p0 p1:Int) (k_fin:Int→Option β):Option β:=zej L p0 p1 k_fin
def zem (yg:zQ) (L:Nat) (β:Type) (args:List V) (bor:Bor) (k:KK β):Option β:=match args,bor with
 | [a0,a1],[]=>aI .i64 a0 fun p0=>aI .i64 a1 fun p1=>yg β L p0 p1 (fun p0=>k (V.sc (.int .i64 p0)) [])
 | _,_=>none
theorem zjL (L:Nat) (β:Type) (args:List V) (bor:Bor) (k:KK β) (r:β) (h:zem yg L β args bor k=some r):xH zfi (zfg L) L zdN args bor k=some r:=by
 unfold zem at h
 split at h
 ·have q:=xJ h; clear h; obtain ⟨p0,rfl,h⟩:=q
  have q:=xJ h; clear h; obtain ⟨p1,rfl,h⟩:=q
  exact (zjE L p0 p1 k).trans h
 ·cases h
def z4:CC:=(.seq (.seq (.reg [oo 4 (.move (tq 3) false),
   oo 5 (.move (tq 0) false),
   oo 6 (.lenS (tq 5)),
   oo 7 (.bin .lss (tq 4) (tq 6))])
 (.cond (tq 7)
 .skip
 (.seq (.mask (bl 1 53) (bl 9007199254740915 53))
 (.exit 0))))
 (.seq (.block 1 (.seq (.dreg [] [(oo 10 (.move (tq 0) false),q0),
   (oo 11 (.move (tq 3) false),q0),
   (oo 12 (.indexAddrS 3 (tq 10) (tq 11)),q0),
   (oo 13 (.fieldAddr 0 (tq 12)),q0),
   (oo 14 (.load false 1 (tq 13) false),q0),
   (oo 15 (.bin .lss (tq 14) (.const (.sc (.int .i64 0)))),q0),
   (oo 16 (.move (tq 15) false),q0),
   (⟨(some 17),false,(some (16,false)),.move (tq 3) false⟩,q0),
   (⟨(some 18),false,(some (16,false)),.bin .gtr (tq 17) (.const (.sc (.int .i64 0)))⟩,q0),
   (⟨(some 19),false,(some (16,false)),.move (tq 18) false⟩,q0),
   (⟨(some 20),false,(some (19,true)),.move (tq 0) false⟩,q0),
   (⟨(some 21),false,(some (19,true)),.move (tq 3) false⟩,q0),
   (⟨(some 22),false,(some (19,true)),.bin .sub (tq 21) (.const (.sc (.int .i64 1)))⟩,q0),
   (⟨(some 23),false,(some (19,true)),.indexAddrS 3 (tq 20) (tq 22)⟩,q0),
   (⟨(some 24),false,(some (19,true)),.fieldAddr 0 (tq 23)⟩,q0),
   (⟨(some 25),false,(some (19,true)),.load false 1 (tq 24) false⟩,qc [] []),
   (⟨(some 26),false,(some (19,true)),.move (tq 0) false⟩,q0),
   (⟨(some 27),false,(some (19,true)),.move (tq 3) false⟩,q0),
   (⟨(some 28),false,(some (19,true)),.indexAddrS 3 (tq 26) (tq 27)⟩,q0),
   (⟨(some 29),false,(some (19,true)),.fieldAddr 0 (tq 28)⟩,q0),
   (⟨(some 30),false,(some (19,true)),.load false 1 (tq 29) false⟩,qc [] []),
   (⟨(some 31),false,(some (19,true)),.bin .geq (tq 25) (tq 30)⟩,q0),
   (⟨(some 32),false,(some (16,false)),.pick (tq 19) (tq 31) (.const (.sc (.bool false)))⟩,q0),
   (oo 33 (.pick (tq 16) (.const (.sc (.bool true))) (tq 32)),q0),
   (oo 34 (.move (tq 33) false),q0),
   (⟨(some 35),false,(some (34,false)),.move (tq 0) false⟩,q0),
   (⟨(some 36),false,(some (34,false)),.move (tq 3) false⟩,q0),
   (⟨(some 37),false,(some (34,false)),.indexAddrS 3 (tq 35) (tq 36)⟩,q0),
   (⟨(some 38),false,(some (34,false)),.fieldAddr 1 (tq 37)⟩,q0),
   (⟨(some 39),false,(some (34,false)),.load false 1 (tq 38) false⟩,q0),
   (⟨(some 40),false,(some (34,false)),.bin .lss (tq 39) (.const (.sc (.int .i64 0)))⟩,q0),
   (oo 41 (.pick (tq 34) (.const (.sc (.bool true))) (tq 40)),q0),
   (oo 42 (.move (tq 41) false),q0),
   (⟨(some 43),false,(some (42,false)),.move (tq 0) false⟩,q0),
   (⟨(some 44),false,(some (42,false)),.move (tq 3) false⟩,q0),
   (⟨(some 45),false,(some (42,false)),.indexAddrS 3 (tq 43) (tq 44)⟩,q0),
   (⟨(some 46),false,(some (42,false)),.fieldAddr 1 (tq 45)⟩,q0),
   (⟨(some 47),false,(some (42,false)),.load false 1 (tq 46) false⟩,q0),
   (⟨(some 48),false,(some (42,false)),.bin .gtr (tq 47) (.const (.sc (.int .i64 100)))⟩,q0),
   (oo 49 (.pick (tq 42) (.const (.sc (.bool true))) (tq 48)),q0)])
 (.cond (tq 49)
 (.seq (.reg [oo 2 (.move (.const (.sc (.bool false))) false)])
 (.seq (.mask (bl 4 53) (bl 9007199254740919 53))
 .ret))
 .skip)))
 (.reg [oo 8 (.move (tq 3) false),
   oo 9 (.bin .add (tq 8) (.const (.sc (.int .i64 1)))),
   oo 3 (.move (tq 9) false)])))
def zbC:CC:=(.seq (.reg [oo 50 (.move (tq 0) false),
   oo 51 (.lenS (tq 50)),
   oo 52 (.bin .leq (tq 51) (.const (.sc (.int .i64 64)))),
   oo 2 (.move (tq 52) false)])
 .ret)
def xR:CF:=⟨53,[.tmp 2],
 (.seq (.reg [oo 2 (.move (.const (.sc (.bool false))) false)])
 (.seq (.seq (.reg [oo 3 (.move (.const (.sc (.int .i64 0))) false)])
 (.block 0 (.loop (bl 9 53) (bl 9007199254740923 53)
 z4)))
 zbC))⟩
def zeD:Hint:=⟨[],[],[none,some ((bl 9 53),(bl 9007199254740923 53)),none,some ((bl 1 53),(bl 9007199254740915 53)),none,none,some ((bl 4 53),(bl 9007199254740919 53)),none],[],[],false,false,[]⟩
def yD:Nat→Sh:=zcI [(14,(.int .i64)),(25,(.int .i64)),(30,(.int .i64)),(39,(.int .i64)),(47,(.int .i64))]
def xC (L:Nat):CBC:=noC
def zaN:St→St:=zaL 0 (bl 9 53) (bl 9007199254740923 53)
def zag (p0:List (List V)) (p3:Int):St:=⟨((V.sl 3 p0)::(jn 2 ((V.sc (.int .i64 p3))::(jn 49 [])))),(gn 53 [])⟩
def zbL (p2:Bool):St:=⟨(jn 2 ((V.sc (.bool p2))::(jn 50 []))),(gn 53 [])⟩
def zcj (p0:List (List V)):St:=⟨((V.sl 3 p0)::(jn 52 [])),(gn 53 [])⟩
def zeb {β:Type} (L:Nat) (p0:List (List V)) (k_hbaba:List (List V)→Int→Option β):Option β :=
 k_hbaba p0 (0:Int)
theorem zhO {β:Type} (L:Nat) (p0:List (List V)) (k:KK β):xH yD (xC L) L xR [(V.sl 3 p0)] [] k=zeb L p0 (fun p0 p3=>yS (xn yD (xC L) 0 L z4) zaN L (zag p0 p3) (yO 0 (zao (xn yD (xC L) 0 L zbC) (zaW 0 (CF.res xR) k)))):=by kernel_rfl
def zck {β:Type} (L:Nat) (p0:List (List V)) (p3:Int) (k_ret:Bool→Option β) (k_hbaba:List (List V)→Int→Option β) (k_x0:List (List V)→Option β):Option β :=
 ifb (decide (p3 < ((List.length p0:Nat):Int))) (
 idx p0 p3 fun c0 =>
 cI .i64 c0 0 fun v1 =>
 ifb (decide (v1 < (0:Int))) (
 k_ret false) (
 ifb (decide (p3 > (0:Int))) (
 lt (IntKind.wrap .i64 ((p3:Int) - (1:Int))) fun x2 =>
 idx p0 x2 fun c3 =>
 cI .i64 c3 0 fun v4 =>
 idx p0 p3 fun c5 =>
 cI .i64 c5 0 fun v6 =>
 ifb (decide (v4 ≥ v6)) (
 k_ret false) (
 idx p0 p3 fun c7 =>
 cI .i64 (List.drop 1 c7) 0 fun v8 =>
 ifb (decide (v8 < (0:Int))) (
 k_ret false) (
 idx p0 p3 fun c9 =>
 cI .i64 (List.drop 1 c9) 0 fun v10 =>
 ifb (decide (v10 > (100:Int))) (
 k_ret false) (
 lt (IntKind.wrap .i64 ((p3:Int)+(1:Int))) fun x11 =>
 k_hbaba p0 x11)))) (
 idx p0 p3 fun c12 =>
 cI .i64 (List.drop 1 c12) 0 fun v13 =>
 ifb (decide (v13 < (0:Int))) (
 k_ret false) (
 idx p0 p3 fun c14 =>
 cI .i64 (List.drop 1 c14) 0 fun v15 =>
 ifb (decide (v15 > (100:Int))) (
 k_ret false) (
 lt (IntKind.wrap .i64 ((p3:Int)+(1:Int))) fun x16 =>
 k_hbaba p0 x16))))) (
 k_x0 p0)
theorem zfQ {β:Type} (L:Nat) (p0:List (List V)) (p3:Int) (X:St→Option β) (K:KT β):xn yD (xC L) 0 L z4 (zag p0 p3) (zeS zaN X K)=zck L p0 p3 (fun p2=>K .ret (zbL p2)) (fun p0 p3=>X (zag p0 p3)) (fun p0=>K (.exit 0) (zcj p0)):=by kernel_rfl
def zdp {β:Type} (L:Nat) (p2:Bool) (k_fin:Bool→Option β):Option β :=
 k_fin p2
theorem zeR {β:Type} (L:Nat) (p2:Bool) (k:KK β):(yO 0 (zao (xn yD (xC L) 0 L zbC) (zaW 0 (CF.res xR) k))) .ret (zbL p2)=zdp L p2 (fun p0=>k (V.sc (.bool p0)) []):=by kernel_rfl
def zbu {β:Type} (L:Nat) (p0:List (List V)) (k_fin:Bool→Option β):Option β :=
 k_fin (decide (((List.length p0:Nat):Int)≤(64:Int)))
theorem zfe {β:Type} (L:Nat) (p0:List (List V)) (k:KK β):(yO 0 (zao (xn yD (xC L) 0 L zbC) (zaW 0 (CF.res xR) k))) (.exit 0) (zcj p0)=zbu L p0 (fun p0=>k (V.sc (.bool p0)) []):=by kernel_rfl
def zaa {β:Type} (L:Nat) (k_ret:Bool→Option β) (k_x0:List (List V)→Option β):Nat→List (List V)→Int→Option β
 | 0,_,_=>none
 | n+1,p0,p3=>zck L p0 p3 k_ret (fun p0 p3=>zaa L k_ret k_x0 n p0 p3) k_x0
theorem zdt {β:Type} (L:Nat) (K:KT β):∀ (n:Nat) (p0:List (List V)) (p3:Int),yS (xn yD (xC L) 0 L z4) zaN n (zag p0 p3) K=zaa L (fun p2=>K .ret (zbL p2)) (fun p0=>K (.exit 0) (zcj p0)) n p0 p3:=by
 intro n
 induction n with
 | zero=>intros; rfl
 | succ n ih =>
  intro p0 p3
  refine (zfQ L p0 p3 (fun σ=>yS (xn yD (xC L) 0 L z4) zaN n σ K) K).trans ?_
  simp only [ih]
  rfl
def zcw {β:Type} (L:Nat) (p0:List (List V)) (k_fin:Bool→Option β):Option β :=
 zeb L p0 (fun p0 p3=>zaa L (fun p2=>zdp L p2 k_fin) (fun p0=>zbu L p0 k_fin) L p0 p3)
theorem zhI {β:Type} (L:Nat) (p0:List (List V)) (k:KK β):xH yD (xC L) L xR [(V.sl 3 p0)] [] k=zcw L p0 (fun p0=>k (V.sc (.bool p0)) []):=by
 refine (zhO L p0 k).trans ?_
 unfold zcw
 first
  | (simp only [zdt,zeR,zfe]; done)
  | (simp only [zdt]; rfl)
abbrev yB:=∀ (β:Type),Nat→List (List V)→(Bool→Option β)→Option β
def xd (β:Type) (L:Nat) (p0:List (List V)) (k_fin:Bool→Option β):Option β:=zcw L p0 k_fin
def zcv (xd:yB) (L:Nat) (β:Type) (args:List V) (bor:Bor) (k:KK β):Option β:=match args,bor with
 | [a0],[]=>aL 3 a0 fun p0=>xd β L p0 (fun p0=>k (V.sc (.bool p0)) [])
 | _,_=>none
theorem zhw (L:Nat) (β:Type) (args:List V) (bor:Bor) (k:KK β) (r:β) (h:zcv xd L β args bor k=some r):xH yD (xC L) L xR args bor k=some r:=by
 unfold zcv at h
 split at h
 ·have q:=zct h; clear h; obtain ⟨p0,rfl,h⟩:=q
  exact (zhI L p0 k).trans h
 ·cases h
def zb5:CF:=⟨12,[.tmp 4],
 (.seq (.reg [oo 4 (.move (.const (.sc (.int .u32 0))) false)])
 (.seq (.reg [oo 5 (.move (tq 0) false),
   oo 6 (.conv .u64 (tq 5)),
   oo 7 (.move (tq 1) false),
   oo 8 (.conv .u64 (tq 7)),
   oo 9 (.bin .add (tq 6) (tq 8)),
   oo 10 (.mm false (tq 9) (.const (.sc (.int .u64 4294967295)))),
   oo 11 (.conv .u32 (tq 10)),
   oo 4 (.move (tq 11) false)])
 .ret))⟩
def zez:Hint:=⟨[],[],[none],[],[],false,false,[]⟩
def zdH:Nat→Sh:=zcI []
def zdD (L:Nat):CBC:=noC
def zf2 {β:Type} (L:Nat) (p0 p1:Int) (k_fin:Int→Option β):Option β :=
 lt (IntKind.wrap .u64 p0) fun x0 =>
 lt (IntKind.wrap .u64 p1) fun x1 =>
 lt (IntKind.wrap .u64 ((x0:Int)+x1)) fun x2 =>
 lt (zhR x2 (4294967295:Int)) fun x3 =>
 lt (IntKind.wrap .u32 x3) fun x4 =>
 k_fin x4
theorem zhE {β:Type} (L:Nat) (p0 p1:Int) (k:KK β):xH zdH (zdD L) L zb5 [(V.sc (.int .u32 p0)),(V.sc (.int .u32 p1))] [] k=zf2 L p0 p1 (fun p0=>k (V.sc (.int .u32 p0)) []):=by kernel_rfl
abbrev zC:=∀ (β:Type),Nat→Int→Int→(Int→Option β)→Option β
def yd (β:Type) (L:Nat) (p0 p1:Int) (k_fin:Int→Option β):Option β:=zf2 L p0 p1 k_fin
def zcC (yd:zC) (L:Nat) (β:Type) (args:List V) (bor:Bor) (k:KK β):Option β:=match args,bor with
 | [a0,a1],[]=>aI .u32 a0 fun p0=>aI .u32 a1 fun p1=>yd β L p0 p1 (fun p0=>k (V.sc (.int .u32 p0)) [])
 | _,_=>none
theorem zhH (L:Nat) (β:Type) (args:List V) (bor:Bor) (k:KK β) (r:β) (h:zcC yd L β args bor k=some r):xH zdH (zdD L) L zb5 args bor k=some r:=by
 unfold zcC at h
 split at h
 ·have q:=xJ h; clear h; obtain ⟨p0,rfl,h⟩:=q
  have q:=xJ h; clear h; obtain ⟨p1,rfl,h⟩:=q
  exact (zhE L p0 p1 k).trans h
 ·cases h
def zX:CC:=(.seq (.seq (.reg [oo 23 (.move (tq 12) false),
   oo 24 (.move (tq 0) false),
   oo 25 (.lenS (tq 24)),
   oo 26 (.bin .lss (tq 23) (tq 25)),
   oo 27 (.move (tq 26) false),
   ⟨(some 28),false,(some (27,true)),.move (tq 0) false⟩,
   ⟨(some 29),false,(some (27,true)),.move (tq 12) false⟩,
   ⟨(some 30),false,(some (27,true)),.indexAddrS 3 (tq 28) (tq 29)⟩,
   ⟨(some 31),false,(some (27,true)),.fieldAddr 0 (tq 30)⟩,
   ⟨(some 32),false,(some (27,true)),.load false 1 (tq 31) false⟩,
   ⟨(some 33),false,(some (27,true)),.move (tq 1) false⟩,
   ⟨(some 34),false,(some (27,true)),.bin .lss (tq 32) (tq 33)⟩,
   oo 35 (.pick (tq 27) (tq 34) (.const (.sc (.bool false))))])
 (.cond (tq 35)
 .skip
 (.seq (.mask (bl 4127 102) (bl 5070602400912917605986779267071 102))
 (.exit 0))))
 (.block 1 (.reg [oo 36 (.move (tq 12) false),
   oo 37 (.bin .add (tq 36) (.const (.sc (.int .i64 1)))),
   oo 12 (.move (tq 37) false)])))
def zce:CC:=(.seq (.reg [⟨(some 38),true,none,.buildSlice 3 0 [(.sc (.int .i64 0)),(.sc (.int .i64 0)),(.sc (.int .u32 0))] []⟩,
   oo 39 (.move (tq 0) false),
   ⟨(some 40),true,none,.append 3 24 (tq 38) (tq 39)⟩,
   oo 13 (.move (tq 40) true)])
 (.seq (.seq (.reg [oo 41 (.move (tq 12) false),
   oo 42 (.move (tq 0) false),
   oo 43 (.lenS (tq 42)),
   oo 44 (.bin .eql (tq 41) (tq 43)),
   oo 45 (.move (tq 44) false),
   ⟨(some 46),false,(some (45,false)),.move (tq 0) false⟩,
   ⟨(some 47),false,(some (45,false)),.move (tq 12) false⟩,
   ⟨(some 48),false,(some (45,false)),.indexAddrS 3 (tq 46) (tq 47)⟩,
   ⟨(some 49),false,(some (45,false)),.fieldAddr 0 (tq 48)⟩,
   ⟨(some 50),false,(some (45,false)),.load false 1 (tq 49) false⟩,
   ⟨(some 51),false,(some (45,false)),.move (tq 1) false⟩,
   ⟨(some 52),false,(some (45,false)),.bin .neq (tq 50) (tq 51)⟩,
   oo 53 (.pick (tq 45) (.const (.sc (.bool true))) (tq 52))])
 (.cond (tq 53)
 (.seq (.seq (.reg [oo 54 (.move (tq 0) false),
   oo 55 (.lenS (tq 54)),
   oo 56 (.bin .geq (tq 55) (.const (.sc (.int .i64 64))))])
 (.cond (tq 56)
 (.seq (.reg [oo 10 (.move (.const (.gs 3 [])) true),
   oo 11 (.move (.const (.sc (.int .i64 380))) false)])
 .ret)
 .skip))
 (.dreg [] [(⟨(some 57),true,none,.buildSlice 3 0 [(.sc (.int .i64 0)),(.sc (.int .i64 0)),(.sc (.int .u32 0))] []⟩,qn [] [64]),
   (oo 58 (.move (tq 0) false),q0),
   (oo 59 (.move (tq 12) false),q0),
   (oo 60 (.sliceS 3 (tq 58) none (some (tq 59)) none),q0),
   (⟨(some 61),true,none,.append 3 24 (tq 57) (tq 60)⟩,qn [] [64]),
   (oo 62 (.move (tq 1) false),q0),
   (oo 63 (.build [(.sc (.int .i64 0)),(.sc (.int .i64 0)),(.sc (.int .u32 0))] [(0,1,(tq 62))]),q0),
   (oo 64 (.buildSlice 3 1 [(.sc (.int .i64 0)),(.sc (.int .i64 0)),(.sc (.int .u32 0))] [(0,3,(tq 63))]),qn [] [57,61]),
   (⟨(some 65),true,none,.append 3 24 (tq 61) (tq 64)⟩,q0),
   (oo 66 (.move (tq 0) false),q0),
   (oo 67 (.move (tq 12) false),q0),
   (oo 68 (.sliceS 3 (tq 66) (some (tq 67)) none none),q0),
   (⟨(some 69),true,none,.append 3 24 (tq 65) (tq 68)⟩,q0),
   (oo 13 (.move (tq 69) true),q0)]))
 .skip))
 (.seq (.dreg [] [(oo 70 (.move (tq 13) false),q0),
   (oo 71 (.move (tq 12) false),q0),
   (oo 72 (.move (tq 13) false),q0),
   (oo 73 (.move (tq 12) false),q0),
   (oo 74 (.indexAddrS 3 (tq 72) (tq 73)),q0),
   (oo 75 (.fieldAddr 1 (tq 74)),q0),
   (oo 76 (.load false 1 (tq 75) false),qc [] []),
   (oo 77 (.move (tq 2) false),q0),
   (oo 78 (.move (tq 13) false),q0),
   (oo 79 (.move (tq 12) false),q0),
   (oo 80 (.indexAddrS 3 (tq 78) (tq 79)),q0),
   (oo 81 (.fieldAddr 1 (tq 80)),q0),
   (oo 82 (.load false 1 (tq 81) false),qc [] []),
   (oo 83 (.bin .sub (.const (.sc (.int .i64 100))) (tq 82)),q0),
   (oo 84 (.mm false (tq 77) (tq 83)),q0),
   (oo 85 (.bin .add (tq 76) (tq 84)),q0),
   (oo 86 (.indexAddrS 3 (tq 70) (tq 71)),q0),
   (oo 87 (.fieldAddr 1 (tq 86)),q0),
   (oz (.store 1 (tq 87) (tq 85)),q0)])
 (.seq (.seq (.reg [oo 88 (.move (tq 13) false),
   oo 89 (.move (tq 12) false),
   oo 90 (.indexAddrS 3 (tq 88) (tq 89)),
   oo 91 (.fieldAddr 1 (tq 90)),
   oo 92 (.load false 1 (tq 91) false),
   oo 93 (.bin .eql (tq 92) (.const (.sc (.int .i64 100))))])
 (.cond (tq 93)
 (.reg [oo 94 (.move (tq 13) false),
   oo 95 (.move (tq 12) false),
   oo 96 (.move (tq 3) false),
   oo 97 (.move (tq 4) false),
   oo 98 (.call 319 [((tq 96),0),((tq 97),0)] []),
   oo 99 (.indexAddrS 3 (tq 94) (tq 95)),
   oo 100 (.fieldAddr 2 (tq 99)),
   oz (.store 1 (tq 100) (tq 98))])
 .skip))
 (.seq (.reg [oo 101 (.move (tq 13) true),
   oo 10 (.move (tq 101) true),
   oo 11 (.move (.const (.sc (.int .i64 0))) false)])
 .ret)))))
def y8:CF:=⟨102,[.tmp 10,.tmp 11],
 (.seq (.reg [oo 10 (.move (.const (.gs 3 [])) true),
   oo 11 (.move (.const (.sc (.int .i64 0))) false)])
 (.seq (.seq (.reg [oo 14 (.move (tq 0) false),
   oo 15 (.call 318 [((tq 14),0)] []),
   oo 16 (.un .not (tq 15))])
 (.cond (tq 16)
 (.seq (.reg [oo 10 (.move (.const (.gs 3 [])) true),
   oo 11 (.move (.const (.sc (.int .i64 6))) false)])
 .ret)
 .skip))
 (.seq (.seq (.reg [oo 17 (.move (tq 1) false),
   oo 18 (.bin .lss (tq 17) (.const (.sc (.int .i64 0)))),
   oo 19 (.move (tq 18) false),
   ⟨(some 20),false,(some (19,false)),.move (tq 2) false⟩,
   ⟨(some 21),false,(some (19,false)),.bin .lss (tq 20) (.const (.sc (.int .i64 0)))⟩,
   oo 22 (.pick (tq 19) (.const (.sc (.bool true))) (tq 21))])
 (.cond (tq 22)
 (.seq (.reg [oo 10 (.move (.const (.gs 3 [])) true),
   oo 11 (.move (.const (.sc (.int .i64 5))) false)])
 .ret)
 .skip))
 (.seq (.reg [oo 12 (.move (.const (.sc (.int .i64 0))) false)])
 (.seq (.block 0 (.loop (bl 4127 102) (bl 5070602400912917605986779267071 102)
 zX))
 zce)))))⟩
def ze6:Hint:=⟨[(0,0),(2,0),(4,0),(8,3),(11,0),(12,13),(16,0),(16,1)],[(8,0),(8,2),(12,0),(12,4),(12,8),(12,12)],[none,none,none,none,none,some ((bl 4127 102),(bl 5070602400912917605986779267071 102)),none,some ((bl 4127 102),(bl 5070602400912917605986779267071 102)),none,none,none,none,none,none],[],[],false,false,[]⟩
def xL:Nat→Sh:=zcI [(32,(.int .i64)),(76,(.int .i64)),(82,(.int .i64)),(92,(.int .i64)),(50,(.int .i64))]
def yL (xd:yB) (yd:zC) (L:Nat):CBC:=(zbZ 319 (zcC yd L) (zbZ 318 (zcv xd L) noC))
def zaz:St→St:=zaL 0 (bl 4127 102) (bl 5070602400912917605986779267071 102)
def y5 (p0:List (List V)) (p1 p2 p3 p4 p12:Int):St:=⟨((V.sl 3 p0)::((V.sc (.int .i64 p1))::((V.sc (.int .i64 p2))::((V.sc (.int .u32 p3))::((V.sc (.int .u32 p4))::(jn 7 ((V.sc (.int .i64 p12))::(jn 89 [])))))))),(gn 102 [])⟩
def zcE (p0:List (List V)) (p1 p2 p3 p4 p12:Int):St:=⟨((V.sl 3 p0)::((V.sc (.int .i64 p1))::((V.sc (.int .i64 p2))::((V.sc (.int .u32 p3))::((V.sc (.int .u32 p4))::(jn 7 ((V.sc (.int .i64 p12))::(jn 89 [])))))))),(gn 102 [])⟩
def zc8 {β:Type} (xd:yB) (yd:zC) (L:Nat) (p0:List (List V)) (p1 p2 p3 p4:Int) (k_fin:List (List V)→Int→Option β) (k_hbbbbaa:List (List V)→Int→Int→Int→Int→Int→Option β):Option β :=
 xd β L p0 (fun v0 =>
 ifb (!v0) (
 k_fin ([]:List (List V)) (6:Int)) (
 ifb (decide (p1 < (0:Int))) (
 k_fin ([]:List (List V)) (5:Int)) (
 ifb (decide (p2 < (0:Int))) (
 k_fin ([]:List (List V)) (5:Int)) (
 k_hbbbbaa p0 p1 p2 p3 p4 (0:Int)))))
theorem zh7 {β:Type} (xd:yB) (yd:zC) (L:Nat) (p0:List (List V)) (p1 p2 p3 p4:Int) (k:KK β):xH xL (yL xd yd L) L y8 [(V.sl 3 p0),(V.sc (.int .i64 p1)),(V.sc (.int .i64 p2)),(V.sc (.int .u32 p3)),(V.sc (.int .u32 p4))] [] k=zc8 xd yd L p0 p1 p2 p3 p4 (fun zph zpi=>k (V.tup [(V.gs 3 zph),(V.sc (.int .i64 zpi))]) []) (fun p0 p1 p2 p3 p4 p12=>yS (xn xL (yL xd yd L) 0 L zX) zaz L (y5 p0 p1 p2 p3 p4 p12) (yO 0 (zao (xn xL (yL xd yd L) 0 L zce) (zaW 0 (CF.res y8) k)))):=by kernel_rfl
def zbM {β:Type} (xd:yB) (yd:zC) (L:Nat) (p0:List (List V)) (p1 p2 p3 p4 p12:Int) (k_hbbbbaa:List (List V)→Int→Int→Int→Int→Int→Option β) (k_x0:List (List V)→Int→Int→Int→Int→Int→Option β):Option β :=
 ifb (decide (p12 < ((List.length p0:Nat):Int))) (
 idx p0 p12 fun c1 =>
 cI .i64 c1 0 fun v2 =>
 ifb (decide (v2 < p1)) (
 lt (IntKind.wrap .i64 ((p12:Int)+(1:Int))) fun x3 =>
 k_hbbbbaa p0 p1 p2 p3 p4 x3) (
 k_x0 p0 p1 p2 p3 p4 p12)) (
 k_x0 p0 p1 p2 p3 p4 p12)
theorem zfw {β:Type} (xd:yB) (yd:zC) (L:Nat) (p0:List (List V)) (p1 p2 p3 p4 p12:Int) (X:St→Option β) (K:KT β):xn xL (yL xd yd L) 0 L zX (y5 p0 p1 p2 p3 p4 p12) (zeS zaz X K)=zbM xd yd L p0 p1 p2 p3 p4 p12 (fun p0 p1 p2 p3 p4 p12=>X (y5 p0 p1 p2 p3 p4 p12)) (fun p0 p1 p2 p3 p4 p12=>K (.exit 0) (zcE p0 p1 p2 p3 p4 p12)):=by kernel_rfl
def zae {β:Type} (xd:yB) (yd:zC) (L:Nat) (p0:List (List V)) (p1 p2 p3 p4 p12:Int) (k_fin:List (List V)→Int→Option β) (k_finv1:List (List V)→Int→Option β):Option β :=
 chk ((0+List.length p0) * 24≤zi∧0+List.length p0≤zi) (
 ifb ((p12:Int) == ((List.length p0:Nat):Int)) (
 ifb (decide (((List.length p0:Nat):Int) ≥ (64:Int))) (
 k_fin ([]:List (List V)) (380:Int)) (
 chk (0≤p12∧p12≤(((List.length p0):Nat):Int)) (
 chk ((0+List.length (List.take ((Int.toNat p12) - 0) (List.drop 0 p0))) * 24≤zi∧0+List.length (List.take ((Int.toNat p12) - 0) (List.drop 0 p0))≤zi) (
 chk (((List.length (List.take ((Int.toNat p12) - 0) (List.drop 0 p0)))+List.length (zb 3 1 [(V.sc (.int .i64 p1)),(V.sc (.int .i64 (0:Int))),(V.sc (.int .u32 (0:Int)))])) * 24≤zi∧((List.length (List.take ((Int.toNat p12) - 0) (List.drop 0 p0)))+List.length (zb 3 1 [(V.sc (.int .i64 p1)),(V.sc (.int .i64 (0:Int))),(V.sc (.int .u32 (0:Int)))]))≤zi∧(((List.length (List.take ((Int.toNat p12) - 0) (List.drop 0 p0)))+List.length (zb 3 1 [(V.sc (.int .i64 p1)),(V.sc (.int .i64 (0:Int))),(V.sc (.int .u32 (0:Int)))]))≠0∨(List.length (List.flatten (List.take ((Int.toNat p12) - 0) (List.drop 0 p0))))=0)) (
 lt (List.take ((List.length (List.take ((Int.toNat p12) - 0) (List.drop 0 p0))) * 3) (List.flatten (List.take ((Int.toNat p12) - 0) (List.drop 0 p0)))++List.flatten (zb 3 1 [(V.sc (.int .i64 p1)),(V.sc (.int .i64 (0:Int))),(V.sc (.int .u32 (0:Int)))])) fun r4 =>
 chk (0≤p12∧p12≤(((List.length p0):Nat):Int)) (
 chk ((((List.length (List.take ((Int.toNat p12) - 0) (List.drop 0 p0)))+List.length (zb 3 1 [(V.sc (.int .i64 p1)),(V.sc (.int .i64 (0:Int))),(V.sc (.int .u32 (0:Int)))]))+List.length (List.take ((List.length p0) - (Int.toNat p12)) (List.drop (Int.toNat p12) p0))) * 24≤zi∧(((List.length (List.take ((Int.toNat p12) - 0) (List.drop 0 p0)))+List.length (zb 3 1 [(V.sc (.int .i64 p1)),(V.sc (.int .i64 (0:Int))),(V.sc (.int .u32 (0:Int)))]))+List.length (List.take ((List.length p0) - (Int.toNat p12)) (List.drop (Int.toNat p12) p0)))≤zi∧((((List.length (List.take ((Int.toNat p12) - 0) (List.drop 0 p0)))+List.length (zb 3 1 [(V.sc (.int .i64 p1)),(V.sc (.int .i64 (0:Int))),(V.sc (.int .u32 (0:Int)))]))+List.length (List.take ((List.length p0) - (Int.toNat p12)) (List.drop (Int.toNat p12) p0)))≠0∨(List.length r4)=0)) (
 lt (List.take (((List.length (List.take ((Int.toNat p12) - 0) (List.drop 0 p0)))+List.length (zb 3 1 [(V.sc (.int .i64 p1)),(V.sc (.int .i64 (0:Int))),(V.sc (.int .u32 (0:Int)))])) * 3) r4++List.flatten (List.take ((List.length p0) - (Int.toNat p12)) (List.drop (Int.toNat p12) p0))) fun r5 =>
 chk (0≤p12∧p12 < (((((List.length (List.take ((Int.toNat p12) - 0) (List.drop 0 p0)))+List.length (zb 3 1 [(V.sc (.int .i64 p1)),(V.sc (.int .i64 (0:Int))),(V.sc (.int .u32 (0:Int)))]))+List.length (List.take ((List.length p0) - (Int.toNat p12)) (List.drop (Int.toNat p12) p0))):Nat):Int)) (
 cI .i64 r5 ((0+((Int.toNat p12) * 3))+1) fun v6 =>
 chk (0≤p12∧p12 < (((((List.length (List.take ((Int.toNat p12) - 0) (List.drop 0 p0)))+List.length (zb 3 1 [(V.sc (.int .i64 p1)),(V.sc (.int .i64 (0:Int))),(V.sc (.int .u32 (0:Int)))]))+List.length (List.take ((List.length p0) - (Int.toNat p12)) (List.drop (Int.toNat p12) p0))):Nat):Int)) (
 cI .i64 r5 ((0+((Int.toNat p12) * 3))+1) fun v7 =>
 lt (IntKind.wrap .i64 (((100:Int):Int) - v7)) fun x8 =>
 lt (zhR p2 x8) fun x9 =>
 lt (IntKind.wrap .i64 ((v6:Int)+x9)) fun x10 =>
 chk (0≤p12∧p12 < (((((List.length (List.take ((Int.toNat p12) - 0) (List.drop 0 p0)))+List.length (zb 3 1 [(V.sc (.int .i64 p1)),(V.sc (.int .i64 (0:Int))),(V.sc (.int .u32 (0:Int)))]))+List.length (List.take ((List.length p0) - (Int.toNat p12)) (List.drop (Int.toNat p12) p0))):Nat):Int)) (
 chk (1=1∧((0+((Int.toNat p12) * 3))+1)+1≤(List.length r5)) (
 lt (yj r5 ((0+((Int.toNat p12) * 3))+1) [(V.sc (.int .i64 x10))]) fun r11 =>
 chk (0≤p12∧p12 < (((((List.length (List.take ((Int.toNat p12) - 0) (List.drop 0 p0)))+List.length (zb 3 1 [(V.sc (.int .i64 p1)),(V.sc (.int .i64 (0:Int))),(V.sc (.int .u32 (0:Int)))]))+List.length (List.take ((List.length p0) - (Int.toNat p12)) (List.drop (Int.toNat p12) p0))):Nat):Int)) (
 cI .i64 r11 ((0+((Int.toNat p12) * 3))+1) fun v12 =>
 ifb ((v12:Int) == (100:Int)) (
 yd β L p3 p4 (fun v13 =>
 chk (0≤p12∧p12 < (((((List.length (List.take ((Int.toNat p12) - 0) (List.drop 0 p0)))+List.length (zb 3 1 [(V.sc (.int .i64 p1)),(V.sc (.int .i64 (0:Int))),(V.sc (.int .u32 (0:Int)))]))+List.length (List.take ((List.length p0) - (Int.toNat p12)) (List.drop (Int.toNat p12) p0))):Nat):Int)) (
 chk (1=1∧((0+((Int.toNat p12) * 3))+2)+1≤(List.length r11)) (
 lt (yj r11 ((0+((Int.toNat p12) * 3))+2) [(V.sc (.int .u32 v13))]) fun r14 =>
 chk ((((List.length (List.take ((Int.toNat p12) - 0) (List.drop 0 p0)))+List.length (zb 3 1 [(V.sc (.int .i64 p1)),(V.sc (.int .i64 (0:Int))),(V.sc (.int .u32 (0:Int)))]))+List.length (List.take ((List.length p0) - (Int.toNat p12)) (List.drop (Int.toNat p12) p0)))≠0∨(List.length r14)=0) (
 k_finv1 (zb 3 (((List.length (List.take ((Int.toNat p12) - 0) (List.drop 0 p0)))+List.length (zb 3 1 [(V.sc (.int .i64 p1)),(V.sc (.int .i64 (0:Int))),(V.sc (.int .u32 (0:Int)))]))+List.length (List.take ((List.length p0) - (Int.toNat p12)) (List.drop (Int.toNat p12) p0))) r14) (0:Int)))))) (
 chk ((((List.length (List.take ((Int.toNat p12) - 0) (List.drop 0 p0)))+List.length (zb 3 1 [(V.sc (.int .i64 p1)),(V.sc (.int .i64 (0:Int))),(V.sc (.int .u32 (0:Int)))]))+List.length (List.take ((List.length p0) - (Int.toNat p12)) (List.drop (Int.toNat p12) p0)))≠0∨(List.length r11)=0) (
 k_finv1 (zb 3 (((List.length (List.take ((Int.toNat p12) - 0) (List.drop 0 p0)))+List.length (zb 3 1 [(V.sc (.int .i64 p1)),(V.sc (.int .i64 (0:Int))),(V.sc (.int .u32 (0:Int)))]))+List.length (List.take ((List.length p0) - (Int.toNat p12)) (List.drop (Int.toNat p12) p0))) r11) (0:Int))))))))))))))) (
 idx p0 p12 fun c15 =>
 cI .i64 c15 0 fun v16 =>
 ifb ((v16:Int) != p1) (
 ifb (decide (((List.length p0:Nat):Int) ≥ (64:Int))) (
 k_fin ([]:List (List V)) (380:Int)) (
 chk (0≤p12∧p12≤(((List.length p0):Nat):Int)) (
 chk ((0+List.length (List.take ((Int.toNat p12) - 0) (List.drop 0 p0))) * 24≤zi∧0+List.length (List.take ((Int.toNat p12) - 0) (List.drop 0 p0))≤zi) (
 chk (((List.length (List.take ((Int.toNat p12) - 0) (List.drop 0 p0)))+List.length (zb 3 1 [(V.sc (.int .i64 p1)),(V.sc (.int .i64 (0:Int))),(V.sc (.int .u32 (0:Int)))])) * 24≤zi∧((List.length (List.take ((Int.toNat p12) - 0) (List.drop 0 p0)))+List.length (zb 3 1 [(V.sc (.int .i64 p1)),(V.sc (.int .i64 (0:Int))),(V.sc (.int .u32 (0:Int)))]))≤zi∧(((List.length (List.take ((Int.toNat p12) - 0) (List.drop 0 p0)))+List.length (zb 3 1 [(V.sc (.int .i64 p1)),(V.sc (.int .i64 (0:Int))),(V.sc (.int .u32 (0:Int)))]))≠0∨(List.length (List.flatten (List.take ((Int.toNat p12) - 0) (List.drop 0 p0))))=0)) (
 lt (List.take ((List.length (List.take ((Int.toNat p12) - 0) (List.drop 0 p0))) * 3) (List.flatten (List.take ((Int.toNat p12) - 0) (List.drop 0 p0)))++List.flatten (zb 3 1 [(V.sc (.int .i64 p1)),(V.sc (.int .i64 (0:Int))),(V.sc (.int .u32 (0:Int)))])) fun r17 =>
 chk (0≤p12∧p12≤(((List.length p0):Nat):Int)) (
 chk ((((List.length (List.take ((Int.toNat p12) - 0) (List.drop 0 p0)))+List.length (zb 3 1 [(V.sc (.int .i64 p1)),(V.sc (.int .i64 (0:Int))),(V.sc (.int .u32 (0:Int)))]))+List.length (List.take ((List.length p0) - (Int.toNat p12)) (List.drop (Int.toNat p12) p0))) * 24≤zi∧(((List.length (List.take ((Int.toNat p12) - 0) (List.drop 0 p0)))+List.length (zb 3 1 [(V.sc (.int .i64 p1)),(V.sc (.int .i64 (0:Int))),(V.sc (.int .u32 (0:Int)))]))+List.length (List.take ((List.length p0) - (Int.toNat p12)) (List.drop (Int.toNat p12) p0)))≤zi∧((((List.length (List.take ((Int.toNat p12) - 0) (List.drop 0 p0)))+List.length (zb 3 1 [(V.sc (.int .i64 p1)),(V.sc (.int .i64 (0:Int))),(V.sc (.int .u32 (0:Int)))]))+List.length (List.take ((List.length p0) - (Int.toNat p12)) (List.drop (Int.toNat p12) p0)))≠0∨(List.length r17)=0)) (
 lt (List.take (((List.length (List.take ((Int.toNat p12) - 0) (List.drop 0 p0)))+List.length (zb 3 1 [(V.sc (.int .i64 p1)),(V.sc (.int .i64 (0:Int))),(V.sc (.int .u32 (0:Int)))])) * 3) r17++List.flatten (List.take ((List.length p0) - (Int.toNat p12)) (List.drop (Int.toNat p12) p0))) fun r18 =>
 chk (0≤p12∧p12 < (((((List.length (List.take ((Int.toNat p12) - 0) (List.drop 0 p0)))+List.length (zb 3 1 [(V.sc (.int .i64 p1)),(V.sc (.int .i64 (0:Int))),(V.sc (.int .u32 (0:Int)))]))+List.length (List.take ((List.length p0) - (Int.toNat p12)) (List.drop (Int.toNat p12) p0))):Nat):Int)) (
 cI .i64 r18 ((0+((Int.toNat p12) * 3))+1) fun v19 =>
 chk (0≤p12∧p12 < (((((List.length (List.take ((Int.toNat p12) - 0) (List.drop 0 p0)))+List.length (zb 3 1 [(V.sc (.int .i64 p1)),(V.sc (.int .i64 (0:Int))),(V.sc (.int .u32 (0:Int)))]))+List.length (List.take ((List.length p0) - (Int.toNat p12)) (List.drop (Int.toNat p12) p0))):Nat):Int)) (
 cI .i64 r18 ((0+((Int.toNat p12) * 3))+1) fun v20 =>
 lt (IntKind.wrap .i64 (((100:Int):Int) - v20)) fun x21 =>
 lt (zhR p2 x21) fun x22 =>
 lt (IntKind.wrap .i64 ((v19:Int)+x22)) fun x23 =>
 chk (0≤p12∧p12 < (((((List.length (List.take ((Int.toNat p12) - 0) (List.drop 0 p0)))+List.length (zb 3 1 [(V.sc (.int .i64 p1)),(V.sc (.int .i64 (0:Int))),(V.sc (.int .u32 (0:Int)))]))+List.length (List.take ((List.length p0) - (Int.toNat p12)) (List.drop (Int.toNat p12) p0))):Nat):Int)) (
 chk (1=1∧((0+((Int.toNat p12) * 3))+1)+1≤(List.length r18)) (
 lt (yj r18 ((0+((Int.toNat p12) * 3))+1) [(V.sc (.int .i64 x23))]) fun r24 =>
 chk (0≤p12∧p12 < (((((List.length (List.take ((Int.toNat p12) - 0) (List.drop 0 p0)))+List.length (zb 3 1 [(V.sc (.int .i64 p1)),(V.sc (.int .i64 (0:Int))),(V.sc (.int .u32 (0:Int)))]))+List.length (List.take ((List.length p0) - (Int.toNat p12)) (List.drop (Int.toNat p12) p0))):Nat):Int)) (
 cI .i64 r24 ((0+((Int.toNat p12) * 3))+1) fun v25 =>
 ifb ((v25:Int) == (100:Int)) (
 yd β L p3 p4 (fun v26 =>
 chk (0≤p12∧p12 < (((((List.length (List.take ((Int.toNat p12) - 0) (List.drop 0 p0)))+List.length (zb 3 1 [(V.sc (.int .i64 p1)),(V.sc (.int .i64 (0:Int))),(V.sc (.int .u32 (0:Int)))]))+List.length (List.take ((List.length p0) - (Int.toNat p12)) (List.drop (Int.toNat p12) p0))):Nat):Int)) (
 chk (1=1∧((0+((Int.toNat p12) * 3))+2)+1≤(List.length r24)) (
 lt (yj r24 ((0+((Int.toNat p12) * 3))+2) [(V.sc (.int .u32 v26))]) fun r27 =>
 chk ((((List.length (List.take ((Int.toNat p12) - 0) (List.drop 0 p0)))+List.length (zb 3 1 [(V.sc (.int .i64 p1)),(V.sc (.int .i64 (0:Int))),(V.sc (.int .u32 (0:Int)))]))+List.length (List.take ((List.length p0) - (Int.toNat p12)) (List.drop (Int.toNat p12) p0)))≠0∨(List.length r27)=0) (
 k_finv1 (zb 3 (((List.length (List.take ((Int.toNat p12) - 0) (List.drop 0 p0)))+List.length (zb 3 1 [(V.sc (.int .i64 p1)),(V.sc (.int .i64 (0:Int))),(V.sc (.int .u32 (0:Int)))]))+List.length (List.take ((List.length p0) - (Int.toNat p12)) (List.drop (Int.toNat p12) p0))) r27) (0:Int)))))) (
 chk ((((List.length (List.take ((Int.toNat p12) - 0) (List.drop 0 p0)))+List.length (zb 3 1 [(V.sc (.int .i64 p1)),(V.sc (.int .i64 (0:Int))),(V.sc (.int .u32 (0:Int)))]))+List.length (List.take ((List.length p0) - (Int.toNat p12)) (List.drop (Int.toNat p12) p0)))≠0∨(List.length r24)=0) (
 k_finv1 (zb 3 (((List.length (List.take ((Int.toNat p12) - 0) (List.drop 0 p0)))+List.length (zb 3 1 [(V.sc (.int .i64 p1)),(V.sc (.int .i64 (0:Int))),(V.sc (.int .u32 (0:Int)))]))+List.length (List.take ((List.length p0) - (Int.toNat p12)) (List.drop (Int.toNat p12) p0))) r24) (0:Int))))))))))))))) (
 chk (0≤p12∧p12 < (((List.length p0):Nat):Int)) (
 cI .i64 (List.flatten p0) ((0+((Int.toNat p12) * 3))+1) fun v28 =>
 chk (0≤p12∧p12 < (((List.length p0):Nat):Int)) (
 cI .i64 (List.flatten p0) ((0+((Int.toNat p12) * 3))+1) fun v29 =>
 lt (IntKind.wrap .i64 (((100:Int):Int) - v29)) fun x30 =>
 lt (zhR p2 x30) fun x31 =>
 lt (IntKind.wrap .i64 ((v28:Int)+x31)) fun x32 =>
 chk (0≤p12∧p12 < (((List.length p0):Nat):Int)) (
 chk (1=1∧((0+((Int.toNat p12) * 3))+1)+1≤(List.length (List.flatten p0))) (
 lt (yj (List.flatten p0) ((0+((Int.toNat p12) * 3))+1) [(V.sc (.int .i64 x32))]) fun r33 =>
 chk (0≤p12∧p12 < (((List.length p0):Nat):Int)) (
 cI .i64 r33 ((0+((Int.toNat p12) * 3))+1) fun v34 =>
 ifb ((v34:Int) == (100:Int)) (
 yd β L p3 p4 (fun v35 =>
 chk (0≤p12∧p12 < (((List.length p0):Nat):Int)) (
 chk (1=1∧((0+((Int.toNat p12) * 3))+2)+1≤(List.length r33)) (
 lt (yj r33 ((0+((Int.toNat p12) * 3))+2) [(V.sc (.int .u32 v35))]) fun r36 =>
 chk ((List.length p0)≠0∨(List.length r36)=0) (
 k_finv1 (zb 3 (List.length p0) r36) (0:Int)))))) (
 chk ((List.length p0)≠0∨(List.length r33)=0) (
 k_finv1 (zb 3 (List.length p0) r33) (0:Int)))))))))))
theorem zeN {β:Type} (xd:yB) (yd:zC) (L:Nat) (p0:List (List V)) (p1 p2 p3 p4 p12:Int) (k:KK β):(yO 0 (zao (xn xL (yL xd yd L) 0 L zce) (zaW 0 (CF.res y8) k))) (.exit 0) (zcE p0 p1 p2 p3 p4 p12)=zae xd yd L p0 p1 p2 p3 p4 p12 (fun zph zpi=>k (V.tup [(V.gs 3 zph),(V.sc (.int .i64 zpi))]) []) (fun zph zpi=>k (V.tup [(V.fr 3 zph),(V.sc (.int .i64 zpi))]) []):=by kernel_rfl
def xZ {β:Type} (xd:yB) (yd:zC) (L:Nat) (k_x0:List (List V)→Int→Int→Int→Int→Int→Option β):Nat→List (List V)→Int→Int→Int→Int→Int→Option β
 | 0,_,_,_,_,_,_=>none
 | n+1,p0,p1,p2,p3,p4,p12=>zbM xd yd L p0 p1 p2 p3 p4 p12 (fun p0 p1 p2 p3 p4 p12=>xZ xd yd L k_x0 n p0 p1 p2 p3 p4 p12) k_x0
theorem zcS {β:Type} (xd:yB) (yd:zC) (L:Nat) (K:KT β):∀ (n:Nat) (p0:List (List V)) (p1 p2 p3 p4 p12:Int),yS (xn xL (yL xd yd L) 0 L zX) zaz n (y5 p0 p1 p2 p3 p4 p12) K=xZ xd yd L (fun p0 p1 p2 p3 p4 p12=>K (.exit 0) (zcE p0 p1 p2 p3 p4 p12)) n p0 p1 p2 p3 p4 p12:=by
 intro n
 induction n with
 | zero=>intros; rfl
 | succ n ih =>
  intro p0 p1 p2 p3 p4 p12
  refine (zfw xd yd L p0 p1 p2 p3 p4 p12 (fun σ=>yS (xn xL (yL xd yd L) 0 L zX) zaz n σ K) K).trans ?_
  simp only [ih]
  rfl
def zbI {β:Type} (xd:yB) (yd:zC) (L:Nat) (p0:List (List V)) (p1 p2 p3 p4:Int) (k_fin:List (List V)→Int→Option β) (k_finv1:List (List V)→Int→Option β):Option β :=
 zc8 xd yd L p0 p1 p2 p3 p4 k_fin (fun p0 p1 p2 p3 p4 p12=>xZ xd yd L (fun p0 p1 p2 p3 p4 p12=>zae xd yd L p0 p1 p2 p3 p4 p12 k_fin k_finv1) L p0 p1 p2 p3 p4 p12)
theorem zij {β:Type} (xd:yB) (yd:zC) (L:Nat) (p0:List (List V)) (p1 p2 p3 p4:Int) (k:KK β):xH xL (yL xd yd L) L y8 [(V.sl 3 p0),(V.sc (.int .i64 p1)),(V.sc (.int .i64 p2)),(V.sc (.int .u32 p3)),(V.sc (.int .u32 p4))] [] k=zbI xd yd L p0 p1 p2 p3 p4 (fun zph zpi=>k (V.tup [(V.gs 3 zph),(V.sc (.int .i64 zpi))]) []) (fun zph zpi=>k (V.tup [(V.fr 3 zph),(V.sc (.int .i64 zpi))]) []):=by
 refine (zh7 xd yd L p0 p1 p2 p3 p4 k).trans ?_
 unfold zbI
 first
  | (simp only [zcS,zeN]; done)
  | (simp only [zcS]; rfl)
abbrev zH:=∀ (β:Type),Nat→List (List V)→Int→Int→Int→Int→(List (List V)→Int→Option β)→(List (List V)→Int→Option β)→Option β
def ze (β:Type) (L:Nat) (p0:List (List V)) (p1 p2 p3 p4:Int) (k_fin:List (List V)→Int→Option β) (k_finv1:List (List V)→Int→Option β):Option β:=zbI xd yd L p0 p1 p2 p3 p4 k_fin k_finv1
def zdg (ze:zH) (L:Nat) (β:Type) (args:List V) (bor:Bor) (k:KK β):Option β:=match args,bor with
 | [a0,a1,a2,a3,a4],[]=>aL 3 a0 fun p0=>aI .i64 a1 fun p1=>aI .i64 a2 fun p2=>aI .u32 a3 fun p3=>aI .u32 a4 fun p4=>ze β L p0 p1 p2 p3 p4 (fun zph zpi=>k (V.tup [(V.gs 3 zph),(V.sc (.int .i64 zpi))]) []) (fun zph zpi=>k (V.tup [(V.fr 3 zph),(V.sc (.int .i64 zpi))]) [])
 | _,_=>none
theorem zhX (L:Nat) (β:Type) (args:List V) (bor:Bor) (k:KK β) (r:β) (h:zdg ze L β args bor k=some r):xH xL (yL xd yd L) L y8 args bor k=some r:=by
 unfold zdg at h
 split at h
 ·have q:=zct h; clear h; obtain ⟨p0,rfl,h⟩:=q
  have q:=xJ h; clear h; obtain ⟨p1,rfl,h⟩:=q
  have q:=xJ h; clear h; obtain ⟨p2,rfl,h⟩:=q
  have q:=xJ h; clear h; obtain ⟨p3,rfl,h⟩:=q
  have q:=xJ h; clear h; obtain ⟨p4,rfl,h⟩:=q
  exact (zij xd yd L p0 p1 p2 p3 p4 k).trans h
 ·cases h
def z0:CC:=(.seq (.seq (.reg [oo 11 (.move (tq 5) false),
   oo 12 (.move (tq 0) false),
   oo 13 (.lenS (tq 12)),
   oo 14 (.bin .lss (tq 11) (tq 13))])
 (.cond (tq 14)
 .skip
 (.seq (.mask (bl 0 26) (bl 67100623 26))
 (.exit 0))))
 (.seq (.block 1 (.seq (.dreg [] [(oo 17 (.move (tq 0) false),q0),
   (oo 18 (.move (tq 5) false),q0),
   (oo 19 (.indexAddrS 3 (tq 17) (tq 18)),q0),
   (oo 20 (.load true 3 (tq 19) false),qc [] []),
   (oo 21 (.move (tq 1) false),q0),
   (oo 22 (.move (tq 5) false),q0),
   (oo 23 (.indexAddrS 3 (tq 21) (tq 22)),q0),
   (oo 24 (.load true 3 (tq 23) false),qc [] []),
   (oo 25 (.eqAgg true 3 (tq 20) (tq 24)),q0)])
 (.cond (tq 25)
 (.seq (.reg [oo 4 (.move (.const (.sc (.bool false))) false)])
 (.seq (.mask (bl 16 26) (bl 67100639 26))
 .ret))
 .skip)))
 (.reg [oo 15 (.move (tq 5) false),
   oo 16 (.bin .add (tq 15) (.const (.sc (.int .i64 1)))),
   oo 5 (.move (tq 16) false)])))
def zbE:CC:=(.seq (.reg [oo 4 (.move (.const (.sc (.bool true))) false)])
 .ret)
def yV:CF:=⟨26,[.tmp 4],
 (.seq (.reg [oo 4 (.move (.const (.sc (.bool false))) false)])
 (.seq (.seq (.reg [oo 6 (.move (tq 0) false),
   oo 7 (.lenS (tq 6)),
   oo 8 (.move (tq 1) false),
   oo 9 (.lenS (tq 8)),
   oo 10 (.bin .neq (tq 7) (tq 9))])
 (.cond (tq 10)
 (.seq (.reg [oo 4 (.move (.const (.sc (.bool false))) false)])
 .ret)
 .skip))
 (.seq (.seq (.reg [oo 5 (.move (.const (.sc (.int .i64 0))) false)])
 (.block 0 (.loop (bl 35 26) (bl 67100655 26)
 z0)))
 zbE)))⟩
def zeT:Hint:=⟨[],[],[none,none,none,some ((bl 35 26),(bl 67100655 26)),none,some ((bl 0 26),(bl 67100623 26)),none,none,some ((bl 16 26),(bl 67100639 26)),none],[],[],false,false,[]⟩
def yF:Nat→Sh:=zcI []
def zG (L:Nat):CBC:=noC
def zaK:St→St:=zaL 0 (bl 35 26) (bl 67100655 26)
def zad (p0 p1:List (List V)) (p5:Int):St:=⟨((V.sl 3 p0)::((V.sl 3 p1)::(jn 3 ((V.sc (.int .i64 p5))::(jn 20 []))))),(gn 26 [])⟩
def zci (p4:Bool):St:=⟨(jn 4 ((V.sc (.bool p4))::(jn 21 []))),(gn 26 [])⟩
def zcD:St:=⟨(jn 26 []),(gn 26 [])⟩
def zex {β:Type} (L:Nat) (p0 p1:List (List V)) (k_fin:Bool→Option β) (k_hbbaba:List (List V)→List (List V)→Int→Option β):Option β :=
 ifb ((((List.length p0:Nat):Int):Int) != ((List.length p1:Nat):Int)) (
 k_fin false) (
 k_hbbaba p0 p1 (0:Int))
theorem zh0 {β:Type} (L:Nat) (p0 p1:List (List V)) (k:KK β):xH yF (zG L) L yV [(V.sl 3 p0),(V.sl 3 p1)] [] k=zex L p0 p1 (fun p0=>k (V.sc (.bool p0)) []) (fun p0 p1 p5=>yS (xn yF (zG L) 0 L z0) zaK L (zad p0 p1 p5) (yO 0 (zao (xn yF (zG L) 0 L zbE) (zaW 0 (CF.res yV) k)))):=by kernel_rfl
def zch {β:Type} (L:Nat) (p0 p1:List (List V)) (p5:Int) (k_ret:Bool→Option β) (k_hbbaba:List (List V)→List (List V)→Int→Option β) (k_x0:Option β):Option β :=
 ifb (decide (p5 < ((List.length p0:Nat):Int))) (
 idx p0 p5 fun c0 =>
 idx p1 p5 fun c1 =>
 eqC 3 (List.take 3 c0) (List.take 3 c1) fun v2 =>
 ifb (!v2) (
 k_ret false) (
 lt (IntKind.wrap .i64 ((p5:Int)+(1:Int))) fun x3 =>
 k_hbbaba p0 p1 x3)) (
 k_x0)
theorem zfM {β:Type} (L:Nat) (p0 p1:List (List V)) (p5:Int) (X:St→Option β) (K:KT β):xn yF (zG L) 0 L z0 (zad p0 p1 p5) (zeS zaK X K)=zch L p0 p1 p5 (fun p4=>K .ret (zci p4)) (fun p0 p1 p5=>X (zad p0 p1 p5)) (K (.exit 0) (zcD)):=by kernel_rfl
def zdu {β:Type} (L:Nat) (p4:Bool) (k_fin:Bool→Option β):Option β :=
 k_fin p4
theorem zeQ {β:Type} (L:Nat) (p4:Bool) (k:KK β):(yO 0 (zao (xn yF (zG L) 0 L zbE) (zaW 0 (CF.res yV) k))) .ret (zci p4)=zdu L p4 (fun p0=>k (V.sc (.bool p0)) []):=by kernel_rfl
def zdx {β:Type} (L:Nat) (k_fin:Bool→Option β):Option β :=
 k_fin true
theorem zfj {β:Type} (L:Nat) (k:KK β):(yO 0 (zao (xn yF (zG L) 0 L zbE) (zaW 0 (CF.res yV) k))) (.exit 0) (zcD)=zdx L (fun p0=>k (V.sc (.bool p0)) []):=by kernel_rfl
def y9 {β:Type} (L:Nat) (k_ret:Bool→Option β) (k_x0:Option β):Nat→List (List V)→List (List V)→Int→Option β
 | 0,_,_,_=>none
 | n+1,p0,p1,p5=>zch L p0 p1 p5 k_ret (fun p0 p1 p5=>y9 L k_ret k_x0 n p0 p1 p5) k_x0
theorem zdj {β:Type} (L:Nat) (K:KT β):∀ (n:Nat) (p0 p1:List (List V)) (p5:Int),yS (xn yF (zG L) 0 L z0) zaK n (zad p0 p1 p5) K=y9 L (fun p4=>K .ret (zci p4)) (K (.exit 0) (zcD)) n p0 p1 p5:=by
 intro n
 induction n with
 | zero=>intros; rfl
 | succ n ih =>
  intro p0 p1 p5
  refine (zfM L p0 p1 p5 (fun σ=>yS (xn yF (zG L) 0 L z0) zaK n σ K) K).trans ?_
  simp only [ih]
  rfl
def zds {β:Type} (L:Nat) (p0 p1:List (List V)) (k_fin:Bool→Option β):Option β :=
 zex L p0 p1 k_fin (fun p0 p1 p5=>y9 L (fun p4=>zdu L p4 k_fin) (zdx L k_fin) L p0 p1 p5)
theorem zic {β:Type} (L:Nat) (p0 p1:List (List V)) (k:KK β):xH yF (zG L) L yV [(V.sl 3 p0),(V.sl 3 p1)] [] k=zds L p0 p1 (fun p0=>k (V.sc (.bool p0)) []):=by
 refine (zh0 L p0 p1 k).trans ?_
 unfold zds
 first
  | (simp only [zdj,zeQ,zfj]; done)
  | (simp only [zdj]; rfl)
abbrev xF:=∀ (β:Type),Nat→List (List V)→List (List V)→(Bool→Option β)→Option β
def xe (β:Type) (L:Nat) (p0 p1:List (List V)) (k_fin:Bool→Option β):Option β:=zds L p0 p1 k_fin
def zde (xe:xF) (L:Nat) (β:Type) (args:List V) (bor:Bor) (k:KK β):Option β:=match args,bor with
 | [a0,a1],[]=>aL 3 a0 fun p0=>aL 3 a1 fun p1=>xe β L p0 p1 (fun p0=>k (V.sc (.bool p0)) [])
 | _,_=>none
theorem zib (L:Nat) (β:Type) (args:List V) (bor:Bor) (k:KK β) (r:β) (h:zde xe L β args bor k=some r):xH yF (zG L) L yV args bor k=some r:=by
 unfold zde at h
 split at h
 ·have q:=zct h; clear h; obtain ⟨p0,rfl,h⟩:=q
  have q:=zct h; clear h; obtain ⟨p1,rfl,h⟩:=q
  exact (zic L p0 p1 k).trans h
 ·cases h
def yH:CC:=(.seq (.seq (.reg [oo 14 (.move (tq 6) false),
   oo 15 (.bin .lss (tq 14) (.const (.sc (.int .i64 64))))])
 (.cond (tq 15)
 .skip
 (.seq (.mask (bl 35 62) (bl 4611686018414804927 62))
 (.exit 0))))
 (.seq (.block 1 (.reg [oo 18 (.move (tq 5) true),
   oo 19 (.move (tq 6) false),
   oo 20 (.bin .mul (.const (.sc (.int .i64 2))) (tq 19)),
   oo 21 (.build [(.sc (.int .i64 0)),(.sc (.int .i64 0)),(.sc (.int .u32 0))] [(0,1,(tq 20)),(1,1,(.const (.sc (.int .i64 1))))]),
   oo 22 (.buildSlice 3 1 [(.sc (.int .i64 0)),(.sc (.int .i64 0)),(.sc (.int .u32 0))] [(0,3,(tq 21))]),
   oo 23 (.append 3 24 (tq 18) (tq 22)),
   oo 5 (.move (tq 23) true)]))
 (.reg [oo 16 (.move (tq 6) false),
   oo 17 (.bin .add (tq 16) (.const (.sc (.int .i64 1)))),
   oo 6 (.move (tq 17) false)])))
def zau:CC:=(.seq (.reg [oo 24 (.move (tq 0) false),
   oo 25 (.call 217 [((tq 24),0),((.const (.sc (.int .i64 130))),0)] []),
   oo 7 (.move (tq 25) false)])
 (.seq (.reg [oo 27 (.move (tq 5) false),
   oo 28 (.move (tq 7) false),
   oo 29 (.move (tq 1) false),
   oo 30 (.call 217 [((tq 29),0),((.const (.sc (.int .i64 200))),0)] []),
   oo 31 (.call 309 [((tq 27),0),((tq 28),0),((tq 30),0),((.const (.sc (.int .u32 5))),0),((.const (.sc (.int .u32 5))),0)] []),
   oo 26 (.move (tq 31) true),
   oo 32 (.extract (tq 26) 0),
   oo 33 (.pull (tq 26) 1),
   oo 8 (.move (tq 32) false),
   oo 9 (.move (tq 33) false)])
 (.seq (.reg [oo 35 (.move (tq 5) false),
   oo 36 (.move (tq 7) false),
   oo 37 (.move (tq 1) false),
   oo 38 (.call 217 [((tq 37),0),((.const (.sc (.int .i64 200))),0)] []),
   oo 39 (.call 310 [((tq 35),0),((tq 36),0),((tq 38),0),((.const (.sc (.int .u32 5))),0),((.const (.sc (.int .u32 5))),0)] []),
   oo 34 (.move (tq 39) true),
   oo 40 (.extract (tq 34) 0),
   oo 41 (.pull (tq 34) 1),
   oo 10 (.move (tq 40) false),
   oo 11 (.move (tq 41) false)])
 (.seq (.reg [oo 42 (.move (tq 9) false),
   oo 43 (.move (tq 11) false),
   oo 44 (.bin .eql (tq 42) (tq 43)),
   oo 45 (.move (tq 44) false),
   ⟨(some 46),false,(some (45,true)),.move (tq 8) false⟩,
   ⟨(some 47),false,(some (45,true)),.move (tq 10) false⟩,
   ⟨(some 48),false,(some (45,true)),.call 311 [((tq 46),0),((tq 47),0)] []⟩,
   oo 49 (.pick (tq 45) (tq 48) (.const (.sc (.bool false)))),
   oo 50 (.move (tq 49) false),
   ⟨(some 51),false,(some (50,true)),.move (tq 9) false⟩,
   ⟨(some 52),false,(some (50,true)),.bin .eql (tq 51) (.const (.sc (.int .i64 380)))⟩,
   ⟨(some 53),false,(some (50,true)),.move (tq 7) false⟩,
   ⟨(some 54),false,(some (50,true)),.bin .rem (tq 53) (.const (.sc (.int .i64 2)))⟩,
   ⟨(some 55),false,(some (50,true)),.bin .eql (tq 54) (.const (.sc (.int .i64 1)))⟩,
   ⟨(some 56),false,(some (50,true)),.move (tq 55) false⟩,
   ⟨(some 57),false,(some (56,false)),.move (tq 7) false⟩,
   ⟨(some 58),false,(some (56,false)),.bin .geq (tq 57) (.const (.sc (.int .i64 128)))⟩,
   ⟨(some 59),false,(some (50,true)),.pick (tq 56) (.const (.sc (.bool true))) (tq 58)⟩,
   ⟨(some 60),false,(some (50,true)),.eqB false (tq 52) (tq 59)⟩,
   oo 61 (.pick (tq 50) (tq 60) (.const (.sc (.bool false)))),
   oo 4 (.move (tq 61) false)])
 .ret))))
def zE:CF:=⟨62,[.tmp 4],
 (.seq (.reg [oo 4 (.move (.const (.sc (.bool false))) false)])
 (.seq (.seq (.reg [oo 12 (.call 308 [] []),
   oo 13 (.un .not (tq 12))])
 (.cond (tq 13)
 (.seq (.reg [oo 4 (.move (.const (.sc (.bool false))) false)])
 .ret)
 .skip))
 (.seq (.reg [oo 5 (.move (.const (.gs 3 [])) true)])
 (.seq (.seq (.reg [oo 6 (.move (.const (.sc (.int .i64 0))) false)])
 (.block 0 (.loop (bl 99 62) (bl 4611686018414804991 62)
 yH)))
 zau))))⟩
def zcr:Hint:=⟨[(3,0),(7,0),(7,6),(9,5),(9,6),(10,5),(10,6)],[],[none,none,none,some ((bl 99 62),(bl 4611686018414804991 62)),none,some ((bl 35 62),(bl 4611686018414804927 62)),none,none],[],[],false,false,[]⟩
def xp:Nat→Sh:=zcI []
def zp (zf:xG) (yg:zQ) (ya:xo) (ze:zH) (xe:xF) (L:Nat):CBC:=(zbZ 311 (zde xe L) (zbZ 310 (zdg ze L) (zbZ 309 (za1 ya L) (zbZ 217 (zem yg L) (zbZ 308 (zcY zf L) noC)))))
def xS:St→St:=zaL 0 (bl 99 62) (bl 4611686018414804991 62)
def yN (p0 p1:Int) (p5:List (List V)) (p6:Int):St:=⟨((V.sc (.int .i64 p0))::((V.sc (.int .i64 p1))::(jn 3 ((V.gs 3 p5)::((V.sc (.int .i64 p6))::(jn 55 [])))))),(gn 62 [])⟩
def zav (p0 p1:Int) (p5:List (List V)):St:=⟨((V.sc (.int .i64 p0))::((V.sc (.int .i64 p1))::(jn 3 ((V.gs 3 p5)::(jn 56 []))))),(gn 62 [])⟩
def zbt {β:Type} (zf:xG) (yg:zQ) (ya:xo) (ze:zH) (xe:xF) (L:Nat) (p0 p1:Int) (k_fin:Bool→Option β) (k_hbbbaba:Int→Int→List (List V)→Int→Option β):Option β :=
 zf β L  (fun v0 =>
 ifb (!v0) (
 k_fin false) (
 k_hbbbaba p0 p1 ([]:List (List V)) (0:Int)))
theorem zfa {β:Type} (zf:xG) (yg:zQ) (ya:xo) (ze:zH) (xe:xF) (L:Nat) (p0 p1:Int) (k:KK β):xH xp (zp zf yg ya ze xe L) L zE [(V.sc (.int .i64 p0)),(V.sc (.int .i64 p1))] [] k=zbt zf yg ya ze xe L p0 p1 (fun p0=>k (V.sc (.bool p0)) []) (fun p0 p1 p5 p6=>yS (xn xp (zp zf yg ya ze xe L) 0 L yH) xS L (yN p0 p1 p5 p6) (yO 0 (zao (xn xp (zp zf yg ya ze xe L) 0 L zau) (zaW 0 (CF.res zE) k)))):=by kernel_rfl
def zah {β:Type} (zf:xG) (yg:zQ) (ya:xo) (ze:zH) (xe:xF) (L:Nat) (p0 p1:Int) (p5:List (List V)) (p6:Int) (k_hbbbaba:Int→Int→List (List V)→Int→Option β) (k_x0:Int→Int→List (List V)→Option β):Option β :=
 ifb (decide (p6 < (64:Int))) (
 lt (IntKind.wrap .i64 (((2:Int):Int) * p6)) fun x1 =>
 chk ((List.length p5+List.length (zb 3 1 [(V.sc (.int .i64 x1)),(V.sc (.int .i64 (1:Int))),(V.sc (.int .u32 (0:Int)))])) * 24≤zi∧List.length p5+List.length (zb 3 1 [(V.sc (.int .i64 x1)),(V.sc (.int .i64 (1:Int))),(V.sc (.int .u32 (0:Int)))])≤zi) (
 lt (p5++(zb 3 1 [(V.sc (.int .i64 x1)),(V.sc (.int .i64 (1:Int))),(V.sc (.int .u32 (0:Int)))])) fun l2 =>
 lt (IntKind.wrap .i64 ((p6:Int)+(1:Int))) fun x3 =>
 k_hbbbaba p0 p1 l2 x3)) (
 k_x0 p0 p1 p5)
theorem zdA {β:Type} (zf:xG) (yg:zQ) (ya:xo) (ze:zH) (xe:xF) (L:Nat) (p0 p1:Int) (p5:List (List V)) (p6:Int) (X:St→Option β) (K:KT β):xn xp (zp zf yg ya ze xe L) 0 L yH (yN p0 p1 p5 p6) (zeS xS X K)=zah zf yg ya ze xe L p0 p1 p5 p6 (fun p0 p1 p5 p6=>X (yN p0 p1 p5 p6)) (fun p0 p1 p5=>K (.exit 0) (zav p0 p1 p5)):=by kernel_rfl
def z1 {β:Type} (zf:xG) (yg:zQ) (ya:xo) (ze:zH) (xe:xF) (L:Nat) (p0 p1:Int) (p5:List (List V)) (k_fin:Bool→Option β):Option β :=
 yg β L p0 (130:Int) (fun v4 =>
 yg β L p1 (200:Int) (fun v5 =>
 ya β L p5 v4 v5 (5:Int) (5:Int) (fun v6 v7 =>
 yg β L p1 (200:Int) (fun v8 =>
 ze β L p5 v4 v8 (5:Int) (5:Int) (fun v9 v10 =>
 ifb ((v7:Int) == v10) (
 xe β L v6 v9 (fun v11 =>
 ifb v11 (
 lt (Int.tmod v4 (2:Int)) fun x12 =>
 ifb ((x12:Int) == (1:Int)) (
 k_fin (((v7:Int) == (380:Int)) == true)) (
 k_fin (((v7:Int) == (380:Int)) == (decide (v4 ≥ (128:Int)))))) (
 k_fin false))) (
 k_fin false)) (fun v13 v14 =>
 ifb ((v7:Int) == v14) (
 xe β L v6 v13 (fun v15 =>
 ifb v15 (
 lt (Int.tmod v4 (2:Int)) fun x16 =>
 ifb ((x16:Int) == (1:Int)) (
 k_fin (((v7:Int) == (380:Int)) == true)) (
 k_fin (((v7:Int) == (380:Int)) == (decide (v4 ≥ (128:Int)))))) (
 k_fin false))) (
 k_fin false))))))
theorem zdk {β:Type} (zf:xG) (yg:zQ) (ya:xo) (ze:zH) (xe:xF) (L:Nat) (p0 p1:Int) (p5:List (List V)) (k:KK β):(yO 0 (zao (xn xp (zp zf yg ya ze xe L) 0 L zau) (zaW 0 (CF.res zE) k))) (.exit 0) (zav p0 p1 p5)=z1 zf yg ya ze xe L p0 p1 p5 (fun p0=>k (V.sc (.bool p0)) []):=by kernel_rfl
def yJ {β:Type} (zf:xG) (yg:zQ) (ya:xo) (ze:zH) (xe:xF) (L:Nat) (k_x0:Int→Int→List (List V)→Option β):Nat→Int→Int→List (List V)→Int→Option β
 | 0,_,_,_,_=>none
 | n+1,p0,p1,p5,p6=>zah zf yg ya ze xe L p0 p1 p5 p6 (fun p0 p1 p5 p6=>yJ zf yg ya ze xe L k_x0 n p0 p1 p5 p6) k_x0
theorem zaQ {β:Type} (zf:xG) (yg:zQ) (ya:xo) (ze:zH) (xe:xF) (L:Nat) (K:KT β):∀ (n:Nat) (p0 p1:Int) (p5:List (List V)) (p6:Int),yS (xn xp (zp zf yg ya ze xe L) 0 L yH) xS n (yN p0 p1 p5 p6) K=yJ zf yg ya ze xe L (fun p0 p1 p5=>K (.exit 0) (zav p0 p1 p5)) n p0 p1 p5 p6:=by
 intro n
 induction n with
 | zero=>intros; rfl
 | succ n ih =>
  intro p0 p1 p5 p6
  refine (zdA zf yg ya ze xe L p0 p1 p5 p6 (fun σ=>yS (xn xp (zp zf yg ya ze xe L) 0 L yH) xS n σ K) K).trans ?_
  simp only [ih]
  rfl
def zat {β:Type} (zf:xG) (yg:zQ) (ya:xo) (ze:zH) (xe:xF) (L:Nat) (p0 p1:Int) (k_fin:Bool→Option β):Option β :=
 zbt zf yg ya ze xe L p0 p1 k_fin (fun p0 p1 p5 p6=>yJ zf yg ya ze xe L (fun p0 p1 p5=>z1 zf yg ya ze xe L p0 p1 p5 k_fin) L p0 p1 p5 p6)
theorem zfd {β:Type} (zf:xG) (yg:zQ) (ya:xo) (ze:zH) (xe:xF) (L:Nat) (p0 p1:Int) (k:KK β):xH xp (zp zf yg ya ze xe L) L zE [(V.sc (.int .i64 p0)),(V.sc (.int .i64 p1))] [] k=zat zf yg ya ze xe L p0 p1 (fun p0=>k (V.sc (.bool p0)) []):=by
 refine (zfa zf yg ya ze xe L p0 p1 k).trans ?_
 unfold zat
 first
  | (simp only [zaQ,zdk]; done)
  | (simp only [zaQ]; rfl)
abbrev zgf:=∀ (β:Type),Nat→Int→Int→(Bool→Option β)→Option β
def xA (β:Type) (L:Nat) (p0 p1:Int) (k_fin:Bool→Option β):Option β:=zat zf yg ya ze xe L p0 p1 k_fin
def zas (xA:zgf) (L:Nat) (β:Type) (args:List V) (bor:Bor) (k:KK β):Option β:=match args,bor with
 | [a0,a1],[]=>aI .i64 a0 fun p0=>aI .i64 a1 fun p1=>xA β L p0 p1 (fun p0=>k (V.sc (.bool p0)) [])
 | _,_=>none
theorem zfm (L:Nat) (β:Type) (args:List V) (bor:Bor) (k:KK β) (r:β) (h:zas xA L β args bor k=some r):xH xp (zp zf yg ya ze xe L) L zE args bor k=some r:=by
 unfold zas at h
 split at h
 ·have q:=xJ h; clear h; obtain ⟨p0,rfl,h⟩:=q
  have q:=xJ h; clear h; obtain ⟨p1,rfl,h⟩:=q
  exact (zfd zf yg ya ze xe L p0 p1 k).trans h
 ·cases h
def gls:List (Nat × List V):=[]
def fg:List (Nat × Nat):=[(3,307),(4,308),(5,217),(6,309),(7,310),(8,311),(9,312),(10,313),(11,314),(12,315),(13,316),(14,317),(15,318),(16,319),(17,320),(18,321),(19,322),(20,323),(21,324)]
def rows:List Row:=[⟨10,313,zd0,zK⟩,⟨11,314,zdz,zI⟩,⟨12,315,xQ,yw⟩,⟨14,317,zdS,za5⟩,⟨6,309,zee,zbD⟩,⟨17,320,zdw,zaM⟩,⟨9,312,zdy,yI⟩,⟨4,308,zeY,zcx⟩,⟨5,217,zf0,zdN⟩,⟨15,318,zeD,xR⟩,⟨16,319,zez,zb5⟩,⟨7,310,ze6,y8⟩,⟨8,311,zeT,yV⟩,⟨3,307,zcr,zE⟩]
theorem zhx:zaR Try.prog (xP fg gls) zd0 10=some zK:=by kernel_rfl
theorem zhf:zaR Try.prog (xP fg gls) zdz 11=some zI:=by kernel_rfl
theorem zbm:zaR Try.prog (xP fg gls) xQ 12=some yw:=by kernel_rfl
theorem zhQ:zaR Try.prog (xP fg gls) zdS 14=some za5:=by kernel_rfl
theorem ziz:zaR Try.prog (xP fg gls) zee 6=some zbD:=by kernel_rfl
theorem zhb:zaR Try.prog (xP fg gls) zdw 17=some zaM:=by kernel_rfl
theorem zhd:zaR Try.prog (xP fg gls) zdy 9=some yI:=by kernel_rfl
theorem zjA:zaR Try.prog (xP fg gls) zeY 4=some zcx:=by kernel_rfl
theorem zkL:zaR Try.prog (xP fg gls) zf0 5=some zdN:=by kernel_rfl
theorem zi6:zaR Try.prog (xP fg gls) zeD 15=some xR:=by kernel_rfl
theorem ziT:zaR Try.prog (xP fg gls) zez 16=some zb5:=by kernel_rfl
theorem zjB:zaR Try.prog (xP fg gls) ze6 7=some y8:=by kernel_rfl
theorem zjC:zaR Try.prog (xP fg gls) zeT 8=some yV:=by kernel_rfl
theorem zfR:zaR Try.prog (xP fg gls) zcr 3=some zE:=by kernel_rfl
theorem znP:∀ r ∈ rows,(r.f,r.g) ∈ fg∧x7 Try.prog r.f=true∧zaR Try.prog (xP fg gls) r.h r.f=some r.c:=by
 intro r hr
 simp only [rows,List.mem_cons,List.not_mem_nil,or_false] at hr
 rcases hr with rfl | rfl | rfl | rfl | rfl | rfl | rfl | rfl | rfl | rfl | rfl | rfl | rfl | rfl
 ·exact ⟨of_decide_eq_true (by kernel_rfl),by kernel_rfl,zhx⟩
 ·exact ⟨of_decide_eq_true (by kernel_rfl),by kernel_rfl,zhf⟩
 ·exact ⟨of_decide_eq_true (by kernel_rfl),by kernel_rfl,zbm⟩
 ·exact ⟨of_decide_eq_true (by kernel_rfl),by kernel_rfl,zhQ⟩
 ·exact ⟨of_decide_eq_true (by kernel_rfl),by kernel_rfl,ziz⟩
 ·exact ⟨of_decide_eq_true (by kernel_rfl),by kernel_rfl,zhb⟩
 ·exact ⟨of_decide_eq_true (by kernel_rfl),by kernel_rfl,zhd⟩
 ·exact ⟨of_decide_eq_true (by kernel_rfl),by kernel_rfl,zjA⟩
 ·exact ⟨of_decide_eq_true (by kernel_rfl),by kernel_rfl,zkL⟩
 ·exact ⟨of_decide_eq_true (by kernel_rfl),by kernel_rfl,zi6⟩
 ·exact ⟨of_decide_eq_true (by kernel_rfl),by kernel_rfl,ziT⟩
 ·exact ⟨of_decide_eq_true (by kernel_rfl),by kernel_rfl,zjB⟩
 ·exact ⟨of_decide_eq_true (by kernel_rfl),by kernel_rfl,zjC⟩
 ·exact ⟨of_decide_eq_true (by kernel_rfl),by kernel_rfl,zfR⟩
theorem mixed:Try.prog.follows .mixedOrders=true:=by kernel_rfl
theorem zoD:zm1 fg=true:=by kernel_rfl
theorem zoE:za8 Try.prog (xP fg gls) zfG:=znJ (zn1 (by kernel_rfl)) (zn2 (f0:=13) (g0:=316) (by kernel_rfl) rfl (zok zoQ (of_decide_eq_true (by kernel_rfl))))
theorem zoK (L d:Nat):za8 Try.prog (xP fg gls) (evF (zab rows) zfG L d):=znS mixed zoD zoE znP L d
theorem zhe (L:Nat):FOk (zab rows) L 313 (zbz zm L) 1:=zaE (D:=0) (by kernel_rfl) fun m hm=>⟨zy,xx L,zaB,zgF L⟩
theorem zgQ (L:Nat):FOk (zab rows) L 314 (zbg zk L) 1:=zaE (D:=0) (by kernel_rfl) fun m hm=>⟨zu,xt L,zaB,zf7 L⟩
theorem za4 (L:Nat):FOk (zab rows) L 315 (xw xb L) 1:=zaE (D:=0) (by kernel_rfl) fun m hm=>⟨yE,zF L,zaB,zaZ L⟩
theorem zaU (L:Nat):FOk (zab rows) L 316 (zw zc L) 1:=znI (d:=zw zc L) (by kernel_rfl) rfl (fun β args bor k r h=>by
 unfold zw zc at h
 split at h
 ·have q:=zkV h; clear h; obtain ⟨n,rfl,h⟩:=q
  have q:=xJ h; clear h; obtain ⟨i,rfl,h⟩:=q
  have q:=zkV h; clear h; obtain ⟨m,rfl,h⟩:=q
  obtain ⟨hk,h⟩:=zg h
  exact ⟨n,i,m,_,_,rfl,rfl,hk,h⟩
 ·cases h)
theorem zhg (L:Nat):FOk (zab rows) L 317 (zbF xk L) 1:=zaE (D:=0) (by kernel_rfl) fun m hm=>⟨zcJ,zcF L,zaB,zgZ L⟩
theorem zey (L:Nat):FOk (zab rows) L 309 (za1 ya L) 2:=zaE (D:=1) (by kernel_rfl) fun m hm=>⟨zdf,zdh zm zk xb zc xk L,(yX (yX (yX (yX (yX zaB (zhe L m (by omega))) (zgQ L m (by omega))) (za4 L m (by omega))) (zaU L m (by omega))) (zhg L m (by omega))),zg9 L⟩
theorem zgo (L:Nat):FOk (zab rows) L 320 (zbk yb L) 1:=zaE (D:=0) (by kernel_rfl) fun m hm=>⟨zcf,zcg L,zaB,zgb L⟩
theorem zgi (L:Nat):FOk (zab rows) L 312 (zbe zl L) 2:=zaE (D:=1) (by kernel_rfl) fun m hm=>⟨zt,yt yb L,(yX zaB (zgo L m (by omega))),zge L⟩
theorem zi2 (L:Nat):FOk (zab rows) L 308 (zcY zf L) 3:=zaE (D:=2) (by kernel_rfl) fun m hm=>⟨zd3,zd6 ya zl L,(yX (yX zaB (zey L m (by omega))) (zgi L m (by omega))),ziv L⟩
theorem zkz (L:Nat):FOk (zab rows) L 217 (zem yg L) 1:=zaE (D:=0) (by kernel_rfl) fun m hm=>⟨zfi,zfg L,zaB,zjL L⟩
theorem ziC (L:Nat):FOk (zab rows) L 318 (zcv xd L) 1:=zaE (D:=0) (by kernel_rfl) fun m hm=>⟨yD,xC L,zaB,zhw L⟩
theorem zh9 (L:Nat):FOk (zab rows) L 319 (zcC yd L) 1:=zaE (D:=0) (by kernel_rfl) fun m hm=>⟨zdH,zdD L,zaB,zhH L⟩
theorem ziQ (L:Nat):FOk (zab rows) L 310 (zdg ze L) 2:=zaE (D:=1) (by kernel_rfl) fun m hm=>⟨xL,yL xd yd L,(yX (yX zaB (ziC L m (by omega))) (zh9 L m (by omega))),zhX L⟩
theorem zi4 (L:Nat):FOk (zab rows) L 311 (zde xe L) 1:=zaE (D:=0) (by kernel_rfl) fun m hm=>⟨yF,zG L,zaB,zib L⟩
theorem zfD (L:Nat):FOk (zab rows) L 307 (zas xA L) 4:=zaE (D:=3) (by kernel_rfl) fun m hm=>⟨xp,zp zf yg ya ze xe L,(yX (yX (yX (yX (yX zaB (zi2 L m (by omega))) (zkz L m (by omega))) (zey L m (by omega))) (ziQ L m (by omega))) (zi4 L m (by omega))),zfm L⟩
end
section
set_option linter.unusedVariables false
set_option linter.unusedSimpArgs false
set_option maxRecDepth 100000
variable {β:Type}
theorem zmg (L:Nat) (v n:Int) (hn:1≤n) (hn2:n≤1000000000000):∃ r,0≤r∧r < n∧∀ (β:Type) (k:Int→Option β),yg β L v n k=k r:=by
 by_cases h:Int.tmod v n < 0
 ·have h1:=Int.lt_tmod_of_pos v (show 0 < n by omega)
  refine ⟨Int.tmod v n+n,by omega,by omega,fun β k=>?_⟩
  simp only [yg,zej,zb9]
  rw [xq (by omega),zal h,zbJ (by omega) (by omega)]
 ·have h1:=Int.tmod_lt_of_pos v (show 0 < n by omega)
  refine ⟨Int.tmod v n,by omega,h1,fun β k=>?_⟩
  simp only [yg,zej,zb9]
  rw [xq (by omega),yy h]
def pr (a b c:Int):List V:=[.sc (.int .i64 a),.sc (.int .i64 b),.sc (.int .u32 c)]
def pn (i:Nat):List (List V):=(List.range i).map fun (j:Nat)=>pr (2 * (j:Int)) 1 0
theorem zL (i:Nat):(pn i).length=i:=by simp [pn]
theorem zdZ {n i:Nat} (h:i < n):(pn n)[i]?=some (pr (2 * (i:Int)) 1 0):=by simp [pn,h]
theorem znK (i:Nat):pn (i+1)=pn i++[pr (2 * (i:Int)) 1 0]:=by simp [pn,List.range_succ]
theorem z6 (n:Nat):∀ e ∈ pn n,e.length=3:=by
 intro e he
 simp only [pn,List.mem_map] at he
 obtain ⟨j,_,rfl⟩:=he; rfl
theorem zi1 (a b c:Int):List.take 3 (pr a b c)=pr a b c:=rfl
theorem zlX (a b c:Int):yj [(V.sc (.int .i64 (0:Int))),(V.sc (.int .i64 (0:Int))),(V.sc (.int .u32 (0:Int)))] 0 (pr a b c)=pr a b c:=rfl
theorem zl6 (a b c:Int):(pr a b c).length=3:=rfl
theorem build (L:Nat) (p0 p1:Int) (kx:Int→Int→List (List V)→Option β):∀ (m i:Nat),i≤64→64 - i < m→yJ zf yg ya ze xe L kx m p0 p1 (pn i) (i:Int)=kx p0 p1 (pn 64)
 | 0,i,h,hm=>by omega
 | m+1,i,h,hm=>by
  simp only [yJ,zah,zb9]
  by_cases hi:i=64
  ·subst hi; rw [yy (by omega)]
  ·have e:zb 3 1 [(V.sc (.int .i64 (2 * (i:Int)))),(V.sc (.int .i64 (1:Int))),(V.sc (.int .u32 (0:Int)))]=[pr (2 * (i:Int)) 1 0]:=rfl
   rw [zal (by omega),zbJ (by omega) (by omega),e,xq (by simp [zL,zi]; omega),← znK,zbH (by omega)]
   exact build L p0 p1 kx m (i+1) (by omega) (by omega)
theorem zl5 (L:Nat) (x:Option β) (kr:Bool→Option β) (kx:Option β):∀ (m i:Nat) (q:Int),i≤64→64 - i < m→q < 2 * (i:Int)→zR L kr kx m q (pn 64) 64 (i:Int)=kx
 | 0,i,q,h,hm,hq=>by omega
 | m+1,i,q,h,hm,hq=>by
  simp only [zR,za3,zb9]
  by_cases hi:i=64
  ·subst hi; rw [yy (by omega)]
  ·rw [zal (by omega),zaw (zdZ (show i < 64 by omega)),zi1,xq (by simp [zl6]),zlX,xM (kd:=.i64) (n:=2 * (i:Int)) rfl,yy (by omega),xM (kd:=.i64) (n:=1) rfl,yy (by omega),xM (kd:=.i64) (n:=1) rfl,yy (by omega),xM (kd:=.i64) (n:=2 * (i:Int)) rfl,zbH (by omega)]
   exact zl5 L x kr kx m (i+1) _ (by omega) (by omega) (by omega)
theorem zmH (L:Nat) (kr:Bool→Option β) (kx:List (List V)→Option β):∀ (m i:Nat),i≤64→64 - i < m→zaa L kr kx m (pn 64) (i:Int)=kx (pn 64)
 | 0,i,h,hm=>by omega
 | m+1,i,h,hm=>by
  simp only [zaa,zck,zb9,zL]
  by_cases hi:i=64
  ·subst hi; rw [yy (by omega)]
  ·have g:=zdZ (show i < 64 by omega)
   have r:=zmH L kr kx m (i+1) (by omega) (by omega)
   rw [zal (by omega),zaw g,xM (kd:=.i64) (n:=2 * (i:Int)) rfl,yy (by omega)]
   have tail:∀ (k:Option β),(idx (pn 64) (i:Int) fun c7=>cI .i64 (List.drop 1 c7) 0 fun v8=>ifb (decide (v8 < (0:Int))) (kr false) (idx (pn 64) (i:Int) fun c9=>cI .i64 (List.drop 1 c9) 0 fun v10=>ifb (decide (v10 > (100:Int))) (kr false) k))=k:=by
    intro k
    rw [zaw g,xM (kd:=.i64) (n:=1) rfl,yy (by omega),zaw g,xM (kd:=.i64) (n:=1) rfl,yy (by omega)]
   by_cases h0:i=0
   ·subst h0
    rw [yy (by omega),tail,zbH (by omega)]; exact r
   ·rw [zal (by omega),show IntKind.wrap .i64 ((i:Int) - 1)=((i - 1:Nat):Int) by rw [zbJ (by omega) (by omega)]; omega,zaw (zdZ (show i - 1 < 64 by omega)),xM (kd:=.i64) (n:=2 * ((i - 1:Nat):Int)) rfl,zaw g,xM (kd:=.i64) (n:=2 * (i:Int)) rfl,yy (by omega),tail,zbH (by omega)]; exact r
theorem zjR (L:Nat) (k:Int) (hk:0≤k) (kr:Int→Bool→Option β) (kx:List (List V)→Option β):∀ (m i:Nat),i≤64→64 - i < m→(i:Int)≤(k+1) / 2 →
  xT L kr kx m (pn 64) k (pn 64) 64 (i:Int)=if k≤126 then kr ((k+1) / 2) (2 * ((k+1) / 2) == k) else kx (pn 64)
 | 0,i,h,hm,_=>by omega
 | m+1,i,h,hm,hi2=>by
  simp only [xT,zbh,zb9]
  by_cases hi:i=64
  ·subst hi; rw [yy (by omega),if_neg (by omega)]
  ·rw [zal (by omega),zaw (zdZ (show i < 64 by omega)),zi1,xq (by simp [zl6]),zlX,xM (kd:=.i64) (n:=2 * (i:Int)) rfl]
   by_cases hc:2 * (i:Int) ≥ k
   ·have e:(k+1) / 2=(i:Int):=by omega
    rw [zal hc,xM (kd:=.i64) (n:=2 * (i:Int)) rfl,if_pos (by omega),e]
   ·rw [yy hc,zbH (by omega)]
    exact zjR L k hk kr kx m (i+1) (by omega) (by omega) (by omega)
theorem zlL (L:Nat) (k p2 p3 p4:Int) (hk:0≤k) (kx:List (List V)→Int→Int→Int→Int→Int→Option β):∀ (m i:Nat),i≤64→64 - i < m→(i:Int)≤(k+1) / 2 →
  xZ xd yd L kx m (pn 64) k p2 p3 p4 (i:Int)=kx (pn 64) k p2 p3 p4 (if k≤126 then (k+1) / 2 else 64)
 | 0,i,h,hm,_=>by omega
 | m+1,i,h,hm,hi2=>by
  simp only [xZ,zbM,zb9,zL]
  by_cases hi:i=64
  ·subst hi; rw [yy (by omega),if_neg (by omega)]; rfl
  ·rw [zal (by omega),zaw (zdZ (show i < 64 by omega)),xM (kd:=.i64) (n:=2 * (i:Int)) rfl]
   by_cases hc:2 * (i:Int) < k
   ·rw [zal hc,zbH (by omega)]
    exact zlL L k p2 p3 p4 hk kx m (i+1) (by omega) (by omega) (by omega)
   ·have e:(k+1) / 2=(i:Int):=by omega
    rw [yy hc,if_pos (by omega),e]
theorem zl9 (L:Nat) (hL:100≤L) (k:Bool→Option β):zm β L (pn 64) k=k true:=by
 simp only [zm,zbw,zc4,zL]
 rw [yy (by omega)]
 exact zl5 L none _ _ L 0 (-1) (by omega) (by omega) (by omega)
theorem zkX (L:Nat) (hL:100≤L) (k:Bool→Option β):xd β L (pn 64) k=k true:=by
 simp only [xd,zcw,zeb]
 refine (zmH L _ _ L 0 (by omega) (by omega)).trans ?_
 simp only [zbu,zL]; rfl
theorem zjx (L:Nat) (hL:100≤L) (l:List (List V)) (hl:l.length≤90) (h:∀ e ∈ l,∃ a b c,e=pr a b c) (k:Bool→Option β):xe β L l l k=k true:=by
 have loop:∀ (kr:Bool→Option β) (kx:Option β) (m i:Nat),i≤l.length→l.length - i < m→y9 L kr kx m l l (i:Int)=kx:=by
  intro kr kx m
  induction m with
  | zero=>intro i h1 h2; omega
  | succ m ih =>
   intro i h1 h2
   simp only [y9,zch,zb9]
   by_cases hi:i < l.length
   ·obtain ⟨a,b,c,e⟩:=h _ (List.getElem_mem hi)
    have g:l[i]?=some (pr a b c):=by rw [List.getElem?_eq_getElem hi,e]
    have ec:∀ κ:Bool→Option β,eqC 3 (pr a b c) (pr a b c) κ=κ true:=by
     intro κ
     simp [eqC,pr,zbp,zlU]
    rw [zal (by omega),zaw g,zaw g,zi1,ec,zbH (by omega)]
    exact ih (i+1) (by omega) (by omega)
   ·rw [yy (by omega)]
 simp only [xe,zds,zex]
 rw [zi0,if_pos rfl]
 exact loop _ _ L 0 (by omega) (by omega)
theorem zoJ (k:Bool→Option β):zf β 1000 k=k true:=by kernel_rfl
def zhB (i:Nat) (p:Int):List (List V):=(pn 64).set i (if p ≥ 99 then pr (2 * (i:Int)) 100 10 else pr (2 * (i:Int)) (1+p) 0)
theorem zm7 (i:Nat) (p:Int):(zhB i p).length=64:=by simp [zhB,zL]
theorem zmb (i:Nat) (p:Int):∀ e ∈ zhB i p,∃ a b c,e=pr a b c:=by
 intro e he
 rcases List.mem_or_eq_of_mem_set he with h | h
 ·simp only [pn,List.mem_map] at h
  obtain ⟨j,_,rfl⟩:=h; exact ⟨_,_,_,rfl⟩
 ·split at h <;> exact ⟨_,_,_,h⟩
theorem zn4 (L:Nat) (k:List (List V)→Option β):xb β L (pn 64) k=k (pn 64):=by
 simp only [xb,yG]
 have hl:=zL 64
 have he:=z6 64
 generalize pn 64=q at hl he
 match q,hl with
 | h::t,hl =>
  have hf:=zdG he
  simp only [lc]
  rw [xq (by rw [hl]; simp [zi]),xq (by rw [hl]; omega),zdJ he]
theorem zob (es:List (List V)) (h:∀ e ∈ es,e.length=3) {i:Nat} {a b c:Int} (he:es[i]?=some (pr a b c)) (x:Int):yj es.flatten (i * 3+1) [V.sc (.int .i64 x)]=(es.set i (pr a x c)).flatten:=zku (by omega) h (by omega) he _
theorem zoa (es:List (List V)) (h:∀ e ∈ es,e.length=3) {i:Nat} {a b c:Int} (he:es[i]?=some (pr a b c)) (x:Int):yj es.flatten (i * 3+2) [V.sc (.int .u32 x)]=(es.set i (pr a b x)).flatten:=zku (by omega) h (by omega) he _
theorem zcH {es:List (List V)} (h:∀ e ∈ es,e.length=3) (i:Nat) (a b c:Int):∀ e ∈ es.set i (pr a b c),e.length=3:=by
 intro e he
 rcases List.mem_or_eq_of_mem_set he with h' | h'
 ·exact h e h'
 ·rw [h']; rfl
theorem zoc (L:Nat) (k:Int→Option β):xk β L 5 5 k=k 10:=by kernel_rfl
theorem znM (L:Nat) (k:Int→Option β):yd β L 5 5 k=k 10:=by kernel_rfl
theorem zoH (L:Nat) (hL:100≤L) (i:Nat) (hi:i < 64) (p:Int) (hp:0≤p) (hp2:p < 200) (k:List (List V)→Int→Option β):ya β L (pn 64) (2 * (i:Int)) p 5 5 k=k (zhB i p) 0:=by
 have hf:(pn 64).flatten.length=64 * 3:=by rw [zdG (z6 64),zL]
 have hg:=zdZ hi
 have e1:(pn 64).flatten[i * 3+1]?=some (.sc (.int .i64 1)):=by rw [zhS (by omega) (z6 64) (by omega) hg]; rfl
 have look:∀ (κ:Int→Bool→Option β),zk β L (pn 64) (2 * (i:Int)) κ=κ (i:Int) true:=by
  intro κ
  simp only [zk,zY,zap,zL]
  refine (zjR L (2 * (i:Int)) (by omega) _ _ L 0 (by omega) (by omega) (by omega)).trans ?_
  rw [if_pos (by omega),show (2 * (i:Int)+1) / 2=(i:Int) by omega]
  simp [xD]
 simp only [ya,zb4,zb9,zl9 L hL,look,zn4,zoc,zL,Bool.not_true,zdT,Nat.zero_add,Int.toNat_natCast]
 have e99:IntKind.wrap .i64 ((100:Int) - 1)=99:=rfl
 rw [yy (by omega),yy (by omega),xq (by omega),xM e1,e99]
 simp only [zob _ (z6 64) hg]
 have hg2:((pn 64).set i (pr (2 * (i:Int)) 100 0))[i]?=some (pr (2 * (i:Int)) 100 0):=by simp [zL,hi]
 have ek:∀ (a b c:Int),zb 3 64 ((pn 64).set i (pr a b c)).flatten=(pn 64).set i (pr a b c):=by
  intro a b c
  have:=zdJ (zcH (z6 64) i a b c)
  rwa [List.length_set,zL] at this
 have el:∀ (a b c:Int),((pn 64).set i (pr a b c)).flatten.length=64 * 3:=by
  intro a b c
  rw [zdG (zcH (z6 64) i a b c),List.length_set,zL]
 simp only [zoa _ (zcH (z6 64) i _ _ _) hg2,List.set_set,ek,ziP]
 unfold zhB
 by_cases hc:p ≥ 99
 ·rw [if_pos hc,if_pos hc,xq (by omega),xq ⟨trivial,by omega⟩,xq (by omega),xq ⟨trivial,by rw [el]; omega⟩]
 ·rw [if_neg hc,if_neg hc,xq (by omega),xM e1,xq (by omega),xq ⟨trivial,by omega⟩,zbJ (by omega) (by omega)]
theorem zox (L:Nat) (hL:100≤L) (i:Nat) (hi:i < 64) (p:Int) (hp:0≤p) (hp2:p < 200) (k k2:List (List V)→Int→Option β):ze β L (pn 64) (2 * (i:Int)) p 5 5 k k2=k2 (zhB i p) 0:=by
 have hf:(pn 64).flatten.length=64 * 3:=by rw [zdG (z6 64),zL]
 have hg:=zdZ hi
 have e1:(pn 64).flatten[i * 3+1]?=some (.sc (.int .i64 1)):=by rw [zhS (by omega) (z6 64) (by omega) hg]; rfl
 simp only [ze,zbI,zc8,zkX L hL,Bool.not_true,zdT]
 rw [yy (by omega),yy (by omega)]
 refine (zlL L (2 * (i:Int)) p 5 5 (by omega) _ L 0 (by omega) (by omega) (by omega)).trans ?_
 rw [if_pos (by omega),show (2 * (i:Int)+1) / 2=(i:Int) by omega]
 simp only [zae,zb9,zL,Nat.zero_add,Int.toNat_natCast]
 have e99:IntKind.wrap .i64 ((100:Int) - 1)=99:=rfl
 rw [xq (by simp [zi]),zcR,if_neg (by omega),zaw hg,xM (kd:=.i64) (n:=2 * (i:Int)) rfl,zi0,if_pos rfl,xq (by omega),xM e1,xq (by omega),xM e1,e99,xq (by omega),xq ⟨trivial,by omega⟩]
 simp only [zob _ (z6 64) hg]
 have hx:(p ≥ 99→IntKind.wrap .i64 (1+zhR p 99)=100)∧(¬ p ≥ 99→IntKind.wrap .i64 (1+zhR p 99)=1+p):=by
  unfold zhR
  refine ⟨fun h=>?_,fun h=>?_⟩
  ·by_cases h2:(99:Int) < p
   ·rw [if_pos h2]; rfl
   ·rw [if_neg h2,show p=99 by omega]; rfl
  ·rw [if_neg (by omega),zbJ (by omega) (by omega)]
 have hg2:∀ x,((pn 64).set i (pr (2 * (i:Int)) x 0))[i]?=some (pr (2 * (i:Int)) x 0):=by intro x; simp [zL,hi]
 have ek:∀ (a b c:Int),zb 3 64 ((pn 64).set i (pr a b c)).flatten=(pn 64).set i (pr a b c):=by
  intro a b c
  have:=zdJ (zcH (z6 64) i a b c)
  rwa [List.length_set,zL] at this
 have el:∀ (a b c:Int),((pn 64).set i (pr a b c)).flatten.length=64 * 3:=by
  intro a b c
  rw [zdG (zcH (z6 64) i a b c),List.length_set,zL]
 have eg:∀ x,((pn 64).set i (pr (2 * (i:Int)) x 0)).flatten[i * 3+1]?=some (.sc (.int .i64 x)):=by
  intro x
  rw [zhS (by omega) (zcH (z6 64) i _ _ _) (by omega) (hg2 x)]; rfl
 unfold zhB
 rw [xq (by omega),xM (eg _),zcR]
 by_cases hc:p ≥ 99
 ·rw [hx.1 hc,if_pos rfl,if_pos hc,znM,xq (by omega),xq ⟨trivial,by rw [el]; omega⟩]
  simp only [zoa _ (zcH (z6 64) i _ _ _) (hg2 100),List.set_set]
  rw [xq (by omega),ek]
 ·rw [hx.2 hc,if_neg (by omega),if_neg hc,xq (by omega),ek]
theorem zoB (L:Nat) (hL:100≤L) (q:Int) (hq:0≤q) (h:q % 2=1∨128≤q) (p:Int) (hp:0≤p) (k:List (List V)→Int→Option β):ya β L (pn 64) q p 5 5 k=k [] 380:=by
 have look:∃ v,∀ (κ:Int→Bool→Option β),zk β L (pn 64) q κ=κ v false:=by
  by_cases hc:q≤126
  ·refine ⟨(q+1) / 2,fun κ=>?_⟩
   simp only [zk,zY,zap,zL]
   refine (zjR L q hq (fun p4 p5=>xD L p4 p5 κ) (fun p0=>xO L p0 κ) L 0 (by omega) (by omega) (by omega)).trans ?_
   rw [if_pos hc]
   simp only [xD]
   rw [beq_eq_false_iff_ne.2 (by omega)]
  ·refine ⟨(((pn 64).length:Nat):Int),fun κ=>?_⟩
   simp only [zk,zY,zap,zL]
   refine (zjR L q hq (fun p4 p5=>xD L p4 p5 κ) (fun p0=>xO L p0 κ) L 0 (by omega) (by omega) (by omega)).trans ?_
   rw [if_neg hc]
   simp only [xO,zL]
 obtain ⟨v,e⟩:=look
 simp only [ya,zb4,zb9,zl9 L hL,Bool.not_true,zdT]
 rw [yy (by omega),yy (by omega)]
 simp only [e,Bool.not_false,zhM,zL]
 rw [zal (by omega)]
theorem zoz (L:Nat) (hL:100≤L) (q:Int) (hq:0≤q) (h:q % 2=1∨128≤q) (p:Int) (hp:0≤p) (k k2:List (List V)→Int→Option β):ze β L (pn 64) q p 5 5 k k2=k [] 380:=by
 simp only [ze,zbI,zc8,zkX L hL,Bool.not_true,zdT]
 rw [yy (by omega),yy (by omega)]
 refine (zlL L q p 5 5 hq _ L 0 (by omega) (by omega) (by omega)).trans ?_
 simp only [zae,zb9,zL,Nat.zero_add]
 rw [xq (by simp [zi])]
 by_cases hc:q≤126
 ·obtain ⟨j,hj,e⟩:∃ j:Nat,j < 64∧(q+1) / 2=(j:Int):=⟨((q+1) / 2).toNat,by omega,by omega⟩
  rw [if_pos hc,e,zcR,if_neg (by omega),zaw (zdZ hj),xM (kd:=.i64) (n:=2 * (j:Int)) rfl,zi0,if_neg (by omega),zal (by omega)]
 ·rw [if_neg hc,zcR,if_pos (by rfl),zal (by omega)]
theorem zha (a0 a1:Int) (wf0:(Lit.int .i64 a0).wf=true) (wf1:(Lit.int .i64 a1).wf=true):∃ L,∀ k:Bool→Option Bool,xA Bool L a0 a1 k=k true:=by
 refine ⟨1000,fun k=>?_⟩
 obtain ⟨L,hL,fs⟩:∃ L:Nat,L=1000∧∀ k:Bool→Option Bool,zf Bool L k=k true:=⟨1000,rfl,fun k=>zoJ k⟩
 rw [← hL]
 obtain ⟨q,q1,q2,qq⟩:=zmg L a0 130 (by omega) (by omega)
 obtain ⟨p,p1,p2,qp⟩:=zmg L a1 200 (by omega) (by omega)
 simp only [xA,zat,zbt,fs,Bool.not_true,zdT]
 refine (build L a0 a1 _ L 0 (by omega) (by omega)).trans ?_
 simp only [z1,qq,qp,zb9]
 by_cases h:q % 2=1∨128≤q
 ·simp only [zoB L (by omega) q q1 h p p1,zoz L (by omega) q q1 h p p1]
  rw [zcR,if_pos rfl,zjx L (by omega) [] (by simp) (by simp),zhM]
  have e:Int.tmod q 2=q % 2:=Int.tmod_eq_emod_of_nonneg q1
  rw [e,zcR]
  by_cases h1:q % 2=1
  ·rw [if_pos h1]; rfl
  ·rw [if_neg h1,decide_eq_true (show q ≥ 128 by omega)]; rfl
 ·obtain ⟨i,hi,rfl⟩:∃ i:Nat,i < 64∧q=2 * (i:Int):=⟨(q / 2).toNat,by omega,by omega⟩
  simp only [zoH L (by omega) i hi p p1 p2,zox L (by omega) i hi p p1 p2]
  rw [zcR,if_pos rfl,zjx L (by omega) _ (by rw [zm7]; omega) (zmb i p),zhM]
  have e:Int.tmod (2 * (i:Int)) 2=0:=by rw [Int.tmod_eq_emod_of_nonneg (by omega)]; omega
  rw [e,zcR,if_neg (by omega),decide_eq_false (show ¬ 2 * (i:Int) ≥ 128 by omega)]; rfl
end
end Go.Proofs.Ytmfiekdpifgimaa
