/- Part 8 of the proof of JournalAppends: an abstract machine over plain values, its soundness, and the functions of the program on plain values. -/
import Derived.Test.YteopmmegeagklaaDoorRows
import Derived.Test.YteopmmegeagklaaDoorMJournalAppends7
namespace Go.Proofs.YteopmmegeagklaaDoor
section
set_option maxRecDepth 100000
set_option linter.unusedVariables false
set_option linter.unusedSimpArgs false
def gk_sha_initial:List V:=[.sc (.int .u32 1779033703),.sc (.int .u32 3144134277),.sc (.int .u32 1013904242),.sc (.int .u32 2773480762),.sc (.int .u32 1359893119),.sc (.int .u32 2600822924),.sc (.int .u32 528734635),.sc (.int .u32 1541459225)]
def gk_sha_k:List V:=[.sc (.int .u32 1116352408),.sc (.int .u32 1899447441),.sc (.int .u32 3049323471),.sc (.int .u32 3921009573),.sc (.int .u32 961987163),.sc (.int .u32 1508970993),.sc (.int .u32 2453635748),.sc (.int .u32 2870763221),.sc (.int .u32 3624381080),.sc (.int .u32 310598401),.sc (.int .u32 607225278),.sc (.int .u32 1426881987),.sc (.int .u32 1925078388),.sc (.int .u32 2162078206),.sc (.int .u32 2614888103),.sc (.int .u32 3248222580),.sc (.int .u32 3835390401),.sc (.int .u32 4022224774),.sc (.int .u32 264347078),.sc (.int .u32 604807628),.sc (.int .u32 770255983),.sc (.int .u32 1249150122),.sc (.int .u32 1555081692),.sc (.int .u32 1996064986),.sc (.int .u32 2554220882),.sc (.int .u32 2821834349),.sc (.int .u32 2952996808),.sc (.int .u32 3210313671),.sc (.int .u32 3336571891),.sc (.int .u32 3584528711),.sc (.int .u32 113926993),.sc (.int .u32 338241895),.sc (.int .u32 666307205),.sc (.int .u32 773529912),.sc (.int .u32 1294757372),.sc (.int .u32 1396182291),.sc (.int .u32 1695183700),.sc (.int .u32 1986661051),.sc (.int .u32 2177026350),.sc (.int .u32 2456956037),.sc (.int .u32 2730485921),.sc (.int .u32 2820302411),.sc (.int .u32 3259730800),.sc (.int .u32 3345764771),.sc (.int .u32 3516065817),.sc (.int .u32 3600352804),.sc (.int .u32 4094571909),.sc (.int .u32 275423344),.sc (.int .u32 430227734),.sc (.int .u32 506948616),.sc (.int .u32 659060556),.sc (.int .u32 883997877),.sc (.int .u32 958139571),.sc (.int .u32 1322822218),.sc (.int .u32 1537002063),.sc (.int .u32 1747873779),.sc (.int .u32 1955562222),.sc (.int .u32 2024104815),.sc (.int .u32 2227730452),.sc (.int .u32 2361852424),.sc (.int .u32 2428436474),.sc (.int .u32 2756734187),.sc (.int .u32 3204031479),.sc (.int .u32 3329325298)]
def zgP:CF:=⟨27,[.tmp 2],
 (.seq (.reg [oo 1 (.box true (tq 0)),
   oo 2 (.move (.const (.sc (.bool false))) false)])
 (.seq (.reg [oo 3 (.fieldAddr 0 (tq 1)),
   oo 4 (.load false 1 (tq 3) false),
   oo 5 (.bin .geq (tq 4) (.const (.sc (.int .i64 1)))),
   oo 6 (.move (tq 5) false),
   ⟨(some 7),false,(some (6,true)),.fieldAddr 0 (tq 1)⟩,
   ⟨(some 8),false,(some (6,true)),.load false 1 (tq 7) false⟩,
   ⟨(some 9),false,(some (6,true)),.bin .leq (tq 8) (.const (.sc (.int .i64 5)))⟩,
   oo 10 (.pick (tq 6) (tq 9) (.const (.sc (.bool false)))),
   oo 11 (.move (tq 10) false),
   ⟨(some 12),false,(some (11,true)),.fieldAddr 1 (tq 1)⟩,
   ⟨(some 13),false,(some (11,true)),.load false 1 (tq 12) false⟩,
   ⟨(some 14),false,(some (11,true)),.bin .geq (tq 13) (.const (.sc (.int .i64 0)))⟩,
   oo 15 (.pick (tq 11) (tq 14) (.const (.sc (.bool false)))),
   oo 16 (.move (tq 15) false),
   ⟨(some 17),false,(some (16,true)),.fieldAddr 1 (tq 1)⟩,
   ⟨(some 18),false,(some (16,true)),.load false 1 (tq 17) false⟩,
   ⟨(some 19),false,(some (16,true)),.bin .leq (tq 18) (.const (.sc (.int .i64 16777216)))⟩,
   oo 20 (.pick (tq 16) (tq 19) (.const (.sc (.bool false)))),
   oo 21 (.move (tq 20) false),
   ⟨(some 22),false,(some (21,true)),.fieldAddr 2 (tq 1)⟩,
   ⟨(some 23),false,(some (21,true)),.load false 1 (tq 22) false⟩,
   ⟨(some 24),false,(some (21,true)),.lenS (tq 23)⟩,
   ⟨(some 25),false,(some (21,true)),.bin .leq (tq 24) (.const (.sc (.int .i64 4096)))⟩,
   oo 26 (.pick (tq 21) (tq 25) (.const (.sc (.bool false)))),
   oo 2 (.move (tq 26) false)])
 .ret))⟩
def zmS:Hint:=⟨[(0,0)],[],[none],[],[],false,false⟩
def zkd:Nat→Sh:=yU [(4,(.int .i64)),(8,(.int .i64)),(13,(.int .i64)),(18,(.int .i64)),(23,(.sl 1))]
def zkk (L:Nat):CBC:=noC
def zlt {β:Type} (L:Nat) (p0:List V) (k_fin:Bool→Option β):Option β :=
 cI .i64 p0 0 fun v0 =>
 ifb (decide (v0 ≥ (1:Int))) (
 cI .i64 p0 0 fun v1 =>
 ifb (decide (v1≤(5:Int))) (
 cI .i64 p0 1 fun v2 =>
 ifb (decide (v2 ≥ (0:Int))) (
 cI .i64 p0 1 fun v3 =>
 ifb (decide (v3≤(16777216:Int))) (
 cLd 1 p0 2 fun v4 =>
 k_fin (decide (((List.length v4:Nat):Int)≤(4096:Int)))) (
 k_fin false)) (
 k_fin false)) (
 k_fin false)) (
 k_fin false)
theorem ztb {β:Type} (L:Nat) (p0:List V) (k:KK β):yt zkd (zkk L) L zgP [(V.agg p0)] [] k=zlt L p0 (fun p0=>k (V.sc (.bool p0)) []):=by kernel_rfl
abbrev zcT:=∀ (β:Type),Nat→List V→(Bool→Option β)→Option β
def yz (β:Type) (L:Nat) (p0:List V) (k_fin:Bool→Option β):Option β:=zlt L p0 k_fin
def zfE (yz:zcT) (L:Nat) (β:Type) (args:List V) (bor:Bor) (k:KK β):Option β:=match args,bor with
 | [a0],[]=>aG a0 fun p0=>yz β L p0 (fun p0=>k (V.sc (.bool p0)) [])
 | _,_=>none
theorem zs9 (L:Nat) (β:Type) (args:List V) (bor:Bor) (k:KK β) (r:β) (h:zfE yz L β args bor k=some r):yt zkd (zkk L) L zgP args bor k=some r:=by
 unfold zfE at h
 split at h
 ·have q:=zgy h; clear h; obtain ⟨p0,rfl,h⟩:=q
  exact (ztb L p0 k).trans h
 ·cases h
def zj4:CF:=⟨21,[.tmp 6],
 (.seq (.reg [oo 6 (.move (.const (.sc (.int .i64 0))) false)])
 (.seq (.seq (.reg [oo 7 (.move (tq 1) false),
   oo 8 (.bin .lss (tq 7) (.const (.sc (.int .i64 0)))),
   oo 9 (.move (tq 8) false),
   ⟨(some 10),false,(some (9,false)),.move (tq 1) false⟩,
   ⟨(some 11),false,(some (9,false)),.move (tq 0) false⟩,
   ⟨(some 12),false,(some (9,false)),.lenS (tq 11)⟩,
   ⟨(some 13),false,(some (9,false)),.bin .gtr (tq 10) (tq 12)⟩,
   oo 14 (.pick (tq 9) (.const (.sc (.bool true))) (tq 13))])
 (.cond (tq 14)
 (.seq (.reg [oo 6 (.move (.const (.sc (.int .i64 5))) false)])
 .ret)
 .skip))
 (.seq (.seq (.reg [oo 15 (.move (tq 0) false),
   oo 16 (.lenS (tq 15)),
   oo 17 (.move (tq 1) false),
   oo 18 (.bin .sub (tq 16) (tq 17)),
   oo 19 (.move (tq 2) false),
   oo 20 (.bin .lss (tq 18) (tq 19))])
 (.cond (tq 20)
 (.seq (.reg [oo 6 (.move (.const (.sc (.int .i64 1))) false)])
 .ret)
 .skip))
 (.seq (.reg [oo 6 (.move (.const (.sc (.int .i64 0))) false)])
 .ret))))⟩
def zpz:Hint:=⟨[],[],[none,none,none,none,none],[],[],false,false⟩
def zni:Nat→Sh:=yU []
def znu (L:Nat):CBC:=noC
def zo5 {β:Type} (L:Nat) (p0:List (List V)) (p1 p2:Int) (k_fin:Int→Option β):Option β :=
 ifb (decide (p1 < (0:Int))) (
 k_fin (5:Int)) (
 ifb (decide (p1 > ((List.length p0:Nat):Int))) (
 k_fin (5:Int)) (
 lt (IntKind.wrap .i64 ((((List.length p0:Nat):Int):Int) - p1)) fun x0 =>
 ifb (decide (x0 < p2)) (
 k_fin (1:Int)) (
 k_fin (0:Int))))
theorem zvH {β:Type} (L:Nat) (p0:List (List V)) (p1 p2:Int) (k:KK β):yt zni (znu L) L zj4 [(V.sl 1 p0),(V.sc (.int .i64 p1)),(V.sc (.int .i64 p2))] [] k=zo5 L p0 p1 p2 (fun p0=>k (V.sc (.int .i64 p0)) []):=by kernel_rfl
abbrev yL:=∀ (β:Type),Nat→List (List V)→Int→Int→(Int→Option β)→Option β
def zg (β:Type) (L:Nat) (p0:List (List V)) (p1 p2:Int) (k_fin:Int→Option β):Option β:=zo5 L p0 p1 p2 k_fin
def ziu (zg:yL) (L:Nat) (β:Type) (args:List V) (bor:Bor) (k:KK β):Option β:=match args,bor with
 | [a0,a1,a2],[]=>aL 1 a0 fun p0=>aI .i64 a1 fun p1=>aI .i64 a2 fun p2=>zg β L p0 p1 p2 (fun p0=>k (V.sc (.int .i64 p0)) [])
 | _,_=>none
theorem zvF (L:Nat) (β:Type) (args:List V) (bor:Bor) (k:KK β) (r:β) (h:ziu zg L β args bor k=some r):yt zni (znu L) L zj4 args bor k=some r:=by
 unfold ziu at h
 split at h
 ·have q:=yP h; clear h; obtain ⟨p0,rfl,h⟩:=q
  have q:=xP h; clear h; obtain ⟨p1,rfl,h⟩:=q
  have q:=xP h; clear h; obtain ⟨p2,rfl,h⟩:=q
  exact (zvH L p0 p1 p2 k).trans h
 ·cases h
def zbd:CC:=(.seq (.reg [oo 21 (.bin .lss (tq 20) (tq 19))])
 (.seq (.cond (tq 21)
 .skip
 (.seq (.mask (bl 1030 40) (bl 1099511625727 40))
 (.exit 0)))
 (.seq (.block 1 (.seq (.reg [oo 22 (.move (tq 20) false),
   oo 11 (.move (tq 22) false)])
 (.reg [oo 23 (.move (tq 10) false),
   oo 24 (.move (tq 0) false),
   oo 25 (.move (tq 1) false),
   oo 26 (.move (tq 11) false),
   oo 27 (.bin .add (tq 25) (tq 26)),
   oo 28 (.indexAddrS 1 (tq 24) (tq 27)),
   oo 29 (.load false 1 (tq 28) false),
   oo 30 (.conv .u32 (tq 29)),
   oo 31 (.move (tq 11) false),
   oo 32 (.bin .mul (.const (.sc (.int .i64 8))) (tq 31)),
   oo 33 (.bin .shl (tq 30) (tq 32)),
   oo 34 (.bin .or (tq 23) (tq 33)),
   oo 10 (.move (tq 34) false)])))
 (.reg [oo 35 (.bin .add (tq 20) (.const (.sc (.int .i64 1)))),
   oo 20 (.move (tq 35) false)]))))
def zfi:CC:=(.seq (.reg [oo 36 (.move (tq 10) false),
   oo 37 (.move (tq 1) false),
   oo 38 (.move (tq 2) false),
   oo 39 (.bin .add (tq 37) (tq 38)),
   oo 6 (.move (tq 36) false),
   oo 7 (.move (tq 39) false),
   oo 8 (.move (.const (.sc (.int .i64 0))) false)])
 .ret)
def zba:CF:=⟨40,[.tmp 6,.tmp 7,.tmp 8],
 (.seq (.reg [oo 6 (.move (.const (.sc (.int .u32 0))) false),
   oo 7 (.move (.const (.sc (.int .i64 0))) false),
   oo 8 (.move (.const (.sc (.int .i64 0))) false)])
 (.seq (.seq (.reg [oo 12 (.move (tq 0) false),
   oo 13 (.move (tq 1) false),
   oo 14 (.move (tq 2) false),
   oo 15 (.call 198 [((tq 12),0),((tq 13),0),((tq 14),0)] []),
   oo 9 (.move (tq 15) false)])
 (.seq (.reg [oo 16 (.move (tq 9) false),
   oo 17 (.bin .neq (tq 16) (.const (.sc (.int .i64 0))))])
 (.cond (tq 17)
 (.seq (.reg [oo 18 (.move (tq 9) false),
   oo 6 (.move (.const (.sc (.int .u32 0))) false),
   oo 7 (.move (.const (.sc (.int .i64 0))) false),
   oo 8 (.move (tq 18) false)])
 .ret)
 .skip)))
 (.seq (.reg [oo 10 (.move (.const (.sc (.int .u32 0))) false)])
 (.seq (.seq (.reg [oo 19 (.move (tq 2) false),
   oo 20 (.move (.const (.sc (.int .i64 0))) false)])
 (.block 0 (.loop (bl 1573895 40) (bl 1099511625727 40)
 zbd)))
 zfi))))⟩
def zjR:Hint:=⟨[],[],[none,none,none,some ((bl 1573895 40),(bl 1099511625727 40)),none,some ((bl 1030 40),(bl 1099511625727 40)),none,none],[],[],false,false⟩
def yW:Nat→Sh:=yU [(29,(.int .u8))]
def xW (zg:yL) (L:Nat):CBC:=(yE 198 (ziu zg L) noC)
def zcB:St→St:=y4 0 (bl 1573895 40) (bl 1099511625727 40)
def zbS (p0:List (List V)) (p1 p2 p10 p19 p20:Int):St:=⟨((V.sl 1 p0)::((V.sc (.int .i64 p1))::((V.sc (.int .i64 p2))::(jn 7 ((V.sc (.int .u32 p10))::(jn 8 ((V.sc (.int .i64 p19))::((V.sc (.int .i64 p20))::(jn 19 []))))))))),(gn 40 [])⟩
def zfk (p1 p2 p10:Int):St:=⟨(jn 1 ((V.sc (.int .i64 p1))::((V.sc (.int .i64 p2))::(jn 7 ((V.sc (.int .u32 p10))::(jn 29 [])))))),(gn 40 [])⟩
def zhv {β:Type} (zg:yL) (L:Nat) (p0:List (List V)) (p1 p2:Int) (k_fin:Int→Int→Int→Option β) (k_hbbbaba:List (List V)→Int→Int→Int→Int→Int→Option β):Option β :=
 zg β L p0 p1 p2 (fun v0 =>
 ifb ((v0:Int) != (0:Int)) (
 k_fin (0:Int) (0:Int) v0) (
 k_hbbbaba p0 p1 p2 (0:Int) p2 (0:Int)))
theorem zql {β:Type} (zg:yL) (L:Nat) (p0:List (List V)) (p1 p2:Int) (k:KK β):yt yW (xW zg L) L zba [(V.sl 1 p0),(V.sc (.int .i64 p1)),(V.sc (.int .i64 p2))] [] k=zhv zg L p0 p1 p2 (fun zGg zGh zGm=>k (V.tup [(V.sc (.int .u32 zGg)),(V.sc (.int .i64 zGh)),(V.sc (.int .i64 zGm))]) []) (fun p0 p1 p2 p10 p19 p20=>yx (xj yW (xW zg L) 0 L zbd) zcB L (zbS p0 p1 p2 p10 p19 p20) (zz 0 (zN (xj yW (xW zg L) 0 L zfi) (yO 0 (CF.res zba) k)))):=by kernel_rfl
def zbu {β:Type} (zg:yL) (L:Nat) (p0:List (List V)) (p1 p2 p10 p19 p20:Int) (k_hbbbaba:List (List V)→Int→Int→Int→Int→Int→Option β) (k_x0:Int→Int→Int→Option β):Option β :=
 ifb (decide (p20 < p19)) (
 lt (IntKind.wrap .i64 ((p1:Int)+p20)) fun x1 =>
 idx p0 x1 fun c2 =>
 cI .u8 c2 0 fun v3 =>
 lt (IntKind.wrap .u32 v3) fun x4 =>
 lt (IntKind.wrap .i64 (((8:Int):Int) * p20)) fun x5 =>
 chk (0≤x5) (
 lt (zbO .u32 x4 x5) fun x6 =>
 lt (ior .u32 p10 x6) fun x7 =>
 lt (IntKind.wrap .i64 ((p20:Int)+(1:Int))) fun x8 =>
 k_hbbbaba p0 p1 p2 x7 p19 x8)) (
 k_x0 p1 p2 p10)
theorem zl7 {β:Type} (zg:yL) (L:Nat) (p0:List (List V)) (p1 p2 p10 p19 p20:Int) (X:St→Option β) (K:KT β):xj yW (xW zg L) 0 L zbd (zbS p0 p1 p2 p10 p19 p20) (zan zcB X K)=zbu zg L p0 p1 p2 p10 p19 p20 (fun p0 p1 p2 p10 p19 p20=>X (zbS p0 p1 p2 p10 p19 p20)) (fun p1 p2 p10=>K (.exit 0) (zfk p1 p2 p10)):=by kernel_rfl
def zdL {β:Type} (zg:yL) (L:Nat) (p1 p2 p10:Int) (k_fin:Int→Int→Int→Option β):Option β :=
 lt (IntKind.wrap .i64 ((p1:Int)+p2)) fun x9 =>
 k_fin p10 x9 (0:Int)
theorem zkE {β:Type} (zg:yL) (L:Nat) (p1 p2 p10:Int) (k:KK β):(zz 0 (zN (xj yW (xW zg L) 0 L zfi) (yO 0 (CF.res zba) k))) (.exit 0) (zfk p1 p2 p10)=zdL zg L p1 p2 p10 (fun zGg zGh zGm=>k (V.tup [(V.sc (.int .u32 zGg)),(V.sc (.int .i64 zGh)),(V.sc (.int .i64 zGm))]) []):=by kernel_rfl
def zU {β:Type} (zg:yL) (L:Nat) (k_x0:Int→Int→Int→Option β):Nat→List (List V)→Int→Int→Int→Int→Int→Option β
 | 0,_,_,_,_,_,_=>none
 | n+1,p0,p1,p2,p10,p19,p20=>zbu zg L p0 p1 p2 p10 p19 p20 (fun p0 p1 p2 p10 p19 p20=>zU zg L k_x0 n p0 p1 p2 p10 p19 p20) k_x0
theorem zgi {β:Type} (zg:yL) (L:Nat) (K:KT β):∀ (n:Nat) (p0:List (List V)) (p1 p2 p10 p19 p20:Int),yx (xj yW (xW zg L) 0 L zbd) zcB n (zbS p0 p1 p2 p10 p19 p20) K=zU zg L (fun p1 p2 p10=>K (.exit 0) (zfk p1 p2 p10)) n p0 p1 p2 p10 p19 p20:=by
 intro n
 induction n with
 | zero=>intros; rfl
 | succ n ih =>
  intro p0 p1 p2 p10 p19 p20
  refine (zl7 zg L p0 p1 p2 p10 p19 p20 (fun σ=>yx (xj yW (xW zg L) 0 L zbd) zcB n σ K) K).trans ?_
  simp only [ih]
  rfl
def zfc {β:Type} (zg:yL) (L:Nat) (p0:List (List V)) (p1 p2:Int) (k_fin:Int→Int→Int→Option β):Option β :=
 zhv zg L p0 p1 p2 k_fin (fun p0 p1 p2 p10 p19 p20=>zU zg L (fun p1 p2 p10=>zdL zg L p1 p2 p10 k_fin) L p0 p1 p2 p10 p19 p20)
theorem zpP {β:Type} (zg:yL) (L:Nat) (p0:List (List V)) (p1 p2:Int) (k:KK β):yt yW (xW zg L) L zba [(V.sl 1 p0),(V.sc (.int .i64 p1)),(V.sc (.int .i64 p2))] [] k=zfc zg L p0 p1 p2 (fun zGg zGh zGm=>k (V.tup [(V.sc (.int .u32 zGg)),(V.sc (.int .i64 zGh)),(V.sc (.int .i64 zGm))]) []):=by
 refine (zql zg L p0 p1 p2 k).trans ?_
 unfold zfc
 first
  | (simp only [zgi,zkE]; done)
  | (simp only [zgi]; rfl)
abbrev ze6:=∀ (β:Type),Nat→List (List V)→Int→Int→(Int→Int→Int→Option β)→Option β
def yG (β:Type) (L:Nat) (p0:List (List V)) (p1 p2:Int) (k_fin:Int→Int→Int→Option β):Option β:=zfc zg L p0 p1 p2 k_fin
def ze5 (yG:ze6) (L:Nat) (β:Type) (args:List V) (bor:Bor) (k:KK β):Option β:=match args,bor with
 | [a0,a1,a2],[]=>aL 1 a0 fun p0=>aI .i64 a1 fun p1=>aI .i64 a2 fun p2=>yG β L p0 p1 p2 (fun zGg zGh zGm=>k (V.tup [(V.sc (.int .u32 zGg)),(V.sc (.int .i64 zGh)),(V.sc (.int .i64 zGm))]) [])
 | _,_=>none
theorem zqa (L:Nat) (β:Type) (args:List V) (bor:Bor) (k:KK β) (r:β) (h:ze5 yG L β args bor k=some r):yt yW (xW zg L) L zba args bor k=some r:=by
 unfold ze5 at h
 split at h
 ·have q:=yP h; clear h; obtain ⟨p0,rfl,h⟩:=q
  have q:=xP h; clear h; obtain ⟨p1,rfl,h⟩:=q
  have q:=xP h; clear h; obtain ⟨p2,rfl,h⟩:=q
  exact (zpP zg L p0 p1 p2 k).trans h
 ·cases h
def zlz:CF:=⟨13,[.tmp 4,.tmp 5,.tmp 6],
 (.seq (.reg [oo 4 (.move (.const (.sc (.int .u32 0))) false),
   oo 5 (.move (.const (.sc (.int .i64 0))) false),
   oo 6 (.move (.const (.sc (.int .i64 0))) false)])
 (.seq (.reg [oo 7 (.move (tq 0) false),
   oo 8 (.move (tq 1) false),
   oo 9 (.call 197 [((tq 7),0),((tq 8),0),((.const (.sc (.int .i64 4))),0)] []),
   oo 10 (.pull (tq 9) 0),
   oo 11 (.pull (tq 9) 1),
   oo 12 (.pull (tq 9) 2),
   oo 4 (.move (tq 10) false),
   oo 5 (.move (tq 11) false),
   oo 6 (.move (tq 12) false)])
 .ret))⟩
def zqA:Hint:=⟨[],[],[none],[],[],false,false⟩
def zoC:Nat→Sh:=yU []
def zo1 (yG:ze6) (L:Nat):CBC:=(yE 197 (ze5 yG L) noC)
def zp8 {β:Type} (yG:ze6) (L:Nat) (p0:List (List V)) (p1:Int) (k_fin:Int→Int→Int→Option β):Option β :=
 yG β L p0 p1 (4:Int) (fun v0 v1 v2 =>
 k_fin v0 v1 v2)
theorem zxb {β:Type} (yG:ze6) (L:Nat) (p0:List (List V)) (p1:Int) (k:KK β):yt zoC (zo1 yG L) L zlz [(V.sl 1 p0),(V.sc (.int .i64 p1))] [] k=zp8 yG L p0 p1 (fun zGg zGh zGm=>k (V.tup [(V.sc (.int .u32 zGg)),(V.sc (.int .i64 zGh)),(V.sc (.int .i64 zGm))]) []):=by kernel_rfl
abbrev zmA:=∀ (β:Type),Nat→List (List V)→Int→(Int→Int→Int→Option β)→Option β
def y7 (β:Type) (L:Nat) (p0:List (List V)) (p1:Int) (k_fin:Int→Int→Int→Option β):Option β:=zp8 yG L p0 p1 k_fin
def zmK (y7:zmA) (L:Nat) (β:Type) (args:List V) (bor:Bor) (k:KK β):Option β:=match args,bor with
 | [a0,a1],[]=>aL 1 a0 fun p0=>aI .i64 a1 fun p1=>y7 β L p0 p1 (fun zGg zGh zGm=>k (V.tup [(V.sc (.int .u32 zGg)),(V.sc (.int .i64 zGh)),(V.sc (.int .i64 zGm))]) [])
 | _,_=>none
theorem zxd (L:Nat) (β:Type) (args:List V) (bor:Bor) (k:KK β) (r:β) (h:zmK y7 L β args bor k=some r):yt zoC (zo1 yG L) L zlz args bor k=some r:=by
 unfold zmK at h
 split at h
 ·have q:=yP h; clear h; obtain ⟨p0,rfl,h⟩:=q
  have q:=xP h; clear h; obtain ⟨p1,rfl,h⟩:=q
  exact (zxb yG L p0 p1 k).trans h
 ·cases h
def zby:CC:=(.seq (.reg [oo 21 (.bin .lss (tq 20) (tq 19))])
 (.seq (.cond (tq 21)
 .skip
 (.seq (.mask (bl 1030 39) (bl 549755811839 39))
 (.exit 0)))
 (.seq (.block 1 (.seq (.reg [oo 22 (.move (tq 20) false),
   oo 11 (.move (tq 22) false)])
 (.reg [oo 23 (.move (tq 10) false),
   oo 24 (.move (tq 0) false),
   oo 25 (.move (tq 1) false),
   oo 26 (.move (tq 11) false),
   oo 27 (.bin .add (tq 25) (tq 26)),
   oo 28 (.indexAddrS 1 (tq 24) (tq 27)),
   oo 29 (.load false 1 (tq 28) false),
   oo 30 (.move (tq 11) false),
   oo 31 (.bin .mul (.const (.sc (.int .i64 8))) (tq 30)),
   oo 32 (.bin .shl (tq 29) (tq 31)),
   oo 33 (.bin .or (tq 23) (tq 32)),
   oo 10 (.move (tq 33) false)])))
 (.reg [oo 34 (.bin .add (tq 20) (.const (.sc (.int .i64 1)))),
   oo 20 (.move (tq 34) false)]))))
def zfU:CC:=(.seq (.reg [oo 35 (.move (tq 10) false),
   oo 36 (.move (tq 1) false),
   oo 37 (.move (tq 2) false),
   oo 38 (.bin .add (tq 36) (tq 37)),
   oo 6 (.move (tq 35) false),
   oo 7 (.move (tq 38) false),
   oo 8 (.move (.const (.sc (.int .i64 0))) false)])
 .ret)
def zbr:CF:=⟨39,[.tmp 6,.tmp 7,.tmp 8],
 (.seq (.reg [oo 6 (.move (.const (.sc (.int .u8 0))) false),
   oo 7 (.move (.const (.sc (.int .i64 0))) false),
   oo 8 (.move (.const (.sc (.int .i64 0))) false)])
 (.seq (.seq (.reg [oo 12 (.move (tq 0) false),
   oo 13 (.move (tq 1) false),
   oo 14 (.move (tq 2) false),
   oo 15 (.call 198 [((tq 12),0),((tq 13),0),((tq 14),0)] []),
   oo 9 (.move (tq 15) false)])
 (.seq (.reg [oo 16 (.move (tq 9) false),
   oo 17 (.bin .neq (tq 16) (.const (.sc (.int .i64 0))))])
 (.cond (tq 17)
 (.seq (.reg [oo 18 (.move (tq 9) false),
   oo 6 (.move (.const (.sc (.int .u8 0))) false),
   oo 7 (.move (.const (.sc (.int .i64 0))) false),
   oo 8 (.move (tq 18) false)])
 .ret)
 .skip)))
 (.seq (.reg [oo 10 (.move (.const (.sc (.int .u8 0))) false)])
 (.seq (.seq (.reg [oo 19 (.move (tq 2) false),
   oo 20 (.move (.const (.sc (.int .i64 0))) false)])
 (.block 0 (.loop (bl 1573895 39) (bl 549755811839 39)
 zby)))
 zfU))))⟩
def zkv:Hint:=⟨[],[],[none,none,none,some ((bl 1573895 39),(bl 549755811839 39)),none,some ((bl 1030 39),(bl 549755811839 39)),none,none],[],[],false,false⟩
def y6:Nat→Sh:=yU [(29,(.int .u8))]
def y8 (zg:yL) (L:Nat):CBC:=(yE 198 (ziu zg L) noC)
def zcZ:St→St:=y4 0 (bl 1573895 39) (bl 549755811839 39)
def zb4 (p0:List (List V)) (p1 p2 p10 p19 p20:Int):St:=⟨((V.sl 1 p0)::((V.sc (.int .i64 p1))::((V.sc (.int .i64 p2))::(jn 7 ((V.sc (.int .u8 p10))::(jn 8 ((V.sc (.int .i64 p19))::((V.sc (.int .i64 p20))::(jn 18 []))))))))),(gn 39 [])⟩
def zfP (p1 p2 p10:Int):St:=⟨(jn 1 ((V.sc (.int .i64 p1))::((V.sc (.int .i64 p2))::(jn 7 ((V.sc (.int .u8 p10))::(jn 28 [])))))),(gn 39 [])⟩
def zig {β:Type} (zg:yL) (L:Nat) (p0:List (List V)) (p1 p2:Int) (k_fin:Int→Int→Int→Option β) (k_hbbbaba:List (List V)→Int→Int→Int→Int→Int→Option β):Option β :=
 zg β L p0 p1 p2 (fun v0 =>
 ifb ((v0:Int) != (0:Int)) (
 k_fin (0:Int) (0:Int) v0) (
 k_hbbbaba p0 p1 p2 (0:Int) p2 (0:Int)))
theorem zq0 {β:Type} (zg:yL) (L:Nat) (p0:List (List V)) (p1 p2:Int) (k:KK β):yt y6 (y8 zg L) L zbr [(V.sl 1 p0),(V.sc (.int .i64 p1)),(V.sc (.int .i64 p2))] [] k=zig zg L p0 p1 p2 (fun zGg zGh zGm=>k (V.tup [(V.sc (.int .u8 zGg)),(V.sc (.int .i64 zGh)),(V.sc (.int .i64 zGm))]) []) (fun p0 p1 p2 p10 p19 p20=>yx (xj y6 (y8 zg L) 0 L zby) zcZ L (zb4 p0 p1 p2 p10 p19 p20) (zz 0 (zN (xj y6 (y8 zg L) 0 L zfU) (yO 0 (CF.res zbr) k)))):=by kernel_rfl
def zbE {β:Type} (zg:yL) (L:Nat) (p0:List (List V)) (p1 p2 p10 p19 p20:Int) (k_hbbbaba:List (List V)→Int→Int→Int→Int→Int→Option β) (k_x0:Int→Int→Int→Option β):Option β :=
 ifb (decide (p20 < p19)) (
 lt (IntKind.wrap .i64 ((p1:Int)+p20)) fun x1 =>
 idx p0 x1 fun c2 =>
 cI .u8 c2 0 fun v3 =>
 lt (IntKind.wrap .i64 (((8:Int):Int) * p20)) fun x4 =>
 chk (0≤x4) (
 lt (zbO .u8 v3 x4) fun x5 =>
 lt (ior .u8 p10 x5) fun x6 =>
 lt (IntKind.wrap .i64 ((p20:Int)+(1:Int))) fun x7 =>
 k_hbbbaba p0 p1 p2 x6 p19 x7)) (
 k_x0 p1 p2 p10)
theorem zna {β:Type} (zg:yL) (L:Nat) (p0:List (List V)) (p1 p2 p10 p19 p20:Int) (X:St→Option β) (K:KT β):xj y6 (y8 zg L) 0 L zby (zb4 p0 p1 p2 p10 p19 p20) (zan zcZ X K)=zbE zg L p0 p1 p2 p10 p19 p20 (fun p0 p1 p2 p10 p19 p20=>X (zb4 p0 p1 p2 p10 p19 p20)) (fun p1 p2 p10=>K (.exit 0) (zfP p1 p2 p10)):=by kernel_rfl
def zeg {β:Type} (zg:yL) (L:Nat) (p1 p2 p10:Int) (k_fin:Int→Int→Int→Option β):Option β :=
 lt (IntKind.wrap .i64 ((p1:Int)+p2)) fun x8 =>
 k_fin p10 x8 (0:Int)
theorem zlH {β:Type} (zg:yL) (L:Nat) (p1 p2 p10:Int) (k:KK β):(zz 0 (zN (xj y6 (y8 zg L) 0 L zfU) (yO 0 (CF.res zbr) k))) (.exit 0) (zfP p1 p2 p10)=zeg zg L p1 p2 p10 (fun zGg zGh zGm=>k (V.tup [(V.sc (.int .u8 zGg)),(V.sc (.int .i64 zGh)),(V.sc (.int .i64 zGm))]) []):=by kernel_rfl
def zaU {β:Type} (zg:yL) (L:Nat) (k_x0:Int→Int→Int→Option β):Nat→List (List V)→Int→Int→Int→Int→Int→Option β
 | 0,_,_,_,_,_,_=>none
 | n+1,p0,p1,p2,p10,p19,p20=>zbE zg L p0 p1 p2 p10 p19 p20 (fun p0 p1 p2 p10 p19 p20=>zaU zg L k_x0 n p0 p1 p2 p10 p19 p20) k_x0
theorem zgB {β:Type} (zg:yL) (L:Nat) (K:KT β):∀ (n:Nat) (p0:List (List V)) (p1 p2 p10 p19 p20:Int),yx (xj y6 (y8 zg L) 0 L zby) zcZ n (zb4 p0 p1 p2 p10 p19 p20) K=zaU zg L (fun p1 p2 p10=>K (.exit 0) (zfP p1 p2 p10)) n p0 p1 p2 p10 p19 p20:=by
 intro n
 induction n with
 | zero=>intros; rfl
 | succ n ih =>
  intro p0 p1 p2 p10 p19 p20
  refine (zna zg L p0 p1 p2 p10 p19 p20 (fun σ=>yx (xj y6 (y8 zg L) 0 L zby) zcZ n σ K) K).trans ?_
  simp only [ih]
  rfl
def zfu {β:Type} (zg:yL) (L:Nat) (p0:List (List V)) (p1 p2:Int) (k_fin:Int→Int→Int→Option β):Option β :=
 zig zg L p0 p1 p2 k_fin (fun p0 p1 p2 p10 p19 p20=>zaU zg L (fun p1 p2 p10=>zeg zg L p1 p2 p10 k_fin) L p0 p1 p2 p10 p19 p20)
theorem zqB {β:Type} (zg:yL) (L:Nat) (p0:List (List V)) (p1 p2:Int) (k:KK β):yt y6 (y8 zg L) L zbr [(V.sl 1 p0),(V.sc (.int .i64 p1)),(V.sc (.int .i64 p2))] [] k=zfu zg L p0 p1 p2 (fun zGg zGh zGm=>k (V.tup [(V.sc (.int .u8 zGg)),(V.sc (.int .i64 zGh)),(V.sc (.int .i64 zGm))]) []):=by
 refine (zq0 zg L p0 p1 p2 k).trans ?_
 unfold zfu
 first
  | (simp only [zgB,zlH]; done)
  | (simp only [zgB]; rfl)
abbrev zfC:=∀ (β:Type),Nat→List (List V)→Int→Int→(Int→Int→Int→Option β)→Option β
def zJ (β:Type) (L:Nat) (p0:List (List V)) (p1 p2:Int) (k_fin:Int→Int→Int→Option β):Option β:=zfu zg L p0 p1 p2 k_fin
def zfJ (zJ:zfC) (L:Nat) (β:Type) (args:List V) (bor:Bor) (k:KK β):Option β:=match args,bor with
 | [a0,a1,a2],[]=>aL 1 a0 fun p0=>aI .i64 a1 fun p1=>aI .i64 a2 fun p2=>zJ β L p0 p1 p2 (fun zGg zGh zGm=>k (V.tup [(V.sc (.int .u8 zGg)),(V.sc (.int .i64 zGh)),(V.sc (.int .i64 zGm))]) [])
 | _,_=>none
theorem zqH (L:Nat) (β:Type) (args:List V) (bor:Bor) (k:KK β) (r:β) (h:zfJ zJ L β args bor k=some r):yt y6 (y8 zg L) L zbr args bor k=some r:=by
 unfold zfJ at h
 split at h
 ·have q:=yP h; clear h; obtain ⟨p0,rfl,h⟩:=q
  have q:=xP h; clear h; obtain ⟨p1,rfl,h⟩:=q
  have q:=xP h; clear h; obtain ⟨p2,rfl,h⟩:=q
  exact (zqB zg L p0 p1 p2 k).trans h
 ·cases h
def zmJ:CF:=⟨13,[.tmp 4,.tmp 5,.tmp 6],
 (.seq (.reg [oo 4 (.move (.const (.sc (.int .u8 0))) false),
   oo 5 (.move (.const (.sc (.int .i64 0))) false),
   oo 6 (.move (.const (.sc (.int .i64 0))) false)])
 (.seq (.reg [oo 7 (.move (tq 0) false),
   oo 8 (.move (tq 1) false),
   oo 9 (.call 207 [((tq 7),0),((tq 8),0),((.const (.sc (.int .i64 1))),0)] []),
   oo 10 (.pull (tq 9) 0),
   oo 11 (.pull (tq 9) 1),
   oo 12 (.pull (tq 9) 2),
   oo 4 (.move (tq 10) false),
   oo 5 (.move (tq 11) false),
   oo 6 (.move (tq 12) false)])
 .ret))⟩
def zrW:Hint:=⟨[],[],[none],[],[],false,false⟩
def zqk:Nat→Sh:=yU []
def zp0 (zJ:zfC) (L:Nat):CBC:=(yE 207 (zfJ zJ L) noC)
def zrf {β:Type} (zJ:zfC) (L:Nat) (p0:List (List V)) (p1:Int) (k_fin:Int→Int→Int→Option β):Option β :=
 zJ β L p0 p1 (1:Int) (fun v0 v1 v2 =>
 k_fin v0 v1 v2)
theorem zyD {β:Type} (zJ:zfC) (L:Nat) (p0:List (List V)) (p1:Int) (k:KK β):yt zqk (zp0 zJ L) L zmJ [(V.sl 1 p0),(V.sc (.int .i64 p1))] [] k=zrf zJ L p0 p1 (fun zGg zGh zGm=>k (V.tup [(V.sc (.int .u8 zGg)),(V.sc (.int .i64 zGh)),(V.sc (.int .i64 zGm))]) []):=by kernel_rfl
abbrev znV:=∀ (β:Type),Nat→List (List V)→Int→(Int→Int→Int→Option β)→Option β
def zaF (β:Type) (L:Nat) (p0:List (List V)) (p1:Int) (k_fin:Int→Int→Int→Option β):Option β:=zrf zJ L p0 p1 k_fin
def zn5 (zaF:znV) (L:Nat) (β:Type) (args:List V) (bor:Bor) (k:KK β):Option β:=match args,bor with
 | [a0,a1],[]=>aL 1 a0 fun p0=>aI .i64 a1 fun p1=>zaF β L p0 p1 (fun zGg zGh zGm=>k (V.tup [(V.sc (.int .u8 zGg)),(V.sc (.int .i64 zGh)),(V.sc (.int .i64 zGm))]) [])
 | _,_=>none
theorem zyr (L:Nat) (β:Type) (args:List V) (bor:Bor) (k:KK β) (r:β) (h:zn5 zaF L β args bor k=some r):yt zqk (zp0 zJ L) L zmJ args bor k=some r:=by
 unfold zn5 at h
 split at h
 ·have q:=yP h; clear h; obtain ⟨p0,rfl,h⟩:=q
  have q:=xP h; clear h; obtain ⟨p1,rfl,h⟩:=q
  exact (zyD zJ L p0 p1 k).trans h
 ·cases h
def zcm:CF:=⟨8,[.tmp 2],
 (.seq (.reg [oo 2 (.move (.const (.gs 1 [])) true)])
 (.fork (.reg [oo 3 (.move (tq 0) false),
   oo 4 (.nilT false (tq 3))])
 (tq 4)
 (.seq (.reg [oo 2 (.nilS 1 7)])
 (.seq (.mask (bl 4 8) (bl 128 8))
 .ret))
 (.seq (.reg [⟨(some 5),true,none,.buildSlice 1 0 [(.sc (.int .u8 0))] []⟩,
   oo 6 (.move (tq 0) false),
   ⟨(some 7),true,none,.append 1 1 (tq 5) (tq 6)⟩,
   oo 2 (.move (tq 7) true)])
 (.seq (.mask (bl 4 8) (bl 128 8))
 .ret))))⟩
def zgw:Hint:=⟨[(0,0),(2,0),(3,3)],[(3,0),(3,2)],[none,some ((bl 4 8),(bl 128 8)),some ((bl 4 8),(bl 128 8))],[],[(2,0,[7])],false,false⟩
def zej:Nat→Sh:=yU []
def zei (L:Nat):CBC:=noC
def zeD {β:Type} (L:Nat) (p0:List (List V)) (k_fin:List (List V)→Option β):Option β :=
 lc p0 (
 k_fin ([]:List (List V))) (fun h0 t0 =>
 chk ((0+List.length (h0::t0)) * 1≤xi∧0+List.length (h0::t0)≤xi) (
 chk ((List.length (h0::t0))≠0∨(List.length (List.flatten (h0::t0)))=0) (
 k_fin (yh 1 (List.length (h0::t0)) (List.flatten (h0::t0))))))
theorem zl9 {β:Type} (L:Nat) (p0:List (List V)) (k:KK β):yt zej (zei L) L zcm [(V.sl 1 p0)] [] k=zeD L p0 (fun p0=>k (V.fr 1 p0) []):=by kernel_rfl
abbrev zaK:=∀ (β:Type),Nat→List (List V)→(List (List V)→Option β)→Option β
def yq (β:Type) (L:Nat) (p0:List (List V)) (k_fin:List (List V)→Option β):Option β:=zeD L p0 k_fin
def zbt (yq:zaK) (L:Nat) (β:Type) (args:List V) (bor:Bor) (k:KK β):Option β:=match args,bor with
 | [a0],[]=>aL 1 a0 fun p0=>yq β L p0 (fun p0=>k (V.fr 1 p0) [])
 | _,_=>none
theorem zma (L:Nat) (β:Type) (args:List V) (bor:Bor) (k:KK β) (r:β) (h:zbt yq L β args bor k=some r):yt zej (zei L) L zcm args bor k=some r:=by
 unfold zbt at h
 split at h
 ·have q:=yP h; clear h; obtain ⟨p0,rfl,h⟩:=q
  exact (zl9 L p0 k).trans h
 ·cases h
abbrev xt:=∀ (β:Type),Nat→List (List V)→Int→Option β→Option β
def yc (β:Type) (L:Nat) (p0:List (List V)) (p1:Int) (k_fin:Option β):Option β:=chk (0≤p1∧p1≤1000000000) k_fin
def zc0 (yc:xt) (L:Nat) (β:Type) (args:List V) (bor:Bor) (k:KK β):Option β:=match args,bor with
 | [.fr 1 [],a1],[]=>aI .i64 a1 fun p1=>yc β L [] p1 (k (V.gs 1 ([]:List (List V))) [])
 | _,_=>none
def zac:CC:=(.seq (.reg [oo 28 (.bin .lss (tq 27) (tq 26))])
 (.seq (.cond (tq 28)
 .skip
 (.seq (.mask (bl 64 36) (bl 60129541887 36))
 (.exit 2)))
 (.seq (.block 3 (.seq (.reg [oo 29 (.indexAddrS 1 (tq 25) (tq 27)),
   oo 30 (.load false 1 (tq 29) false),
   oo 8 (.move (tq 30) false)])
 (.reg [oo 31 (.move (tq 6) true),
   oo 32 (.move (tq 8) false),
   oo 33 (.append 1 1 (tq 31) (tq 32)),
   oo 6 (.move (tq 33) true)])))
 (.reg [oo 34 (.bin .add (tq 27) (.const (.sc (.int .i64 1)))),
   oo 27 (.move (tq 34) false)]))))
def zap:CC:=(.seq (.reg [oo 12 (.bin .lss (tq 11) (tq 10))])
 (.seq (.cond (tq 12)
 .skip
 (.seq (.mask (bl 9 36) (bl 68719345631 36))
 (.exit 0)))
 (.seq (.block 1 (.seq (.reg [oo 13 (.indexAddrS 1 (tq 9) (tq 11)),
   oo 14 (.load false 1 (tq 13) false),
   oo 5 (.move (tq 14) false)])
 (.seq (.reg [oo 15 (.move (tq 3) false),
   oo 16 (.move (tq 5) false),
   oo 17 (.lenS (tq 16)),
   oo 18 (.bin .add (tq 15) (tq 17)),
   oo 3 (.move (tq 18) false)])
 (.seq (.reg [oo 19 (.move (tq 3) false),
   oo 20 (.bin .lss (tq 19) (.const (.sc (.int .i64 0))))])
 (.cond (tq 20)
 (.reg [oo 21 (.stuck),
   oz (.stuck)])
 .skip)))))
 (.reg [oo 22 (.bin .add (tq 11) (.const (.sc (.int .i64 1)))),
   oo 11 (.move (tq 22) false)]))))
def zcF:CC:=(.seq (.reg [oo 35 (.move (tq 6) true),
   oo 2 (.move (tq 35) true)])
 .ret)
def zbD:CC:=(.seq (.reg [oo 23 (.move (tq 3) false),
   oo 24 (.call 459 [((.const (.gs 1 [])),2),((tq 23),2)] []),
   oo 6 (.move (tq 24) true)])
 (.seq (.seq (.reg [oo 25 (.move (tq 0) false),
   oo 26 (.lenS (tq 25)),
   oo 27 (.move (.const (.sc (.int .i64 0))) false)])
 (.block 2 (.loop (bl 234881088 36) (bl 60129541887 36)
 zac)))
 zcF))
def xJ:CF:=⟨36,[.tmp 2],
 (.seq (.reg [oo 2 (.move (.const (.gs 1 [])) true)])
 (.seq (.reg [oo 3 (.move (.const (.sc (.int .i64 0))) false)])
 (.seq (.seq (.reg [oo 9 (.move (tq 0) false),
   oo 10 (.lenS (tq 9)),
   oo 11 (.move (.const (.sc (.int .i64 0))) false)])
 (.block 0 (.loop (bl 3593 36) (bl 68719345631 36)
 zap)))
 zbD)))⟩
def zfZ:Hint:=⟨[(0,0),(9,1),(9,2),(13,0),(13,3),(15,0),(15,1)],[],[none,some ((bl 3593 36),(bl 68719345631 36)),none,some ((bl 9 36),(bl 68719345631 36)),none,none,none,some ((bl 234881088 36),(bl 60129541887 36)),none,some ((bl 64 36),(bl 60129541887 36)),none,none],[],[],false,false⟩
def xv:Nat→Sh:=yU [(14,(.sl 1)),(30,(.sl 1))]
def zw (yc:xt) (L:Nat):CBC:=(yE 459 (zc0 yc L) noC)
def zbg:St→St:=y4 0 (bl 3593 36) (bl 68719345631 36)
def za3:St→St:=y4 0 (bl 234881088 36) (bl 60129541887 36)
def zaN (p0:List (List V)) (p3:Int) (p9:List (List V)) (p10 p11:Int):St:=⟨((V.sl 1 p0)::(jn 2 ((V.sc (.int .i64 p3))::(jn 5 ((V.sl 1 p9)::((V.sc (.int .i64 p10))::((V.sc (.int .i64 p11))::(jn 24 [])))))))),(gn 36 [])⟩
def zbx (p0:List (List V)) (p3:Int):St:=⟨((V.sl 1 p0)::(jn 2 ((V.sc (.int .i64 p3))::(jn 32 [])))),(gn 36 [])⟩
def zaI (p6 p25:List (List V)) (p26 p27:Int):St:=⟨(jn 6 ((V.gs 1 p6)::(jn 18 ((V.sl 1 p25)::((V.sc (.int .i64 p26))::((V.sc (.int .i64 p27))::(jn 8 []))))))),(gn 36 [])⟩
def zcQ (p6:List (List V)):St:=⟨(jn 6 ((V.gs 1 p6)::(jn 29 []))),(gn 36 [])⟩
def zeb {β:Type} (yc:xt) (L:Nat) (p0:List (List V)) (k_hbbaba:List (List V)→Int→List (List V)→Int→Int→Option β):Option β :=
 k_hbbaba p0 (0:Int) p0 ((List.length p0:Nat):Int) (0:Int)
theorem zlG {β:Type} (yc:xt) (L:Nat) (p0:List (List V)) (k:KK β):yt xv (zw yc L) L xJ [(V.sl 1 p0)] [] k=zeb yc L p0 (fun p0 p3 p9 p10 p11=>yx (xj xv (zw yc L) 0 L zap) zbg L (zaN p0 p3 p9 p10 p11) (zz 0 (zN (xj xv (zw yc L) 0 L zbD) (yO 0 (CF.res xJ) k)))):=by kernel_rfl
def zcG {β:Type} (yc:xt) (L:Nat) (p0:List (List V)) (p3:Int) (p9:List (List V)) (p10 p11:Int) (k_hbbaba:List (List V)→Int→List (List V)→Int→Int→Option β) (k_x0:List (List V)→Int→Option β):Option β :=
 ifb (decide (p11 < p10)) (
 idx p9 p11 fun c0 =>
 cL 1 c0 0 fun v1 =>
 lt (IntKind.wrap .i64 ((p3:Int)+((List.length v1:Nat):Int))) fun x2 =>
 ifb (decide (x2 < (0:Int))) (
 none) (
 lt (IntKind.wrap .i64 ((p11:Int)+(1:Int))) fun x3 =>
 k_hbbaba p0 x2 p9 p10 x3)) (
 k_x0 p0 p3)
theorem zjv {β:Type} (yc:xt) (L:Nat) (p0:List (List V)) (p3:Int) (p9:List (List V)) (p10 p11:Int) (X:St→Option β) (K:KT β):xj xv (zw yc L) 0 L zap (zaN p0 p3 p9 p10 p11) (zan zbg X K)=zcG yc L p0 p3 p9 p10 p11 (fun p0 p3 p9 p10 p11=>X (zaN p0 p3 p9 p10 p11)) (fun p0 p3=>K (.exit 0) (zbx p0 p3)):=by kernel_rfl
def zcc {β:Type} (yc:xt) (L:Nat) (p0:List (List V)) (p3:Int) (k_hbbbbaba:List (List V)→List (List V)→Int→Int→Option β):Option β :=
 yc β L ([]:List (List V)) p3 (
 k_hbbbbaba ([]:List (List V)) p0 ((List.length p0:Nat):Int) (0:Int))
theorem zhY {β:Type} (yc:xt) (L:Nat) (p0:List (List V)) (p3:Int) (k:KK β):(zz 0 (zN (xj xv (zw yc L) 0 L zbD) (yO 0 (CF.res xJ) k))) (.exit 0) (zbx p0 p3)=zcc yc L p0 p3 (fun p6 p25 p26 p27=>yx (xj xv (zw yc L) 0 L zac) za3 L (zaI p6 p25 p26 p27) (zz 2 (zN (xj xv (zw yc L) 0 L zcF) (yO 0 (CF.res xJ) k)))):=by kernel_rfl
def zcb {β:Type} (yc:xt) (L:Nat) (p6 p25:List (List V)) (p26 p27:Int) (k_hbbbbaba:List (List V)→List (List V)→Int→Int→Option β) (k_x2:List (List V)→Option β):Option β :=
 ifb (decide (p27 < p26)) (
 idx p25 p27 fun c4 =>
 cL 1 c4 0 fun v5 =>
 chk ((List.length p6+List.length v5) * 1≤xi∧List.length p6+List.length v5≤xi) (
 lt (p6++v5) fun l6 =>
 lt (IntKind.wrap .i64 ((p27:Int)+(1:Int))) fun x7 =>
 k_hbbbbaba l6 p25 p26 x7)) (
 k_x2 p6)
theorem ziv {β:Type} (yc:xt) (L:Nat) (p6 p25:List (List V)) (p26 p27:Int) (X:St→Option β) (K:KT β):xj xv (zw yc L) 0 L zac (zaI p6 p25 p26 p27) (zan za3 X K)=zcb yc L p6 p25 p26 p27 (fun p6 p25 p26 p27=>X (zaI p6 p25 p26 p27)) (fun p6=>K (.exit 2) (zcQ p6)):=by kernel_rfl
def zd4 {β:Type} (yc:xt) (L:Nat) (p6:List (List V)) (k_fin:List (List V)→Option β):Option β :=
 k_fin p6
theorem zhw {β:Type} (yc:xt) (L:Nat) (p6:List (List V)) (k:KK β):(zz 2 (zN (xj xv (zw yc L) 0 L zcF) (yO 0 (CF.res xJ) k))) (.exit 2) (zcQ p6)=zd4 yc L p6 (fun p0=>k (V.gs 1 p0) []):=by kernel_rfl
def zaA {β:Type} (yc:xt) (L:Nat) (k_x0:List (List V)→Int→Option β):Nat→List (List V)→Int→List (List V)→Int→Int→Option β
 | 0,_,_,_,_,_=>none
 | n+1,p0,p3,p9,p10,p11=>zcG yc L p0 p3 p9 p10 p11 (fun p0 p3 p9 p10 p11=>zaA yc L k_x0 n p0 p3 p9 p10 p11) k_x0
theorem zes {β:Type} (yc:xt) (L:Nat) (K:KT β):∀ (n:Nat) (p0:List (List V)) (p3:Int) (p9:List (List V)) (p10 p11:Int),yx (xj xv (zw yc L) 0 L zap) zbg n (zaN p0 p3 p9 p10 p11) K=zaA yc L (fun p0 p3=>K (.exit 0) (zbx p0 p3)) n p0 p3 p9 p10 p11:=by
 intro n
 induction n with
 | zero=>intros; rfl
 | succ n ih =>
  intro p0 p3 p9 p10 p11
  refine (zjv yc L p0 p3 p9 p10 p11 (fun σ=>yx (xj xv (zw yc L) 0 L zap) zbg n σ K) K).trans ?_
  simp only [ih]
  rfl
def zai {β:Type} (yc:xt) (L:Nat) (k_x2:List (List V)→Option β):Nat→List (List V)→List (List V)→Int→Int→Option β
 | 0,_,_,_,_=>none
 | n+1,p6,p25,p26,p27=>zcb yc L p6 p25 p26 p27 (fun p6 p25 p26 p27=>zai yc L k_x2 n p6 p25 p26 p27) k_x2
theorem zdQ {β:Type} (yc:xt) (L:Nat) (K:KT β):∀ (n:Nat) (p6 p25:List (List V)) (p26 p27:Int),yx (xj xv (zw yc L) 0 L zac) za3 n (zaI p6 p25 p26 p27) K=zai yc L (fun p6=>K (.exit 2) (zcQ p6)) n p6 p25 p26 p27:=by
 intro n
 induction n with
 | zero=>intros; rfl
 | succ n ih =>
  intro p6 p25 p26 p27
  refine (ziv yc L p6 p25 p26 p27 (fun σ=>yx (xj xv (zw yc L) 0 L zac) za3 n σ K) K).trans ?_
  simp only [ih]
  rfl
def zaO {β:Type} (yc:xt) (L:Nat) (p0:List (List V)) (p3:Int) (k_fin:List (List V)→Option β):Option β :=
 zcc yc L p0 p3 (fun p6 p25 p26 p27=>zai yc L (fun p6=>zd4 yc L p6 k_fin) L p6 p25 p26 p27)
theorem zhS {β:Type} (yc:xt) (L:Nat) (p0:List (List V)) (p3:Int) (k:KK β):(zz 0 (zN (xj xv (zw yc L) 0 L zbD) (yO 0 (CF.res xJ) k))) (.exit 0) (zbx p0 p3)=zaO yc L p0 p3 (fun p0=>k (V.gs 1 p0) []):=by
 refine (zhY yc L p0 p3 k).trans ?_
 unfold zaO
 first
  | (simp only [zdQ,zhw]; done)
  | (simp only [zdQ]; rfl)
def zcn {β:Type} (yc:xt) (L:Nat) (p0:List (List V)) (k_fin:List (List V)→Option β):Option β :=
 zeb yc L p0 (fun p0 p3 p9 p10 p11=>zaA yc L (fun p0 p3=>zaO yc L p0 p3 k_fin) L p0 p3 p9 p10 p11)
theorem zlJ {β:Type} (yc:xt) (L:Nat) (p0:List (List V)) (k:KK β):yt xv (zw yc L) L xJ [(V.sl 1 p0)] [] k=zcn yc L p0 (fun p0=>k (V.gs 1 p0) []):=by
 refine (zlG yc L p0 k).trans ?_
 unfold zcn
 first
  | (simp only [zes,zhS]; done)
  | (simp only [zes]; rfl)
abbrev y9:=∀ (β:Type),Nat→List (List V)→(List (List V)→Option β)→Option β
def yl (β:Type) (L:Nat) (p0:List (List V)) (k_fin:List (List V)→Option β):Option β:=zcn yc L p0 k_fin
def zbf (yl:y9) (L:Nat) (β:Type) (args:List V) (bor:Bor) (k:KK β):Option β:=match args,bor with
 | [a0],[]=>aL 1 a0 fun p0=>yl β L p0 (fun p0=>k (V.gs 1 p0) [])
 | _,_=>none
theorem zlI (L:Nat) (β:Type) (args:List V) (bor:Bor) (k:KK β) (r:β) (h:zbf yl L β args bor k=some r):yt xv (zw yc L) L xJ args bor k=some r:=by
 unfold zbf at h
 split at h
 ·have q:=yP h; clear h; obtain ⟨p0,rfl,h⟩:=q
  exact (zlJ yc L p0 k).trans h
 ·cases h
def zbp:CC:=(.seq (.reg [oo 19 (.bin .lss (tq 18) (.const (.sc (.int .i64 8))))])
 (.seq (.cond (tq 19)
 .skip
 (.seq (.mask (bl 16 33) (bl 6979321823 33))
 (.exit 0)))
 (.seq (.block 1 (.seq (.reg [oo 20 (.move (tq 18) false),
   oo 5 (.move (tq 20) false)])
 (.reg [oo 21 (.unpin (tq 4)),
   oo 22 (.move (tq 0) false),
   oo 23 (.bin .mul (.const (.sc (.int .u64 8))) (tq 22)),
   oo 24 (.move (tq 5) false),
   oo 25 (.bin .mul (.const (.sc (.int .i64 8))) (tq 24)),
   oo 26 (.bin .sub (.const (.sc (.int .i64 56))) (tq 25)),
   oo 27 (.bin .shr (tq 23) (tq 26)),
   oo 28 (.conv .u8 (tq 27)),
   oo 29 (.buildSlice 1 1 [(.sc (.int .u8 0))] [(0,1,(tq 28))]),
   oo 30 (.append 1 1 (tq 21) (tq 29)),
   oo 4 (.move (tq 30) true)])))
 (.reg [oo 31 (.bin .add (tq 18) (.const (.sc (.int .i64 1)))),
   oo 18 (.move (tq 31) false)]))))
def zi5:CC:=(.seq (.reg [oo 32 (.move (tq 4) true),
   oo 2 (.move (tq 32) true)])
 .ret)
def zfO:CF:=⟨33,[.tmp 2],
 (.seq (.reg [oo 2 (.move (.const (.gs 1 [])) true)])
 (.seq (.reg [oo 6 (.move (tq 0) false),
   oo 7 (.bin .add (tq 6) (.const (.sc (.int .u64 9)))),
   oo 8 (.bin .rem (tq 7) (.const (.sc (.int .u64 64)))),
   oo 9 (.bin .sub (.const (.sc (.int .u64 64))) (tq 8)),
   oo 10 (.bin .rem (tq 9) (.const (.sc (.int .u64 64)))),
   oo 3 (.move (tq 10) false)])
 (.seq (.reg [oo 11 (.move (tq 3) false),
   oo 12 (.bin .add (.const (.sc (.int .u64 1))) (tq 11)),
   oo 13 (.move (tq 3) false),
   oo 14 (.bin .add (.const (.sc (.int .u64 9))) (tq 13)),
   ⟨(some 15),true,none,.makeSlice 1 1 [(.sc (.int .u8 0))] (tq 12) (tq 14)⟩,
   oo 4 (.move (tq 15) true)])
 (.seq (.reg [oo 16 (.move (tq 4) false),
   oo 17 (.indexAddrS 1 (tq 16) (.const (.sc (.int .i64 0)))),
   oz (.store 1 (tq 17) (.const (.sc (.int .u8 128))))])
 (.seq (.seq (.reg [oo 18 (.move (.const (.sc (.int .i64 0))) false)])
 (.block 0 (.loop (bl 262161 33) (bl 6979321823 33)
 zbp)))
 zi5)))))⟩
def zsJ:Hint:=⟨[(0,0),(2,5),(7,10),(9,0),(9,1)],[(2,4)],[none,some ((bl 262161 33),(bl 6979321823 33)),none,some ((bl 16 33),(bl 6979321823 33)),none,none],[],[(7,0,[0])],false,false⟩
def zbv:Nat→Sh:=yU []
def zbs (L:Nat):CBC:=noC
def zcq:St→St:=y4 0 (bl 262161 33) (bl 6979321823 33)
def zht (p0:Int) (p4l:Nat) (p18:Int) (b15:List V):St:=⟨((V.sc (.int .u64 p0))::(jn 3 ((V.own 15 0 p4l 1)::(jn 13 ((V.sc (.int .i64 p18))::(jn 14 [])))))),(gn 15 ((.live true b15)::(gn 17 [])))⟩
def zd1 (p0:Int) (p4:List (List V)) (p18:Int) (b15:Nat):St:=⟨((V.sc (.int .u64 p0))::(jn 3 ((V.gs 1 p4)::(jn 13 ((V.sc (.int .i64 p18))::(jn 14 [])))))),(gn 15 ((.dead b15)::(gn 17 [])))⟩
def znE (p4l:Nat) (b15:List V):St:=⟨(jn 4 ((V.own 15 0 p4l 1)::(jn 28 []))),(gn 15 ((.live true b15)::(gn 17 [])))⟩
def zhL (p4:List (List V)) (b15:Nat):St:=⟨(jn 4 ((V.gs 1 p4)::(jn 28 []))),(gn 15 ((.dead b15)::(gn 17 [])))⟩
def ztf {β:Type} (L:Nat) (p0:Int) (k_hbbbbaba:Int→Nat→Int→List V→Option β):Option β :=
 lt (IntKind.wrap .u64 ((p0:Int)+(9:Int))) fun x0 =>
 lt (Int.tmod x0 (64:Int)) fun x1 =>
 lt (IntKind.wrap .u64 (((64:Int):Int) - x1)) fun x2 =>
 lt (Int.tmod x2 (64:Int)) fun x3 =>
 lt (IntKind.wrap .u64 (((1:Int):Int)+x3)) fun x4 =>
 lt (IntKind.wrap .u64 (((9:Int):Int)+x3)) fun x5 =>
 chk (0≤x4∧x4≤x5∧(Int.toNat x5) * 1≤xi∧x5≤xi) (
 chk (0≤(0:Int)∧(0:Int) < (((Int.toNat x4):Nat):Int)) (
 chk (1=1∧0+1≤(List.length (List.flatten (List.replicate (Int.toNat x5) [(V.sc (.int .u8 (0:Int)))])))) (
 lt (xn (List.flatten (List.replicate (Int.toNat x5) [(V.sc (.int .u8 (0:Int)))])) 0 [(V.sc (.int .u8 (128:Int)))]) fun r6 =>
 k_hbbbbaba p0 (Int.toNat x4) (0:Int) r6)))
theorem zzH {β:Type} (L:Nat) (p0:Int) (k:KK β):yt zbv (zbs L) L zfO [(V.sc (.int .u64 p0))] [] k=ztf L p0 (fun p0 p4l p18 b15=>yx (xj zbv (zbs L) 0 L zbp) zcq L (zht p0 p4l p18 b15) (zz 0 (zN (xj zbv (zbs L) 0 L zi5) (yO 0 (CF.res zfO) k)))):=by kernel_rfl
def zgH {β:Type} (L:Nat) (p0:Int) (p4l:Nat) (p18:Int) (b15:List V) (k_hbbbbabav1:Int→List (List V)→Int→Nat→Option β) (k_x0:Nat→List V→Option β):Option β :=
 ifb (decide (p18 < (8:Int))) (
 chk (0=0∧p4l * 1≤(List.length b15)∧(List.length b15)≠0) (
 lt (IntKind.wrap .u64 (((8:Int):Int) * p0)) fun x7 =>
 lt (IntKind.wrap .i64 (((8:Int):Int) * p18)) fun x8 =>
 lt (IntKind.wrap .i64 (((56:Int):Int) - x8)) fun x9 =>
 chk (0≤x9) (
 lt (zb9 .u64 x7 x9) fun x10 =>
 lt (IntKind.wrap .u8 x10) fun x11 =>
 chk ((List.length (yh 1 p4l b15)+List.length (yh 1 1 [(V.sc (.int .u8 x11))])) * 1≤xi∧List.length (yh 1 p4l b15)+List.length (yh 1 1 [(V.sc (.int .u8 x11))])≤xi) (
 lt ((yh 1 p4l b15)++(yh 1 1 [(V.sc (.int .u8 x11))])) fun l12 =>
 lt (IntKind.wrap .i64 ((p18:Int)+(1:Int))) fun x13 =>
 k_hbbbbabav1 p0 l12 x13 (List.length b15))))) (
 k_x0 p4l b15)
theorem zsc {β:Type} (L:Nat) (p0:Int) (p4l:Nat) (p18:Int) (b15:List V) (X:St→Option β) (K:KT β):xj zbv (zbs L) 0 L zbp (zht p0 p4l p18 b15) (zan zcq X K)=zgH L p0 p4l p18 b15 (fun p0 p4 p18 b15=>X (zd1 p0 p4 p18 b15)) (fun p4l b15=>K (.exit 0) (znE p4l b15)):=by kernel_rfl
def zh1 {β:Type} (L:Nat) (p4l:Nat) (b15:List V) (k_fin:List (List V)→Option β):Option β :=
 chk (p4l≠0∨(List.length b15)=0) (
 k_fin (yh 1 p4l b15))
theorem zqr {β:Type} (L:Nat) (p4l:Nat) (b15:List V) (k:KK β):(zz 0 (zN (xj zbv (zbs L) 0 L zi5) (yO 0 (CF.res zfO) k))) (.exit 0) (znE p4l b15)=zh1 L p4l b15 (fun p0=>k (V.fr 1 p0) []):=by kernel_rfl
def zdR {β:Type} (L:Nat) (p0:Int) (p4:List (List V)) (p18:Int) (b15:Nat) (k_hbbbbabav1:Int→List (List V)→Int→Nat→Option β) (k_x0v1:List (List V)→Nat→Option β):Option β :=
 ifb (decide (p18 < (8:Int))) (
 lt (IntKind.wrap .u64 (((8:Int):Int) * p0)) fun x14 =>
 lt (IntKind.wrap .i64 (((8:Int):Int) * p18)) fun x15 =>
 lt (IntKind.wrap .i64 (((56:Int):Int) - x15)) fun x16 =>
 chk (0≤x16) (
 lt (zb9 .u64 x14 x16) fun x17 =>
 lt (IntKind.wrap .u8 x17) fun x18 =>
 chk ((List.length p4+List.length (yh 1 1 [(V.sc (.int .u8 x18))])) * 1≤xi∧List.length p4+List.length (yh 1 1 [(V.sc (.int .u8 x18))])≤xi) (
 lt (p4++(yh 1 1 [(V.sc (.int .u8 x18))])) fun l19 =>
 lt (IntKind.wrap .i64 ((p18:Int)+(1:Int))) fun x20 =>
 k_hbbbbabav1 p0 l19 x20 b15))) (
 k_x0v1 p4 b15)
theorem zqX {β:Type} (L:Nat) (p0:Int) (p4:List (List V)) (p18:Int) (b15:Nat) (X:St→Option β) (K:KT β):xj zbv (zbs L) 0 L zbp (zd1 p0 p4 p18 b15) (zan zcq X K)=zdR L p0 p4 p18 b15 (fun p0 p4 p18 b15=>X (zd1 p0 p4 p18 b15)) (fun p4 b15=>K (.exit 0) (zhL p4 b15)):=by kernel_rfl
def zdC {β:Type} (L:Nat) (p4:List (List V)) (b15:Nat) (k_finv1:List (List V)→Option β):Option β :=
 k_finv1 p4
theorem znX {β:Type} (L:Nat) (p4:List (List V)) (b15:Nat) (k:KK β):(zz 0 (zN (xj zbv (zbs L) 0 L zi5) (yO 0 (CF.res zfO) k))) (.exit 0) (zhL p4 b15)=zdC L p4 b15 (fun p0=>k (V.gs 1 p0) []):=by kernel_rfl
def zbG {β:Type} (L:Nat) (k_x0v1:List (List V)→Nat→Option β):Nat→Int→List (List V)→Int→Nat→Option β
 | 0,_,_,_,_=>none
 | n+1,p0,p4,p18,b15=>zdR L p0 p4 p18 b15 (fun p0 p4 p18 b15=>zbG L k_x0v1 n p0 p4 p18 b15) k_x0v1
theorem zqv {β:Type} (L:Nat) (K:KT β):∀ (n:Nat) (p0:Int) (p4:List (List V)) (p18:Int) (b15:Nat),yx (xj zbv (zbs L) 0 L zbp) zcq n (zd1 p0 p4 p18 b15) K=zbG L (fun p4 b15=>K (.exit 0) (zhL p4 b15)) n p0 p4 p18 b15:=by
 intro n
 induction n with
 | zero=>intros; rfl
 | succ n ih =>
  intro p0 p4 p18 b15
  refine (zqX L p0 p4 p18 b15 (fun σ=>yx (xj zbv (zbs L) 0 L zbp) zcq n σ K) K).trans ?_
  simp only [ih]
  rfl
def zoY {β:Type} (L:Nat) (k_x0:Nat→List V→Option β) (k_x0v1:List (List V)→Nat→Option β):Nat→Int→Nat→Int→List V→Option β
 | 0,_,_,_,_=>none
 | n+1,p0,p4l,p18,b15=>zgH L p0 p4l p18 b15 (fun p0 p4 p18 b15=>zbG L k_x0v1 n p0 p4 p18 b15) k_x0
theorem zlS {β:Type} (L:Nat) (K:KT β):∀ (n:Nat) (p0:Int) (p4l:Nat) (p18:Int) (b15:List V),yx (xj zbv (zbs L) 0 L zbp) zcq n (zht p0 p4l p18 b15) K=zoY L (fun p4l b15=>K (.exit 0) (znE p4l b15)) (fun p4 b15=>K (.exit 0) (zhL p4 b15)) n p0 p4l p18 b15:=by
 intro n
 induction n with
 | zero=>intros; rfl
 | succ n ih =>
  intro p0 p4l p18 b15
  refine (zsc L p0 p4l p18 b15 (fun σ=>yx (xj zbv (zbs L) 0 L zbp) zcq n σ K) K).trans ?_
  simp only [zqv]
  rfl
def zpp {β:Type} (L:Nat) (p0:Int) (k_fin:List (List V)→Option β) (k_finv1:List (List V)→Option β):Option β :=
 ztf L p0 (fun p0 p4l p18 b15=>zoY L (fun p4l b15=>zh1 L p4l b15 k_fin) (fun p4 b15=>zdC L p4 b15 k_finv1) L p0 p4l p18 b15)
theorem zzM {β:Type} (L:Nat) (p0:Int) (k:KK β):yt zbv (zbs L) L zfO [(V.sc (.int .u64 p0))] [] k=zpp L p0 (fun p0=>k (V.fr 1 p0) []) (fun p0=>k (V.gs 1 p0) []):=by
 refine (zzH L p0 k).trans ?_
 unfold zpp
 first
  | (simp only [zlS,zqr,znX]; done)
  | (simp only [zlS]; rfl)
abbrev zas:=∀ (β:Type),Nat→Int→(List (List V)→Option β)→(List (List V)→Option β)→Option β
def zo (β:Type) (L:Nat) (p0:Int) (k_fin:List (List V)→Option β) (k_finv1:List (List V)→Option β):Option β:=zpp L p0 k_fin k_finv1
def zpk (zo:zas) (L:Nat) (β:Type) (args:List V) (bor:Bor) (k:KK β):Option β:=match args,bor with
 | [a0],[]=>aI .u64 a0 fun p0=>zo β L p0 (fun p0=>k (V.fr 1 p0) []) (fun p0=>k (V.gs 1 p0) [])
 | _,_=>none
theorem zzl (L:Nat) (β:Type) (args:List V) (bor:Bor) (k:KK β) (r:β) (h:zpk zo L β args bor k=some r):yt zbv (zbs L) L zfO args bor k=some r:=by
 unfold zpk at h
 split at h
 ·have q:=xP h; clear h; obtain ⟨p0,rfl,h⟩:=q
  exact (zzM L p0 k).trans h
 ·cases h
def zfA:CC:=(.seq (.reg [oo 9 (.bin .lss (tq 8) (tq 7))])
 (.seq (.cond (tq 9)
 .skip
 (.seq (.mask (bl 8 17) (bl 114655 17))
 (.exit 0)))
 (.seq (.block 1 (.seq (.reg [oo 10 (.indexAddrS 1 (tq 6) (tq 8)),
   oo 11 (.load false 1 (tq 10) false),
   oo 5 (.move (tq 11) false)])
 (.reg [oo 12 (.move (tq 3) true),
   oo 13 (.move (tq 5) false),
   oo 14 (.append 1 1 (tq 12) (tq 13)),
   oo 3 (.move (tq 14) true)])))
 (.reg [oo 15 (.bin .add (tq 8) (.const (.sc (.int .i64 1)))),
   oo 8 (.move (tq 15) false)]))))
def zoS:CC:=(.seq (.reg [oo 16 (.move (tq 3) true),
   oo 2 (.move (tq 16) true)])
 .ret)
def zgW:CF:=⟨17,[.tmp 2],
 (.seq (.reg [oo 2 (.move (.const (.gs 1 [])) true)])
 (.seq (.reg [oo 3 (.move (.const (.gs 1 [])) true)])
 (.seq (.seq (.reg [oo 6 (.move (tq 0) false),
   oo 7 (.lenS (tq 6)),
   oo 8 (.move (.const (.sc (.int .i64 0))) false)])
 (.block 0 (.loop (bl 456 17) (bl 114655 17)
 zfA)))
 zoS)))⟩
def zsU:Hint:=⟨[(0,0),(1,0),(5,0),(5,3),(7,0),(7,1)],[],[none,some ((bl 456 17),(bl 114655 17)),none,some ((bl 8 17),(bl 114655 17)),none,none],[],[],false,false⟩
def zdH:Nat→Sh:=yU [(11,(.sl 1))]
def zdA (L:Nat):CBC:=noC
def ziK:St→St:=y4 0 (bl 456 17) (bl 114655 17)
def zf5 (p3 p6:List (List V)) (p7 p8:Int):St:=⟨(jn 3 ((V.gs 1 p3)::(jn 2 ((V.sl 1 p6)::((V.sc (.int .i64 p7))::((V.sc (.int .i64 p8))::(jn 8 []))))))),(gn 17 [])⟩
def znB (p3:List (List V)):St:=⟨(jn 3 ((V.gs 1 p3)::(jn 13 []))),(gn 17 [])⟩
def zs4 {β:Type} (L:Nat) (p0:List (List V)) (k_hbbaba:List (List V)→List (List V)→Int→Int→Option β):Option β :=
 k_hbbaba ([]:List (List V)) p0 ((List.length p0:Nat):Int) (0:Int)
theorem zzC {β:Type} (L:Nat) (p0:List (List V)) (k:KK β):yt zdH (zdA L) L zgW [(V.sl 1 p0)] [] k=zs4 L p0 (fun p3 p6 p7 p8=>yx (xj zdH (zdA L) 0 L zfA) ziK L (zf5 p3 p6 p7 p8) (zz 0 (zN (xj zdH (zdA L) 0 L zoS) (yO 0 (CF.res zgW) k)))):=by kernel_rfl
def zcu {β:Type} (L:Nat) (p3 p6:List (List V)) (p7 p8:Int) (k_hbbaba:List (List V)→List (List V)→Int→Int→Option β) (k_x0:List (List V)→Option β):Option β :=
 ifb (decide (p8 < p7)) (
 idx p6 p8 fun c0 =>
 cL 1 c0 0 fun v1 =>
 chk ((List.length p3+List.length v1) * 1≤xi∧List.length p3+List.length v1≤xi) (
 lt (p3++v1) fun l2 =>
 lt (IntKind.wrap .i64 ((p8:Int)+(1:Int))) fun x3 =>
 k_hbbaba l2 p6 p7 x3)) (
 k_x0 p3)
theorem zt8 {β:Type} (L:Nat) (p3 p6:List (List V)) (p7 p8:Int) (X:St→Option β) (K:KT β):xj zdH (zdA L) 0 L zfA (zf5 p3 p6 p7 p8) (zan ziK X K)=zcu L p3 p6 p7 p8 (fun p3 p6 p7 p8=>X (zf5 p3 p6 p7 p8)) (fun p3=>K (.exit 0) (znB p3)):=by kernel_rfl
def zdq {β:Type} (L:Nat) (p3:List (List V)) (k_fin:List (List V)→Option β):Option β :=
 k_fin p3
theorem zsp {β:Type} (L:Nat) (p3:List (List V)) (k:KK β):(zz 0 (zN (xj zdH (zdA L) 0 L zoS) (yO 0 (CF.res zgW) k))) (.exit 0) (znB p3)=zdq L p3 (fun p0=>k (V.gs 1 p0) []):=by kernel_rfl
def zeQ {β:Type} (L:Nat) (k_x0:List (List V)→Option β):Nat→List (List V)→List (List V)→Int→Int→Option β
 | 0,_,_,_,_=>none
 | n+1,p3,p6,p7,p8=>zcu L p3 p6 p7 p8 (fun p3 p6 p7 p8=>zeQ L k_x0 n p3 p6 p7 p8) k_x0
theorem znN {β:Type} (L:Nat) (K:KT β):∀ (n:Nat) (p3 p6:List (List V)) (p7 p8:Int),yx (xj zdH (zdA L) 0 L zfA) ziK n (zf5 p3 p6 p7 p8) K=zeQ L (fun p3=>K (.exit 0) (znB p3)) n p3 p6 p7 p8:=by
 intro n
 induction n with
 | zero=>intros; rfl
 | succ n ih =>
  intro p3 p6 p7 p8
  refine (zt8 L p3 p6 p7 p8 (fun σ=>yx (xj zdH (zdA L) 0 L zfA) ziK n σ K) K).trans ?_
  simp only [ih]
  rfl
def zpu {β:Type} (L:Nat) (p0:List (List V)) (k_fin:List (List V)→Option β):Option β :=
 zs4 L p0 (fun p3 p6 p7 p8=>zeQ L (fun p3=>zdq L p3 k_fin) L p3 p6 p7 p8)
theorem zz1 {β:Type} (L:Nat) (p0:List (List V)) (k:KK β):yt zdH (zdA L) L zgW [(V.sl 1 p0)] [] k=zpu L p0 (fun p0=>k (V.gs 1 p0) []):=by
 refine (zzC L p0 k).trans ?_
 unfold zpu
 first
  | (simp only [znN,zsp]; done)
  | (simp only [znN]; rfl)
abbrev zar:=∀ (β:Type),Nat→List (List V)→(List (List V)→Option β)→Option β
def yn (β:Type) (L:Nat) (p0:List (List V)) (k_fin:List (List V)→Option β):Option β:=zpu L p0 k_fin
def zpf (yn:zar) (L:Nat) (β:Type) (args:List V) (bor:Bor) (k:KK β):Option β:=match args,bor with
 | [a0],[]=>aL 1 a0 fun p0=>yn β L p0 (fun p0=>k (V.gs 1 p0) [])
 | _,_=>none
theorem zzo (L:Nat) (β:Type) (args:List V) (bor:Bor) (k:KK β) (r:β) (h:zpf yn L β args bor k=some r):yt zdH (zdA L) L zgW args bor k=some r:=by
 unfold zpf at h
 split at h
 ·have q:=yP h; clear h; obtain ⟨p0,rfl,h⟩:=q
  exact (zz1 L p0 k).trans h
 ·cases h
def zcD:CF:=⟨17,[.tmp 4],
 (.seq (.reg [oo 4 (.move (.const (.sc (.int .u32 0))) false)])
 (.seq (.reg [oo 6 (.move (tq 1) false),
   oo 7 (.conv .u64 (tq 6)),
   oo 8 (.bin .and (tq 7) (.const (.sc (.int .u64 31)))),
   oo 5 (.move (tq 8) false)])
 (.seq (.reg [oo 9 (.move (tq 0) false),
   oo 10 (.move (tq 5) false),
   oo 11 (.bin .shl (tq 9) (tq 10)),
   oo 12 (.move (tq 0) false),
   oo 13 (.move (tq 5) false),
   oo 14 (.bin .sub (.const (.sc (.int .u64 32))) (tq 13)),
   oo 15 (.bin .shr (tq 12) (tq 14)),
   oo 16 (.bin .or (tq 11) (tq 15)),
   oo 4 (.move (tq 16) false)])
 .ret)))⟩
def zgD:Hint:=⟨[],[],[none],[],[],false,false⟩
def zeF:Nat→Sh:=yU []
def zex (L:Nat):CBC:=noC
def zeW {β:Type} (L:Nat) (p0 p1:Int) (k_fin:Int→Option β):Option β :=
 lt (IntKind.wrap .u64 p1) fun x0 =>
 lt (zfT .u64 x0 (31:Int)) fun x1 =>
 chk (0≤x1) (
 lt (zbO .u32 p0 x1) fun x2 =>
 lt (IntKind.wrap .u64 (((32:Int):Int) - x1)) fun x3 =>
 chk (0≤x3) (
 lt (zb9 .u32 p0 x3) fun x4 =>
 lt (ior .u32 x2 x4) fun x5 =>
 k_fin x5))
theorem zm9 {β:Type} (L:Nat) (p0 p1:Int) (k:KK β):yt zeF (zex L) L zcD [(V.sc (.int .u32 p0)),(V.sc (.int .i64 p1))] [] k=zeW L p0 p1 (fun p0=>k (V.sc (.int .u32 p0)) []):=by kernel_rfl
abbrev zaq:=∀ (β:Type),Nat→Int→Int→(Int→Option β)→Option β
def xm (β:Type) (L:Nat) (p0 p1:Int) (k_fin:Int→Option β):Option β:=zeW L p0 p1 k_fin
def zbH (xm:zaq) (L:Nat) (β:Type) (args:List V) (bor:Bor) (k:KK β):Option β:=match args,bor with
 | [a0,a1],[]=>aI .u32 a0 fun p0=>aI .i64 a1 fun p1=>xm β L p0 p1 (fun p0=>k (V.sc (.int .u32 p0)) [])
 | _,_=>none
theorem znb (L:Nat) (β:Type) (args:List V) (bor:Bor) (k:KK β) (r:β) (h:zbH xm L β args bor k=some r):yt zeF (zex L) L zcD args bor k=some r:=by
 unfold zbH at h
 split at h
 ·have q:=xP h; clear h; obtain ⟨p0,rfl,h⟩:=q
  have q:=xP h; clear h; obtain ⟨p1,rfl,h⟩:=q
  exact (zm9 L p0 p1 k).trans h
 ·cases h
def zmD:CF:=⟨9,[.tmp 4],
 (.seq (.reg [oo 4 (.move (.const (.sc (.int .u32 0))) false)])
 (.seq (.reg [oo 5 (.move (tq 0) false),
   oo 6 (.move (tq 1) false),
   oo 7 (.un .neg (tq 6)),
   oo 8 (.call 572 [((tq 5),0),((tq 7),0)] []),
   oo 4 (.move (tq 8) false)])
 .ret))⟩
def zrX:Hint:=⟨[],[],[none],[],[],false,false⟩
def zpN:Nat→Sh:=yU []
def zpT (xm:zaq) (L:Nat):CBC:=(yE 572 (zbH xm L) noC)
def zq6 {β:Type} (xm:zaq) (L:Nat) (p0 p1:Int) (k_fin:Int→Option β):Option β :=
 lt (IntKind.wrap .i64 (0 - p1)) fun x0 =>
 xm β L p0 x0 (fun v1 =>
 k_fin v1)
theorem zym {β:Type} (xm:zaq) (L:Nat) (p0 p1:Int) (k:KK β):yt zpN (zpT xm L) L zmD [(V.sc (.int .u32 p0)),(V.sc (.int .i64 p1))] [] k=zq6 xm L p0 p1 (fun p0=>k (V.sc (.int .u32 p0)) []):=by kernel_rfl
abbrev yA:=∀ (β:Type),Nat→Int→Int→(Int→Option β)→Option β
def yd (β:Type) (L:Nat) (p0 p1:Int) (k_fin:Int→Option β):Option β:=zq6 xm L p0 p1 k_fin
def zlC (yd:yA) (L:Nat) (β:Type) (args:List V) (bor:Bor) (k:KK β):Option β:=match args,bor with
 | [a0,a1],[]=>aI .u32 a0 fun p0=>aI .i64 a1 fun p1=>yd β L p0 p1 (fun p0=>k (V.sc (.int .u32 p0)) [])
 | _,_=>none
theorem zyh (L:Nat) (β:Type) (args:List V) (bor:Bor) (k:KK β) (r:β) (h:zlC yd L β args bor k=some r):yt zpN (zpT xm L) L zmD args bor k=some r:=by
 unfold zlC at h
 split at h
 ·have q:=xP h; clear h; obtain ⟨p0,rfl,h⟩:=q
  have q:=xP h; clear h; obtain ⟨p1,rfl,h⟩:=q
  exact (zym xm L p0 p1 k).trans h
 ·cases h
def zaS:CC:=(.seq (.reg [oo 13 (.bin .lss (tq 12) (.const (.sc (.int .i64 4))))])
 (.seq (.cond (tq 13)
 .skip
 (.seq (.mask (bl 526 85) (bl 38685626227668133590597599 85))
 (.exit 2)))
 (.seq (.block 3 (.seq (.reg [oo 14 (.move (tq 12) false),
   oo 5 (.move (tq 14) false)])
 (.dreg [] [(oo 15 (.move (tq 4) false),q0),
   (oo 16 (.move (tq 4) false),q0),
   (oo 17 (.indexAddrA 64 1 (tq 3) (tq 16)),q0),
   (oo 18 (.load false 1 (tq 17) false),qc [] []),
   (oo 19 (.bin .shl (tq 18) (.const (.sc (.int .u64 8)))),q0),
   (oo 20 (.move (tq 4) false),q0),
   (oo 21 (.bin .mul (.const (.sc (.int .i64 4))) (tq 20)),q0),
   (oo 22 (.move (tq 5) false),q0),
   (oo 23 (.bin .add (tq 21) (tq 22)),q0),
   (oo 24 (.indexAddrA 64 1 (tq 1) (tq 23)),q0),
   (oo 25 (.load false 1 (tq 24) false),qc [] []),
   (oo 26 (.conv .u32 (tq 25)),q0),
   (oo 27 (.bin .or (tq 19) (tq 26)),q0),
   (oo 28 (.indexAddrA 64 1 (tq 3) (tq 15)),q0),
   (oz (.store 1 (tq 28) (tq 27)),q0)])))
 (.reg [oo 29 (.bin .add (tq 12) (.const (.sc (.int .i64 1)))),
   oo 12 (.move (tq 29) false)]))))
def zff:CC:=(.reg [oo 30 (.bin .add (tq 9) (.const (.sc (.int .i64 1)))),
   oo 9 (.move (tq 30) false)])
def zct:CC:=(.seq (.seq (.reg [oo 31 (.move (tq 6) false),
   oo 32 (.bin .lss (tq 31) (.const (.sc (.int .i64 64))))])
 (.cond (tq 32)
 .skip
 (.seq (.mask (bl 12 85) (bl 38685623849749388397116989 85))
 (.exit 4))))
 (.seq (.block 5 (.seq (.dreg [] [(oo 35 (.move (tq 6) false),q0),
   (oo 36 (.bin .sub (tq 35) (.const (.sc (.int .i64 15)))),q0),
   (oo 37 (.indexAddrA 64 1 (tq 3) (tq 36)),q0),
   (oo 38 (.load false 1 (tq 37) false),q1),
   (oo 39 (.call 535 [((tq 38),0),((.const (.sc (.int .i64 7))),0)] []),q1),
   (oo 40 (.move (tq 6) false),q0),
   (oo 41 (.bin .sub (tq 40) (.const (.sc (.int .i64 15)))),q0),
   (oo 42 (.indexAddrA 64 1 (tq 3) (tq 41)),q0),
   (oo 43 (.load false 1 (tq 42) false),q1),
   (oo 44 (.call 535 [((tq 43),0),((.const (.sc (.int .i64 18))),0)] []),q1),
   (oo 45 (.bin .xor (tq 39) (tq 44)),q0),
   (oo 46 (.move (tq 6) false),q0),
   (oo 47 (.bin .sub (tq 46) (.const (.sc (.int .i64 15)))),q0),
   (oo 48 (.indexAddrA 64 1 (tq 3) (tq 47)),q0),
   (oo 49 (.load false 1 (tq 48) false),q1),
   (oo 50 (.bin .shr (tq 49) (.const (.sc (.int .u64 3)))),q0),
   (oo 51 (.bin .xor (tq 45) (tq 50)),q0),
   (oo 7 (.move (tq 51) false),q0)])
 (.seq (.dreg [] [(oo 52 (.move (tq 6) false),q0),
   (oo 53 (.bin .sub (tq 52) (.const (.sc (.int .i64 2)))),q0),
   (oo 54 (.indexAddrA 64 1 (tq 3) (tq 53)),q0),
   (oo 55 (.load false 1 (tq 54) false),q1),
   (oo 56 (.call 535 [((tq 55),0),((.const (.sc (.int .i64 17))),0)] []),q1),
   (oo 57 (.move (tq 6) false),q0),
   (oo 58 (.bin .sub (tq 57) (.const (.sc (.int .i64 2)))),q0),
   (oo 59 (.indexAddrA 64 1 (tq 3) (tq 58)),q0),
   (oo 60 (.load false 1 (tq 59) false),q1),
   (oo 61 (.call 535 [((tq 60),0),((.const (.sc (.int .i64 19))),0)] []),q1),
   (oo 62 (.bin .xor (tq 56) (tq 61)),q0),
   (oo 63 (.move (tq 6) false),q0),
   (oo 64 (.bin .sub (tq 63) (.const (.sc (.int .i64 2)))),q0),
   (oo 65 (.indexAddrA 64 1 (tq 3) (tq 64)),q0),
   (oo 66 (.load false 1 (tq 65) false),q1),
   (oo 67 (.bin .shr (tq 66) (.const (.sc (.int .u64 10)))),q0),
   (oo 68 (.bin .xor (tq 62) (tq 67)),q0),
   (oo 8 (.move (tq 68) false),q0)])
 (.dreg [] [(oo 69 (.move (tq 6) false),q0),
   (oo 70 (.move (tq 6) false),q0),
   (oo 71 (.bin .sub (tq 70) (.const (.sc (.int .i64 16)))),q0),
   (oo 72 (.indexAddrA 64 1 (tq 3) (tq 71)),q0),
   (oo 73 (.load false 1 (tq 72) false),qc [] []),
   (oo 74 (.move (tq 7) false),q0),
   (oo 75 (.bin .add (tq 73) (tq 74)),q0),
   (oo 76 (.move (tq 6) false),q0),
   (oo 77 (.bin .sub (tq 76) (.const (.sc (.int .i64 7)))),q0),
   (oo 78 (.indexAddrA 64 1 (tq 3) (tq 77)),q0),
   (oo 79 (.load false 1 (tq 78) false),qc [] []),
   (oo 80 (.bin .add (tq 75) (tq 79)),q0),
   (oo 81 (.move (tq 8) false),q0),
   (oo 82 (.bin .add (tq 80) (tq 81)),q0),
   (oo 83 (.indexAddrA 64 1 (tq 3) (tq 69)),q0),
   (oz (.store 1 (tq 83) (tq 82)),q0)]))))
 (.reg [oo 33 (.move (tq 6) false),
   oo 34 (.bin .add (tq 33) (.const (.sc (.int .i64 1)))),
   oo 6 (.move (tq 34) false)])))
def zbM:CC:=(.seq (.reg [oo 10 (.bin .lss (tq 9) (.const (.sc (.int .i64 16))))])
 (.seq (.cond (tq 10)
 .skip
 (.seq (.mask (bl 12 85) (bl 38685626227668133590597581 85))
 (.exit 0)))
 (.seq (.block 1 (.seq (.reg [oo 11 (.move (tq 9) false),
   oo 4 (.move (tq 11) false)])
 (.seq (.reg [oo 12 (.move (.const (.sc (.int .i64 0))) false)])
 (.block 2 (.loop (bl 4638 85) (bl 38685626227668133590597599 85)
 zaS)))))
 zff)))
def zik:CC:=(.seq (.reg [oo 84 (.load true 64 (tq 3) false),
   oz (.store 64 (tq 2) (tq 84))])
 .ret)
def zgd:CC:=(.seq (.seq (.reg [oo 6 (.move (.const (.sc (.int .i64 16))) false)])
 (.block 4 (.loop (bl 76 85) (bl 38685623849749388397117053 85)
 zct)))
 zik)
def zaW:CF:=⟨85,[.cell 2 true 64],
 (.seq (.reg [oo 1 (.box true (tq 0)),
   oo 2 (.alloc true (rp 64 (.sc (.int .u32 0)) []))])
 (.seq (.reg [oo 3 (.alloc true (rp 64 (.sc (.int .u32 0)) []))])
 (.seq (.seq (.reg [oo 9 (.move (.const (.sc (.int .i64 0))) false)])
 (.block 0 (.loop (bl 526 85) (bl 38685626227668133590597583 85)
 zbM)))
 zgd)))⟩
def znS:Hint:=⟨[],[],[none,some ((bl 526 85),(bl 38685626227668133590597583 85)),none,some ((bl 12 85),(bl 38685626227668133590597581 85)),none,none,some ((bl 4638 85),(bl 38685626227668133590597599 85)),none,some ((bl 526 85),(bl 38685626227668133590597599 85)),none,none,some ((bl 76 85),(bl 38685623849749388397117053 85)),none,some ((bl 12 85),(bl 38685623849749388397116989 85)),none,none],[],[],false,false⟩
def zD:Nat→Sh:=yU [(18,(.int .u32)),(25,(.int .u8)),(38,(.int .u32)),(43,(.int .u32)),(49,(.int .u32)),(55,(.int .u32)),(60,(.int .u32)),(66,(.int .u32)),(73,(.int .u32)),(79,(.int .u32))]
def yD (yd:yA) (L:Nat):CBC:=(yE 535 (zlC yd L) noC)
def zbq:St→St:=y4 0 (bl 526 85) (bl 38685626227668133590597583 85)
def zb0:St→St:=y4 0 (bl 4638 85) (bl 38685626227668133590597599 85)
def zey:St→St:=y4 0 (bl 76 85) (bl 38685623849749388397117053 85)
def zbj (p9:Int) (b1 b2 b3:List V):St:=⟨(jn 1 ((V.ptr 1 0)::((V.ptr 2 0)::((V.ptr 3 0)::(jn 5 ((V.sc (.int .i64 p9))::(jn 75 []))))))),(gn 1 ((.live true b1)::((.live true b2)::((.live true b3)::(gn 81 [])))))⟩
def zbw (p4 p9 p12:Int) (b1 b2 b3:List V):St:=⟨(jn 1 ((V.ptr 1 0)::((V.ptr 2 0)::((V.ptr 3 0)::((V.sc (.int .i64 p4))::(jn 4 ((V.sc (.int .i64 p9))::(jn 2 ((V.sc (.int .i64 p12))::(jn 72 [])))))))))),(gn 1 ((.live true b1)::((.live true b2)::((.live true b3)::(gn 81 [])))))⟩
def zdM (b2 b3:List V):St:=⟨(jn 2 ((V.ptr 2 0)::((V.ptr 3 0)::(jn 81 [])))),(gn 2 ((.live true b2)::((.live true b3)::(gn 81 []))))⟩
def zdh (p6:Int) (b2 b3:List V):St:=⟨(jn 2 ((V.ptr 2 0)::((V.ptr 3 0)::(jn 2 ((V.sc (.int .i64 p6))::(jn 78 [])))))),(gn 2 ((.live true b2)::((.live true b3)::(gn 81 []))))⟩
def zh5 (p9:Int) (b1 b2 b3:List V):St:=⟨(jn 1 ((V.ptr 1 0)::((V.ptr 2 0)::((V.ptr 3 0)::(jn 5 ((V.sc (.int .i64 p9))::(jn 75 []))))))),(gn 1 ((.live true b1)::((.live true b2)::((.live true b3)::(gn 81 [])))))⟩
def ziw (b2 b3:List V):St:=⟨(jn 2 ((V.ptr 2 0)::((V.ptr 3 0)::(jn 81 [])))),(gn 2 ((.live true b2)::((.live true b3)::(gn 81 []))))⟩
def zlX {β:Type} (yd:yA) (L:Nat) (p0:List V) (k_hbbaba:Int→List V→List V→List V→Option β):Option β :=
 k_hbbaba (0:Int) p0 (List.replicate 64 (V.sc (.int .u32 (0:Int)))) (List.replicate 64 (V.sc (.int .u32 (0:Int))))
theorem zuo {β:Type} (yd:yA) (L:Nat) (p0:List V) (k:KK β):yt zD (yD yd L) L zaW [(V.agg p0)] [] k=zlX yd L p0 (fun p9 b1 b2 b3=>yx (xj zD (yD yd L) 0 L zbM) zbq L (zbj p9 b1 b2 b3) (zz 0 (zN (xj zD (yD yd L) 0 L zgd) (yO 0 (CF.res zaW) k)))):=by kernel_rfl
def ze8 {β:Type} (yd:yA) (L:Nat) (p9:Int) (b1 b2 b3:List V) (k_hbbabaabbaabba:Int→Int→Int→List V→List V→List V→Option β) (k_x0:List V→List V→Option β):Option β :=
 ifb (decide (p9 < (16:Int))) (
 k_hbbabaabbaabba p9 p9 (0:Int) b1 b2 b3) (
 k_x0 b2 b3)
theorem zp5 {β:Type} (yd:yA) (L:Nat) (p9:Int) (b1 b2 b3:List V) (X:St→Option β) (K:KT β):xj zD (yD yd L) 0 L zbM (zbj p9 b1 b2 b3) (zan zbq X K)=ze8 yd L p9 b1 b2 b3 (fun p4 p9 p12 b1 b2 b3=>yx (xj zD (yD yd L) 0 L zaS) zb0 L (zbw p4 p9 p12 b1 b2 b3) (zz 2 (zz 1 (zN (xj zD (yD yd L) 0 L zff) (zan zbq X K))))) (fun b2 b3=>K (.exit 0) (zdM b2 b3)):=by kernel_rfl
def zgj {β:Type} (yd:yA) (L:Nat) (b2 b3:List V) (k_hbbbaba:Int→List V→List V→Option β):Option β :=
 k_hbbbaba (16:Int) b2 b3
theorem zo0 {β:Type} (yd:yA) (L:Nat) (b2 b3:List V) (k:KK β):(zz 0 (zN (xj zD (yD yd L) 0 L zgd) (yO 0 (CF.res zaW) k))) (.exit 0) (zdM b2 b3)=zgj yd L b2 b3 (fun p6 b2 b3=>yx (xj zD (yD yd L) 0 L zct) zey L (zdh p6 b2 b3) (zz 4 (zN (xj zD (yD yd L) 0 L zik) (yO 0 (CF.res zaW) k)))):=by kernel_rfl
def yX {β:Type} (yd:yA) (L:Nat) (p4 p9 p12:Int) (b1 b2 b3:List V) (k_hbbabaabbaabba:Int→Int→Int→List V→List V→List V→Option β) (k_x2:Int→List V→List V→List V→Option β):Option β :=
 ifb (decide (p12 < (4:Int))) (
 chk (0≤p4∧p4 < ((64:Nat):Int)) (
 cI .u32 b3 (0+((Int.toNat p4) * 1)) fun v0 =>
 lt (zbO .u32 v0 (8:Int)) fun x1 =>
 lt (IntKind.wrap .i64 (((4:Int):Int) * p4)) fun x2 =>
 lt (IntKind.wrap .i64 ((x2:Int)+p12)) fun x3 =>
 chk (0≤x3∧x3 < ((64:Nat):Int)) (
 cI .u8 b1 (0+((Int.toNat x3) * 1)) fun v4 =>
 lt (IntKind.wrap .u32 v4) fun x5 =>
 lt (ior .u32 x1 x5) fun x6 =>
 chk (0≤p4∧p4 < ((64:Nat):Int)) (
 chk (1=1∧(0+((Int.toNat p4) * 1))+1≤(List.length b3)) (
 lt (xn b3 (0+((Int.toNat p4) * 1)) [(V.sc (.int .u32 x6))]) fun r7 =>
 lt (IntKind.wrap .i64 ((p12:Int)+(1:Int))) fun x8 =>
 k_hbbabaabbaabba p4 p9 x8 b1 b2 r7))))) (
 k_x2 p9 b1 b2 b3)
theorem zkL {β:Type} (yd:yA) (L:Nat) (p4 p9 p12:Int) (b1 b2 b3:List V) (X:St→Option β) (K:KT β):xj zD (yD yd L) 0 L zaS (zbw p4 p9 p12 b1 b2 b3) (zan zb0 X K)=yX yd L p4 p9 p12 b1 b2 b3 (fun p4 p9 p12 b1 b2 b3=>X (zbw p4 p9 p12 b1 b2 b3)) (fun p9 b1 b2 b3=>K (.exit 2) (zh5 p9 b1 b2 b3)):=by kernel_rfl
def zbT {β:Type} (yd:yA) (L:Nat) (p6:Int) (b2 b3:List V) (k_hbbbaba:Int→List V→List V→Option β) (k_x4:List V→List V→Option β):Option β :=
 ifb (decide (p6 < (64:Int))) (
 lt (IntKind.wrap .i64 ((p6:Int) - (15:Int))) fun x9 =>
 chk (0≤x9∧x9 < ((64:Nat):Int)) (
 cI .u32 b3 (0+((Int.toNat x9) * 1)) fun v10 =>
 yd β L v10 (7:Int) (fun v11 =>
 lt (IntKind.wrap .i64 ((p6:Int) - (15:Int))) fun x12 =>
 chk (0≤x12∧x12 < ((64:Nat):Int)) (
 cI .u32 b3 (0+((Int.toNat x12) * 1)) fun v13 =>
 yd β L v13 (18:Int) (fun v14 =>
 lt (zbW .u32 v11 v14) fun x15 =>
 lt (IntKind.wrap .i64 ((p6:Int) - (15:Int))) fun x16 =>
 chk (0≤x16∧x16 < ((64:Nat):Int)) (
 cI .u32 b3 (0+((Int.toNat x16) * 1)) fun v17 =>
 lt (zb9 .u32 v17 (3:Int)) fun x18 =>
 lt (zbW .u32 x15 x18) fun x19 =>
 lt (IntKind.wrap .i64 ((p6:Int) - (2:Int))) fun x20 =>
 chk (0≤x20∧x20 < ((64:Nat):Int)) (
 cI .u32 b3 (0+((Int.toNat x20) * 1)) fun v21 =>
 yd β L v21 (17:Int) (fun v22 =>
 lt (IntKind.wrap .i64 ((p6:Int) - (2:Int))) fun x23 =>
 chk (0≤x23∧x23 < ((64:Nat):Int)) (
 cI .u32 b3 (0+((Int.toNat x23) * 1)) fun v24 =>
 yd β L v24 (19:Int) (fun v25 =>
 lt (zbW .u32 v22 v25) fun x26 =>
 lt (IntKind.wrap .i64 ((p6:Int) - (2:Int))) fun x27 =>
 chk (0≤x27∧x27 < ((64:Nat):Int)) (
 cI .u32 b3 (0+((Int.toNat x27) * 1)) fun v28 =>
 lt (zb9 .u32 v28 (10:Int)) fun x29 =>
 lt (zbW .u32 x26 x29) fun x30 =>
 lt (IntKind.wrap .i64 ((p6:Int) - (16:Int))) fun x31 =>
 chk (0≤x31∧x31 < ((64:Nat):Int)) (
 cI .u32 b3 (0+((Int.toNat x31) * 1)) fun v32 =>
 lt (IntKind.wrap .u32 ((v32:Int)+x19)) fun x33 =>
 lt (IntKind.wrap .i64 ((p6:Int) - (7:Int))) fun x34 =>
 chk (0≤x34∧x34 < ((64:Nat):Int)) (
 cI .u32 b3 (0+((Int.toNat x34) * 1)) fun v35 =>
 lt (IntKind.wrap .u32 ((x33:Int)+v35)) fun x36 =>
 lt (IntKind.wrap .u32 ((x36:Int)+x30)) fun x37 =>
 chk (0≤p6∧p6 < ((64:Nat):Int)) (
 chk (1=1∧(0+((Int.toNat p6) * 1))+1≤(List.length b3)) (
 lt (xn b3 (0+((Int.toNat p6) * 1)) [(V.sc (.int .u32 x37))]) fun r38 =>
 lt (IntKind.wrap .i64 ((p6:Int)+(1:Int))) fun x39 =>
 k_hbbbaba x39 b2 r38))))))))))))))) (
 k_x4 b2 b3)
theorem zpc {β:Type} (yd:yA) (L:Nat) (p6:Int) (b2 b3:List V) (X:St→Option β) (K:KT β):xj zD (yD yd L) 0 L zct (zdh p6 b2 b3) (zan zey X K)=zbT yd L p6 b2 b3 (fun p6 b2 b3=>X (zdh p6 b2 b3)) (fun b2 b3=>K (.exit 4) (ziw b2 b3)):=by kernel_rfl
def zdf {β:Type} (yd:yA) (L:Nat) (p9:Int) (b1 b2 b3:List V) (k_hbbaba:Int→List V→List V→List V→Option β):Option β :=
 lt (IntKind.wrap .i64 ((p9:Int)+(1:Int))) fun x40 =>
 k_hbbaba x40 b1 b2 b3
theorem zki {β:Type} (yd:yA) (L:Nat) (p9:Int) (b1 b2 b3:List V) (X:St→Option β) (K:KT β):(zz 2 (zz 1 (zN (xj zD (yD yd L) 0 L zff) (zan zbq X K)))) (.exit 2) (zh5 p9 b1 b2 b3)=zdf yd L p9 b1 b2 b3 (fun p9 b1 b2 b3=>X (zbj p9 b1 b2 b3)):=by kernel_rfl
def zfY {β:Type} (yd:yA) (L:Nat) (b2 b3:List V) (k_fin:List V→Option β):Option β :=
 chk (0+64≤(List.length b3)) (
 chk ((List.length (List.take 64 b3))=64∧0+64≤(List.length b2)) (
 lt (xn b2 0 (List.take 64 b3)) fun r41 =>
 chk (0=0∧(List.length r41)=64∧64≠0) (
 k_fin r41)))
theorem zod {β:Type} (yd:yA) (L:Nat) (b2 b3:List V) (k:KK β):(zz 4 (zN (xj zD (yD yd L) 0 L zik) (yO 0 (CF.res zaW) k))) (.exit 4) (ziw b2 b3)=zfY yd L b2 b3 (fun p0=>k (V.agg p0) []):=by kernel_rfl
def yN {β:Type} (yd:yA) (L:Nat) (k_x2:Int→List V→List V→List V→Option β):Nat→Int→Int→Int→List V→List V→List V→Option β
 | 0,_,_,_,_,_,_=>none
 | n+1,p4,p9,p12,b1,b2,b3=>yX yd L p4 p9 p12 b1 b2 b3 (fun p4 p9 p12 b1 b2 b3=>yN yd L k_x2 n p4 p9 p12 b1 b2 b3) k_x2
theorem zfL {β:Type} (yd:yA) (L:Nat) (K:KT β):∀ (n:Nat) (p4 p9 p12:Int) (b1 b2 b3:List V),yx (xj zD (yD yd L) 0 L zaS) zb0 n (zbw p4 p9 p12 b1 b2 b3) K=yN yd L (fun p9 b1 b2 b3=>K (.exit 2) (zh5 p9 b1 b2 b3)) n p4 p9 p12 b1 b2 b3:=by
 intro n
 induction n with
 | zero=>intros; rfl
 | succ n ih =>
  intro p4 p9 p12 b1 b2 b3
  refine (zkL yd L p4 p9 p12 b1 b2 b3 (fun σ=>yx (xj zD (yD yd L) 0 L zaS) zb0 n σ K) K).trans ?_
  simp only [ih]
  rfl
def zbL {β:Type} (yd:yA) (L:Nat) (p9:Int) (b1 b2 b3:List V) (k_x0:List V→List V→Option β) (k_hbbaba:Int→List V→List V→List V→Option β):Option β :=
 ze8 yd L p9 b1 b2 b3 (fun p4 p9 p12 b1 b2 b3=>yN yd L (fun p9 b1 b2 b3=>zdf yd L p9 b1 b2 b3 k_hbbaba) L p4 p9 p12 b1 b2 b3) k_x0
theorem zo9 {β:Type} (yd:yA) (L:Nat) (p9:Int) (b1 b2 b3:List V) (X:St→Option β) (K:KT β):xj zD (yD yd L) 0 L zbM (zbj p9 b1 b2 b3) (zan zbq X K)=zbL yd L p9 b1 b2 b3 (fun b2 b3=>K (.exit 0) (zdM b2 b3)) (fun p9 b1 b2 b3=>X (zbj p9 b1 b2 b3)):=by
 refine (zp5 yd L p9 b1 b2 b3 X K).trans ?_
 unfold zbL
 first
  | (simp only [zfL,zki]; done)
  | (simp only [zfL]; rfl)
def zb6 {β:Type} (yd:yA) (L:Nat) (k_x0:List V→List V→Option β):Nat→Int→List V→List V→List V→Option β
 | 0,_,_,_,_=>none
 | n+1,p9,b1,b2,b3=>zbL yd L p9 b1 b2 b3 k_x0 (fun p9 b1 b2 b3=>zb6 yd L k_x0 n p9 b1 b2 b3)
theorem zjD {β:Type} (yd:yA) (L:Nat) (K:KT β):∀ (n:Nat) (p9:Int) (b1 b2 b3:List V),yx (xj zD (yD yd L) 0 L zbM) zbq n (zbj p9 b1 b2 b3) K=zb6 yd L (fun b2 b3=>K (.exit 0) (zdM b2 b3)) n p9 b1 b2 b3:=by
 intro n
 induction n with
 | zero=>intros; rfl
 | succ n ih =>
  intro p9 b1 b2 b3
  refine (zo9 yd L p9 b1 b2 b3 (fun σ=>yx (xj zD (yD yd L) 0 L zbM) zbq n σ K) K).trans ?_
  simp only [ih]
  rfl
def zbR {β:Type} (yd:yA) (L:Nat) (k_x4:List V→List V→Option β):Nat→Int→List V→List V→Option β
 | 0,_,_,_=>none
 | n+1,p6,b2,b3=>zbT yd L p6 b2 b3 (fun p6 b2 b3=>zbR yd L k_x4 n p6 b2 b3) k_x4
theorem zjd {β:Type} (yd:yA) (L:Nat) (K:KT β):∀ (n:Nat) (p6:Int) (b2 b3:List V),yx (xj zD (yD yd L) 0 L zct) zey n (zdh p6 b2 b3) K=zbR yd L (fun b2 b3=>K (.exit 4) (ziw b2 b3)) n p6 b2 b3:=by
 intro n
 induction n with
 | zero=>intros; rfl
 | succ n ih =>
  intro p6 b2 b3
  refine (zpc yd L p6 b2 b3 (fun σ=>yx (xj zD (yD yd L) 0 L zct) zey n σ K) K).trans ?_
  simp only [ih]
  rfl
def zdF {β:Type} (yd:yA) (L:Nat) (b2 b3:List V) (k_fin:List V→Option β):Option β :=
 zgj yd L b2 b3 (fun p6 b2 b3=>zbR yd L (fun b2 b3=>zfY yd L b2 b3 k_fin) L p6 b2 b3)
theorem zn6 {β:Type} (yd:yA) (L:Nat) (b2 b3:List V) (k:KK β):(zz 0 (zN (xj zD (yD yd L) 0 L zgd) (yO 0 (CF.res zaW) k))) (.exit 0) (zdM b2 b3)=zdF yd L b2 b3 (fun p0=>k (V.agg p0) []):=by
 refine (zo0 yd L b2 b3 k).trans ?_
 unfold zdF
 first
  | (simp only [zjd,zod]; done)
  | (simp only [zjd]; rfl)
def zi0 {β:Type} (yd:yA) (L:Nat) (p0:List V) (k_fin:List V→Option β):Option β :=
 zlX yd L p0 (fun p9 b1 b2 b3=>zb6 yd L (fun b2 b3=>zdF yd L b2 b3 k_fin) L p9 b1 b2 b3)
theorem zt5 {β:Type} (yd:yA) (L:Nat) (p0:List V) (k:KK β):yt zD (yD yd L) L zaW [(V.agg p0)] [] k=zi0 yd L p0 (fun p0=>k (V.agg p0) []):=by
 refine (zuo yd L p0 k).trans ?_
 unfold zi0
 first
  | (simp only [zjD,zn6]; done)
  | (simp only [zjD]; rfl)
abbrev zaC:=∀ (β:Type),Nat→List V→(List V→Option β)→Option β
def yo (β:Type) (L:Nat) (p0:List V) (k_fin:List V→Option β):Option β:=zi0 yd L p0 k_fin
def ziN (yo:zaC) (L:Nat) (β:Type) (args:List V) (bor:Bor) (k:KK β):Option β:=match args,bor with
 | [a0],[]=>aG a0 fun p0=>yo β L p0 (fun p0=>k (V.agg p0) [])
 | _,_=>none
theorem zum (L:Nat) (β:Type) (args:List V) (bor:Bor) (k:KK β) (r:β) (h:ziN yo L β args bor k=some r):yt zD (yD yd L) L zaW args bor k=some r:=by
 unfold ziN at h
 split at h
 ·have q:=zgy h; clear h; obtain ⟨p0,rfl,h⟩:=q
  exact (zt5 yd L p0 k).trans h
 ·cases h
def zci:CC:=(.seq (.reg [oo 36 (.bin .lss (tq 35) (.const (.sc (.int .i64 64))))])
 (.seq (.cond (tq 36)
 .skip
 (.seq (.mask (bl 16340 131) (bl 2722258935367507704976878695863201710039 131))
 (.exit 0)))
 (.seq (.block 1 (.seq (.reg [oo 37 (.move (tq 35) false),
   oo 14 (.move (tq 37) false)])
 (.seq (.dreg [] [(oo 38 (.move (tq 13) false),q0),
   (oo 39 (.move (tq 10) false),q0),
   (oo 40 (.call 535 [((tq 39),0),((.const (.sc (.int .i64 6))),0)] []),q1),
   (oo 41 (.move (tq 10) false),q0),
   (oo 42 (.call 535 [((tq 41),0),((.const (.sc (.int .i64 11))),0)] []),q1),
   (oo 43 (.bin .xor (tq 40) (tq 42)),q0),
   (oo 44 (.move (tq 10) false),q0),
   (oo 45 (.call 535 [((tq 44),0),((.const (.sc (.int .i64 25))),0)] []),q1),
   (oo 46 (.bin .xor (tq 43) (tq 45)),q0),
   (oo 47 (.bin .add (tq 38) (tq 46)),q0),
   (oo 48 (.move (tq 10) false),q0),
   (oo 49 (.move (tq 11) false),q0),
   (oo 50 (.bin .and (tq 48) (tq 49)),q0),
   (oo 51 (.move (tq 10) false),q0),
   (oo 52 (.un .xor (tq 51)),q0),
   (oo 53 (.move (tq 12) false),q0),
   (oo 54 (.bin .and (tq 52) (tq 53)),q0),
   (oo 55 (.bin .xor (tq 50) (tq 54)),q0),
   (oo 56 (.bin .add (tq 47) (tq 55)),q0),
   (oo 57 (.move (tq 14) false),q0),
   (oo 58 (.indexAddrA 64 1 (.const (.fp 64 gk_sha_k)) (tq 57)),q0),
   (oo 59 (.load false 1 (tq 58) false),q1),
   (oo 60 (.bin .add (tq 56) (tq 59)),q0),
   (oo 61 (.move (tq 14) false),q0),
   (oo 62 (.indexAddrA 64 1 (tq 5) (tq 61)),q0),
   (oo 63 (.load false 1 (tq 62) false),q1),
   (oo 64 (.bin .add (tq 60) (tq 63)),q0),
   (oo 15 (.move (tq 64) false),q0)])
 (.seq (.reg [oo 65 (.move (tq 6) false),
   oo 66 (.call 535 [((tq 65),0),((.const (.sc (.int .i64 2))),0)] []),
   oo 67 (.move (tq 6) false),
   oo 68 (.call 535 [((tq 67),0),((.const (.sc (.int .i64 13))),0)] []),
   oo 69 (.bin .xor (tq 66) (tq 68)),
   oo 70 (.move (tq 6) false),
   oo 71 (.call 535 [((tq 70),0),((.const (.sc (.int .i64 22))),0)] []),
   oo 72 (.bin .xor (tq 69) (tq 71)),
   oo 73 (.move (tq 6) false),
   oo 74 (.move (tq 7) false),
   oo 75 (.bin .and (tq 73) (tq 74)),
   oo 76 (.move (tq 6) false),
   oo 77 (.move (tq 8) false),
   oo 78 (.bin .and (tq 76) (tq 77)),
   oo 79 (.bin .xor (tq 75) (tq 78)),
   oo 80 (.move (tq 7) false),
   oo 81 (.move (tq 8) false),
   oo 82 (.bin .and (tq 80) (tq 81)),
   oo 83 (.bin .xor (tq 79) (tq 82)),
   oo 84 (.bin .add (tq 72) (tq 83)),
   oo 16 (.move (tq 84) false)])
 (.reg [oo 85 (.move (tq 15) false),
   oo 86 (.move (tq 16) false),
   oo 87 (.bin .add (tq 85) (tq 86)),
   oo 88 (.move (tq 6) false),
   oo 89 (.move (tq 7) false),
   oo 90 (.move (tq 8) false),
   oo 91 (.move (tq 9) false),
   oo 92 (.move (tq 15) false),
   oo 93 (.bin .add (tq 91) (tq 92)),
   oo 94 (.move (tq 10) false),
   oo 95 (.move (tq 11) false),
   oo 96 (.move (tq 12) false),
   oo 6 (.move (tq 87) false),
   oo 7 (.move (tq 88) false),
   oo 8 (.move (tq 89) false),
   oo 9 (.move (tq 90) false),
   oo 10 (.move (tq 93) false),
   oo 11 (.move (tq 94) false),
   oo 12 (.move (tq 95) false),
   oo 13 (.move (tq 96) false)])))))
 (.reg [oo 97 (.bin .add (tq 35) (.const (.sc (.int .i64 1)))),
   oo 35 (.move (tq 97) false)]))))
def zhm:CC:=(.seq (.reg [oo 98 (.indexAddrA 8 1 (tq 2) (.const (.sc (.int .i64 0)))),
   oo 99 (.load false 1 (tq 98) false),
   oo 100 (.move (tq 6) false),
   oo 101 (.bin .add (tq 99) (tq 100)),
   oo 102 (.indexAddrA 8 1 (tq 2) (.const (.sc (.int .i64 1)))),
   oo 103 (.load false 1 (tq 102) false),
   oo 104 (.move (tq 7) false),
   oo 105 (.bin .add (tq 103) (tq 104)),
   oo 106 (.indexAddrA 8 1 (tq 2) (.const (.sc (.int .i64 2)))),
   oo 107 (.load false 1 (tq 106) false),
   oo 108 (.move (tq 8) false),
   oo 109 (.bin .add (tq 107) (tq 108)),
   oo 110 (.indexAddrA 8 1 (tq 2) (.const (.sc (.int .i64 3)))),
   oo 111 (.load false 1 (tq 110) false),
   oo 112 (.move (tq 9) false),
   oo 113 (.bin .add (tq 111) (tq 112)),
   oo 114 (.indexAddrA 8 1 (tq 2) (.const (.sc (.int .i64 4)))),
   oo 115 (.load false 1 (tq 114) false),
   oo 116 (.move (tq 10) false),
   oo 117 (.bin .add (tq 115) (tq 116)),
   oo 118 (.indexAddrA 8 1 (tq 2) (.const (.sc (.int .i64 5)))),
   oo 119 (.load false 1 (tq 118) false),
   oo 120 (.move (tq 11) false),
   oo 121 (.bin .add (tq 119) (tq 120)),
   oo 122 (.indexAddrA 8 1 (tq 2) (.const (.sc (.int .i64 6)))),
   oo 123 (.load false 1 (tq 122) false),
   oo 124 (.move (tq 12) false),
   oo 125 (.bin .add (tq 123) (tq 124)),
   oo 126 (.indexAddrA 8 1 (tq 2) (.const (.sc (.int .i64 7)))),
   oo 127 (.load false 1 (tq 126) false),
   oo 128 (.move (tq 13) false),
   oo 129 (.bin .add (tq 127) (tq 128)),
   oo 130 (.build [(.sc (.int .u32 0)),(.sc (.int .u32 0)),(.sc (.int .u32 0)),(.sc (.int .u32 0)),(.sc (.int .u32 0)),(.sc (.int .u32 0)),(.sc (.int .u32 0)),(.sc (.int .u32 0))] [(0,1,(tq 101)),(1,1,(tq 105)),(2,1,(tq 109)),(3,1,(tq 113)),(4,1,(tq 117)),(5,1,(tq 121)),(6,1,(tq 125)),(7,1,(tq 129))]),
   oz (.store 8 (tq 4) (tq 130))])
 .ret)
def zcJ:CF:=⟨131,[.cell 4 true 8],
 (.seq (.reg [oo 2 (.box true (tq 0)),
   oo 3 (.box true (tq 1)),
   oo 4 (.alloc true [(.sc (.int .u32 0)),(.sc (.int .u32 0)),(.sc (.int .u32 0)),(.sc (.int .u32 0)),(.sc (.int .u32 0)),(.sc (.int .u32 0)),(.sc (.int .u32 0)),(.sc (.int .u32 0))])])
 (.seq (.reg [oo 17 (.load true 64 (tq 3) false),
   oo 18 (.call 534 [((tq 17),0)] []),
   oo 5 (.alloc true (rp 64 (.sc (.int .u32 0)) [])),
   oz (.store 64 (tq 5) (tq 18))])
 (.seq (.dreg [] [(oo 19 (.indexAddrA 8 1 (tq 2) (.const (.sc (.int .i64 0)))),q0),
   (oo 20 (.load false 1 (tq 19) false),qc [] []),
   (oo 21 (.indexAddrA 8 1 (tq 2) (.const (.sc (.int .i64 1)))),q0),
   (oo 22 (.load false 1 (tq 21) false),qc [] []),
   (oo 23 (.indexAddrA 8 1 (tq 2) (.const (.sc (.int .i64 2)))),q0),
   (oo 24 (.load false 1 (tq 23) false),qc [] []),
   (oo 25 (.indexAddrA 8 1 (tq 2) (.const (.sc (.int .i64 3)))),q0),
   (oo 26 (.load false 1 (tq 25) false),qc [] []),
   (oo 6 (.move (tq 20) false),q0),
   (oo 7 (.move (tq 22) false),q0),
   (oo 8 (.move (tq 24) false),q0),
   (oo 9 (.move (tq 26) false),q0)])
 (.seq (.dreg [] [(oo 27 (.indexAddrA 8 1 (tq 2) (.const (.sc (.int .i64 4)))),q0),
   (oo 28 (.load false 1 (tq 27) false),qc [] []),
   (oo 29 (.indexAddrA 8 1 (tq 2) (.const (.sc (.int .i64 5)))),q0),
   (oo 30 (.load false 1 (tq 29) false),qc [] []),
   (oo 31 (.indexAddrA 8 1 (tq 2) (.const (.sc (.int .i64 6)))),q0),
   (oo 32 (.load false 1 (tq 31) false),qc [] []),
   (oo 33 (.indexAddrA 8 1 (tq 2) (.const (.sc (.int .i64 7)))),q0),
   (oo 34 (.load false 1 (tq 33) false),qc [] []),
   (oo 10 (.move (tq 28) false),q0),
   (oo 11 (.move (tq 30) false),q0),
   (oo 12 (.move (tq 32) false),q0),
   (oo 13 (.move (tq 34) false),q0)])
 (.seq (.seq (.reg [oo 35 (.move (.const (.sc (.int .i64 0))) false)])
 (.block 0 (.loop (bl 34359754740 131) (bl 2722258935367507704976878695863201710071 131)
 zci)))
 zhm)))))⟩
def znK:Hint:=⟨[],[],[none,some ((bl 34359754740 131),(bl 2722258935367507704976878695863201710071 131)),none,some ((bl 16340 131),(bl 2722258935367507704976878695863201710039 131)),none,none],[],[],false,false⟩
def za4:Nat→Sh:=yU [(20,(.int .u32)),(22,(.int .u32)),(24,(.int .u32)),(26,(.int .u32)),(28,(.int .u32)),(30,(.int .u32)),(32,(.int .u32)),(34,(.int .u32)),(59,(.int .u32)),(63,(.int .u32)),(99,(.int .u32)),(103,(.int .u32)),(107,(.int .u32)),(111,(.int .u32)),(115,(.int .u32)),(119,(.int .u32)),(123,(.int .u32)),(127,(.int .u32))]
def zaY (yo:zaC) (yd:yA) (L:Nat):CBC:=(yE 535 (zlC yd L) (yE 534 (ziN yo L) noC))
def zd8:St→St:=y4 0 (bl 34359754740 131) (bl 2722258935367507704976878695863201710071 131)
def zc2 (p6 p7 p8 p9 p10 p11 p12 p13 p35:Int) (b2:List V) (zGa zGb zF7 zGe zGi zGj zGk zGl:Int) (b5:List V):St:=⟨(jn 2 ((V.ptr 2 0)::(jn 1 ((V.ptr 4 0)::((V.ptr 5 0)::((V.sc (.int .u32 p6))::((V.sc (.int .u32 p7))::((V.sc (.int .u32 p8))::((V.sc (.int .u32 p9))::((V.sc (.int .u32 p10))::((V.sc (.int .u32 p11))::((V.sc (.int .u32 p12))::((V.sc (.int .u32 p13))::(jn 21 ((V.sc (.int .i64 p35))::(jn 95 [])))))))))))))))),(gn 2 ((.live true b2)::(gn 1 ((.live true [(V.sc (.int .u32 zGa)),(V.sc (.int .u32 zGb)),(V.sc (.int .u32 zF7)),(V.sc (.int .u32 zGe)),(V.sc (.int .u32 zGi)),(V.sc (.int .u32 zGj)),(V.sc (.int .u32 zGk)),(V.sc (.int .u32 zGl))])::((.live true b5)::(gn 125 []))))))⟩
def zix (p6 p7 p8 p9 p10 p11 p12 p13:Int) (b2:List V) (zGa zGb zF7 zGe zGi zGj zGk zGl:Int):St:=⟨(jn 2 ((V.ptr 2 0)::(jn 1 ((V.ptr 4 0)::(jn 1 ((V.sc (.int .u32 p6))::((V.sc (.int .u32 p7))::((V.sc (.int .u32 p8))::((V.sc (.int .u32 p9))::((V.sc (.int .u32 p10))::((V.sc (.int .u32 p11))::((V.sc (.int .u32 p12))::((V.sc (.int .u32 p13))::(jn 117 [])))))))))))))),(gn 2 ((.live true b2)::(gn 1 ((.live true [(V.sc (.int .u32 zGa)),(V.sc (.int .u32 zGb)),(V.sc (.int .u32 zF7)),(V.sc (.int .u32 zGe)),(V.sc (.int .u32 zGi)),(V.sc (.int .u32 zGj)),(V.sc (.int .u32 zGk)),(V.sc (.int .u32 zGl))])::(gn 126 [])))))⟩
abbrev zfX (β:Type):Type:=Int→Int→Int→Int→Int→Int→Int→Int→Int→List V→Int→Int→Int→Int→Int→Int→Int→Int→List V→Option β
abbrev zg2 (β:Type):Type:=Int→Int→Int→Int→Int→Int→Int→Int→List V→Int→Int→Int→Int→Int→Int→Int→Int→Option β
def zmg {β:Type} (yo:zaC) (yd:yA) (L:Nat) (p0 p1:List V) (k_hbbbbaba:zfX β):Option β :=
 chk (0+64≤(List.length p1)) (
 yo β L (List.take 64 p1) (fun v0 =>
 chk ((List.length v0)=64∧0+64≤64) (
 lt (xn (List.replicate 64 (V.sc (.int .u32 (0:Int)))) 0 v0) fun r1 =>
 cI .u32 p0 0 fun v2 =>
 cI .u32 p0 1 fun v3 =>
 cI .u32 p0 2 fun v4 =>
 cI .u32 p0 3 fun v5 =>
 cI .u32 p0 4 fun v6 =>
 cI .u32 p0 5 fun v7 =>
 cI .u32 p0 6 fun v8 =>
 cI .u32 p0 7 fun v9 =>
 k_hbbbbaba v2 v3 v4 v5 v6 v7 v8 v9 (0:Int) p0 (0:Int) (0:Int) (0:Int) (0:Int) (0:Int) (0:Int) (0:Int) (0:Int) r1)))
theorem ztX {β:Type} (yo:zaC) (yd:yA) (L:Nat) (p0 p1:List V) (k:KK β):yt za4 (zaY yo yd L) L zcJ [(V.agg p0),(V.agg p1)] [] k=zmg yo yd L p0 p1 (fun p6 p7 p8 p9 p10 p11 p12 p13 p35 b2 zGa zGb zF7 zGe zGi zGj zGk zGl b5=>yx (xj za4 (zaY yo yd L) 0 L zci) zd8 L (zc2 p6 p7 p8 p9 p10 p11 p12 p13 p35 b2 zGa zGb zF7 zGe zGi zGj zGk zGl b5) (zz 0 (zN (xj za4 (zaY yo yd L) 0 L zhm) (yO 0 (CF.res zcJ) k)))):=by kernel_rfl
def zcv {β:Type} (yo:zaC) (yd:yA) (L:Nat) (p6 p7 p8 p9 p10 p11 p12 p13 p35:Int) (b2:List V) (zGa zGb zF7 zGe zGi zGj zGk zGl:Int) (b5:List V) (k_hbbbbaba:zfX β) (k_x0:zg2 β):Option β :=
 ifb (decide (p35 < (64:Int))) (
 yd β L p10 (6:Int) (fun v10 =>
 yd β L p10 (11:Int) (fun v11 =>
 lt (zbW .u32 v10 v11) fun x12 =>
 yd β L p10 (25:Int) (fun v13 =>
 lt (zbW .u32 x12 v13) fun x14 =>
 lt (IntKind.wrap .u32 ((p13:Int)+x14)) fun x15 =>
 lt (zfT .u32 p10 p11) fun x16 =>
 lt (zDi .u32 p10) fun x17 =>
 lt (zfT .u32 x17 p12) fun x18 =>
 lt (zbW .u32 x16 x18) fun x19 =>
 lt (IntKind.wrap .u32 ((x15:Int)+x19)) fun x20 =>
 chk (0≤p35∧p35 < ((64:Nat):Int)) (
 cI .u32 (List.drop ((Int.toNat p35) * 1) gk_sha_k) 0 fun v21 =>
 lt (IntKind.wrap .u32 ((x20:Int)+v21)) fun x22 =>
 chk (0≤p35∧p35 < ((64:Nat):Int)) (
 cI .u32 b5 (0+((Int.toNat p35) * 1)) fun v23 =>
 lt (IntKind.wrap .u32 ((x22:Int)+v23)) fun x24 =>
 yd β L p6 (2:Int) (fun v25 =>
 yd β L p6 (13:Int) (fun v26 =>
 lt (zbW .u32 v25 v26) fun x27 =>
 yd β L p6 (22:Int) (fun v28 =>
 lt (zbW .u32 x27 v28) fun x29 =>
 lt (zfT .u32 p6 p7) fun x30 =>
 lt (zfT .u32 p6 p8) fun x31 =>
 lt (zbW .u32 x30 x31) fun x32 =>
 lt (zfT .u32 p7 p8) fun x33 =>
 lt (zbW .u32 x32 x33) fun x34 =>
 lt (IntKind.wrap .u32 ((x29:Int)+x34)) fun x35 =>
 lt (IntKind.wrap .u32 ((x24:Int)+x35)) fun x36 =>
 lt (IntKind.wrap .u32 ((p9:Int)+x24)) fun x37 =>
 lt (IntKind.wrap .i64 ((p35:Int)+(1:Int))) fun x38 =>
 k_hbbbbaba x36 p6 p7 p8 x37 p10 p11 p12 x38 b2 zGa zGb zF7 zGe zGi zGj zGk zGl b5))))))))) (
 k_x0 p6 p7 p8 p9 p10 p11 p12 p13 b2 zGa zGb zF7 zGe zGi zGj zGk zGl)
theorem zos {β:Type} (yo:zaC) (yd:yA) (L:Nat) (p6 p7 p8 p9 p10 p11 p12 p13 p35:Int) (b2:List V) (zGa zGb zF7 zGe zGi zGj zGk zGl:Int) (b5:List V) (X:St→Option β) (K:KT β):xj za4 (zaY yo yd L) 0 L zci (zc2 p6 p7 p8 p9 p10 p11 p12 p13 p35 b2 zGa zGb zF7 zGe zGi zGj zGk zGl b5) (zan zd8 X K)=zcv yo yd L p6 p7 p8 p9 p10 p11 p12 p13 p35 b2 zGa zGb zF7 zGe zGi zGj zGk zGl b5 (fun p6 p7 p8 p9 p10 p11 p12 p13 p35 b2 zGa zGb zF7 zGe zGi zGj zGk zGl b5=>X (zc2 p6 p7 p8 p9 p10 p11 p12 p13 p35 b2 zGa zGb zF7 zGe zGi zGj zGk zGl b5)) (fun p6 p7 p8 p9 p10 p11 p12 p13 b2 zGa zGb zF7 zGe zGi zGj zGk zGl=>K (.exit 0) (zix p6 p7 p8 p9 p10 p11 p12 p13 b2 zGa zGb zF7 zGe zGi zGj zGk zGl)):=by kernel_rfl
def zdg {β:Type} (yo:zaC) (yd:yA) (L:Nat) (p6 p7 p8 p9 p10 p11 p12 p13:Int) (b2:List V) (zGa zGb zF7 zGe zGi zGj zGk zGl:Int) (k_fin:List V→Option β):Option β :=
 cI .u32 b2 0 fun v39 =>
 lt (IntKind.wrap .u32 ((v39:Int)+p6)) fun x40 =>
 cI .u32 b2 1 fun v41 =>
 lt (IntKind.wrap .u32 ((v41:Int)+p7)) fun x42 =>
 cI .u32 b2 2 fun v43 =>
 lt (IntKind.wrap .u32 ((v43:Int)+p8)) fun x44 =>
 cI .u32 b2 3 fun v45 =>
 lt (IntKind.wrap .u32 ((v45:Int)+p9)) fun x46 =>
 cI .u32 b2 4 fun v47 =>
 lt (IntKind.wrap .u32 ((v47:Int)+p10)) fun x48 =>
 cI .u32 b2 5 fun v49 =>
 lt (IntKind.wrap .u32 ((v49:Int)+p11)) fun x50 =>
 cI .u32 b2 6 fun v51 =>
 lt (IntKind.wrap .u32 ((v51:Int)+p12)) fun x52 =>
 cI .u32 b2 7 fun v53 =>
 lt (IntKind.wrap .u32 ((v53:Int)+p13)) fun x54 =>
 lt [(V.sc (.int .u32 x40)),(V.sc (.int .u32 x42)),(V.sc (.int .u32 x44)),(V.sc (.int .u32 x46)),(V.sc (.int .u32 x48)),(V.sc (.int .u32 x50)),(V.sc (.int .u32 x52)),(V.sc (.int .u32 x54))] fun r55 =>
 chk (0=0∧(List.length r55)=8∧8≠0) (
 k_fin r55)
theorem znq {β:Type} (yo:zaC) (yd:yA) (L:Nat) (p6 p7 p8 p9 p10 p11 p12 p13:Int) (b2:List V) (zGa zGb zF7 zGe zGi zGj zGk zGl:Int) (k:KK β):(zz 0 (zN (xj za4 (zaY yo yd L) 0 L zhm) (yO 0 (CF.res zcJ) k))) (.exit 0) (zix p6 p7 p8 p9 p10 p11 p12 p13 b2 zGa zGb zF7 zGe zGi zGj zGk zGl)=zdg yo yd L p6 p7 p8 p9 p10 p11 p12 p13 b2 zGa zGb zF7 zGe zGi zGj zGk zGl (fun p0=>k (V.agg p0) []):=by kernel_rfl
def zbz {β:Type} (yo:zaC) (yd:yA) (L:Nat) (k_x0:zg2 β):Nat→Int→Int→Int→Int→Int→Int→Int→Int→Int→List V→Int→Int→Int→Int→Int→Int→Int→Int→List V→Option β
 | 0,_,_,_,_,_,_,_,_,_,_,_,_,_,_,_,_,_,_,_=>none
 | n+1,p6,p7,p8,p9,p10,p11,p12,p13,p35,b2,zGa,zGb,zF7,zGe,zGi,zGj,zGk,zGl,b5=>zcv yo yd L p6 p7 p8 p9 p10 p11 p12 p13 p35 b2 zGa zGb zF7 zGe zGi zGj zGk zGl b5 (fun p6 p7 p8 p9 p10 p11 p12 p13 p35 b2 zGa zGb zF7 zGe zGi zGj zGk zGl b5=>zbz yo yd L k_x0 n p6 p7 p8 p9 p10 p11 p12 p13 p35 b2 zGa zGb zF7 zGe zGi zGj zGk zGl b5) k_x0
theorem zil {β:Type} (yo:zaC) (yd:yA) (L:Nat) (K:KT β):∀ (n:Nat) (p6 p7 p8 p9 p10 p11 p12 p13 p35:Int) (b2:List V) (zGa zGb zF7 zGe zGi zGj zGk zGl:Int) (b5:List V),yx (xj za4 (zaY yo yd L) 0 L zci) zd8 n (zc2 p6 p7 p8 p9 p10 p11 p12 p13 p35 b2 zGa zGb zF7 zGe zGi zGj zGk zGl b5) K=zbz yo yd L (fun p6 p7 p8 p9 p10 p11 p12 p13 b2 zGa zGb zF7 zGe zGi zGj zGk zGl=>K (.exit 0) (zix p6 p7 p8 p9 p10 p11 p12 p13 b2 zGa zGb zF7 zGe zGi zGj zGk zGl)) n p6 p7 p8 p9 p10 p11 p12 p13 p35 b2 zGa zGb zF7 zGe zGi zGj zGk zGl b5:=by
 intro n
 induction n with
 | zero=>intros; rfl
 | succ n ih =>
  intro p6 p7 p8 p9 p10 p11 p12 p13 p35 b2 zGa zGb zF7 zGe zGi zGj zGk zGl b5
  refine (zos yo yd L p6 p7 p8 p9 p10 p11 p12 p13 p35 b2 zGa zGb zF7 zGe zGi zGj zGk zGl b5 (fun σ=>yx (xj za4 (zaY yo yd L) 0 L zci) zd8 n σ K) K).trans ?_
  simp only [ih]
  rfl
def zi4 {β:Type} (yo:zaC) (yd:yA) (L:Nat) (p0 p1:List V) (k_fin:List V→Option β):Option β :=
 zmg yo yd L p0 p1 (fun p6 p7 p8 p9 p10 p11 p12 p13 p35 b2 zGa zGb zF7 zGe zGi zGj zGk zGl b5=>zbz yo yd L (fun p6 p7 p8 p9 p10 p11 p12 p13 b2 zGa zGb zF7 zGe zGi zGj zGk zGl=>zdg yo yd L p6 p7 p8 p9 p10 p11 p12 p13 b2 zGa zGb zF7 zGe zGi zGj zGk zGl k_fin) L p6 p7 p8 p9 p10 p11 p12 p13 p35 b2 zGa zGb zF7 zGe zGi zGj zGk zGl b5)
theorem zt1 {β:Type} (yo:zaC) (yd:yA) (L:Nat) (p0 p1:List V) (k:KK β):yt za4 (zaY yo yd L) L zcJ [(V.agg p0),(V.agg p1)] [] k=zi4 yo yd L p0 p1 (fun p0=>k (V.agg p0) []):=by
 refine (ztX yo yd L p0 p1 k).trans ?_
 unfold zi4
 first
  | (simp only [zil,znq]; done)
  | (simp only [zil]; rfl)
abbrev yK:=∀ (β:Type),Nat→List V→List V→(List V→Option β)→Option β
def yg (β:Type) (L:Nat) (p0 p1:List V) (k_fin:List V→Option β):Option β:=zi4 yo yd L p0 p1 k_fin
def zi8 (yg:yK) (L:Nat) (β:Type) (args:List V) (bor:Bor) (k:KK β):Option β:=match args,bor with
 | [a0,a1],[]=>aG a0 fun p0=>aG a1 fun p1=>yg β L p0 p1 (fun p0=>k (V.agg p0) [])
 | _,_=>none
theorem zub (L:Nat) (β:Type) (args:List V) (bor:Bor) (k:KK β) (r:β) (h:zi8 yg L β args bor k=some r):yt za4 (zaY yo yd L) L zcJ args bor k=some r:=by
 unfold zi8 at h
 split at h
 ·have q:=zgy h; clear h; obtain ⟨p0,rfl,h⟩:=q
  have q:=zgy h; clear h; obtain ⟨p1,rfl,h⟩:=q
  exact (zt1 yo yd L p0 p1 k).trans h
 ·cases h
def zdS:CC:=(.seq (.reg [oo 32 (.bin .lss (tq 31) (.const (.sc (.int .i64 32))))])
 (.seq (.cond (tq 32)
 .skip
 (.seq (.mask (bl 68 48) (bl 281474976710511 48))
 (.exit 2)))
 (.seq (.block 3 (.seq (.reg [oo 33 (.move (tq 31) false),
   oo 7 (.move (tq 33) false)])
 (.reg [oo 34 (.move (tq 7) false),
   oo 35 (.move (tq 7) false),
   oo 36 (.bin .quo (tq 35) (.const (.sc (.int .i64 4)))),
   oo 37 (.indexAddrA 8 1 (tq 4) (tq 36)),
   oo 38 (.load false 1 (tq 37) false),
   oo 39 (.move (tq 7) false),
   oo 40 (.bin .rem (tq 39) (.const (.sc (.int .i64 4)))),
   oo 41 (.bin .mul (tq 40) (.const (.sc (.int .i64 8)))),
   oo 42 (.bin .sub (.const (.sc (.int .i64 24))) (tq 41)),
   oo 43 (.bin .shr (tq 38) (tq 42)),
   oo 44 (.conv .u8 (tq 43)),
   oo 45 (.indexAddrA 32 1 (tq 6) (tq 34)),
   oz (.store 1 (tq 45) (tq 44))])))
 (.reg [oo 46 (.bin .add (tq 31) (.const (.sc (.int .i64 1)))),
   oo 31 (.move (tq 46) false)]))))
def zeT:CC:=(.seq (.reg [oo 20 (.bin .lss (tq 19) (tq 18))])
 (.seq (.cond (tq 20)
 .skip
 (.seq (.mask (bl 20 48) (bl 281474439839647 48))
 (.exit 0)))
 (.seq (.block 1 (.seq (.reg [oo 21 (.move (tq 19) false),
   oo 5 (.move (tq 21) false)])
 (.dreg [] [(oo 22 (.load true 8 (tq 4) false),ql 4 [] []),
   (oo 23 (.move (tq 3) false),q0),
   (oo 24 (.move (tq 5) false),q0),
   (oo 25 (.bin .mul (.const (.sc (.int .i64 64))) (tq 24)),q0),
   (oo 26 (.sliceS 1 (tq 23) (some (tq 25)) none none),q0),
   (oo 27 (.arrP 64 1 (tq 26)),q0),
   (oo 28 (.load true 64 (tq 27) false),qc [4] []),
   (oo 29 (.call 498 [((tq 22),0),((tq 28),0)] []),q0),
   (oz (.store 8 (tq 4) (tq 29)),q0)])))
 (.reg [oo 30 (.bin .add (tq 19) (.const (.sc (.int .i64 1)))),
   oo 19 (.move (tq 30) false)]))))
def zlB:CC:=(.seq (.reg [oo 47 (.load true 32 (tq 6) false),
   oz (.store 32 (tq 2) (tq 47))])
 .ret)
def zjY:CC:=(.seq (.reg [oo 6 (.alloc true (rp 32 (.sc (.int .u8 0)) []))])
 (.seq (.seq (.reg [oo 31 (.move (.const (.sc (.int .i64 0))) false)])
 (.block 2 (.loop (bl 2147483732 48) (bl 281474976710527 48)
 zdS)))
 zlB))
def zdJ:CF:=⟨48,[.cell 2 true 32],
 (.seq (.reg [oo 2 (.alloc true (rp 32 (.sc (.int .u8 0)) []))])
 (.seq (.reg [oo 8 (.move (tq 0) false),
   oo 9 (.move (tq 0) false),
   oo 10 (.lenS (tq 9)),
   oo 11 (.conv .u64 (tq 10)),
   oo 12 (.call 497 [((tq 11),0)] []),
   oo 13 (.buildSlice 1 2 [(.sl 1 [])] [(0,1,(tq 8)),(1,1,(tq 12))]),
   oo 14 (.call 496 [((tq 13),0)] []),
   oo 3 (.move (tq 14) true)])
 (.seq (.reg [oo 15 (.load true 8 (.const (.fp 8 gk_sha_initial)) false),
   oo 4 (.alloc true [(.sc (.int .u32 0)),(.sc (.int .u32 0)),(.sc (.int .u32 0)),(.sc (.int .u32 0)),(.sc (.int .u32 0)),(.sc (.int .u32 0)),(.sc (.int .u32 0)),(.sc (.int .u32 0))]),
   oz (.store 8 (tq 4) (tq 15))])
 (.seq (.seq (.reg [oo 16 (.move (tq 3) false),
   oo 17 (.lenS (tq 16)),
   oo 18 (.bin .quo (tq 17) (.const (.sc (.int .i64 64)))),
   oo 19 (.move (.const (.sc (.int .i64 0))) false)])
 (.block 0 (.loop (bl 786460 48) (bl 281474439839647 48)
 zeT)))
 zjY))))⟩
def ztx:Hint:=⟨[(1,7)],[],[none,some ((bl 786460 48),(bl 281474439839647 48)),none,some ((bl 20 48),(bl 281474439839647 48)),none,none,some ((bl 2147483732 48),(bl 281474976710527 48)),none,some ((bl 68 48),(bl 281474976710511 48)),none,none],[],[],false,false⟩
def zaH:Nat→Sh:=yU [(38,(.int .u32))]
def zaG (zo:zas) (yn:zar) (yg:yK) (L:Nat):CBC:=(yE 498 (zi8 yg L) (yE 496 (zpf yn L) (yE 497 (zpk zo L) noC)))
def zhE:St→St:=y4 0 (bl 786460 48) (bl 281474439839647 48)
def zf9:St→St:=y4 0 (bl 2147483732 48) (bl 281474976710527 48)
def zfK (p3:List (List V)) (p18 p19:Int) (b2 b4:List V):St:=⟨(jn 2 ((V.ptr 2 0)::((V.gs 1 p3)::((V.ptr 4 0)::(jn 13 ((V.sc (.int .i64 p18))::((V.sc (.int .i64 p19))::(jn 28 [])))))))),(gn 2 ((.live true b2)::(gn 1 ((.live true b4)::(gn 43 [])))))⟩
def zj6 (b2 b4:List V):St:=⟨(jn 2 ((V.ptr 2 0)::(jn 1 ((V.ptr 4 0)::(jn 43 []))))),(gn 2 ((.live true b2)::(gn 1 ((.live true b4)::(gn 43 [])))))⟩
def zeA (p31:Int) (b2 b4 b6:List V):St:=⟨(jn 2 ((V.ptr 2 0)::(jn 1 ((V.ptr 4 0)::(jn 1 ((V.ptr 6 0)::(jn 24 ((V.sc (.int .i64 p31))::(jn 16 []))))))))),(gn 2 ((.live true b2)::(gn 1 ((.live true b4)::(gn 1 ((.live true b6)::(gn 41 [])))))))⟩
def znd (b2 b6:List V):St:=⟨(jn 2 ((V.ptr 2 0)::(jn 3 ((V.ptr 6 0)::(jn 41 []))))),(gn 2 ((.live true b2)::(gn 3 ((.live true b6)::(gn 41 [])))))⟩
def ztt {β:Type} (zo:zas) (yn:zar) (yg:yK) (L:Nat) (p0:List (List V)) (k_hbbbaba:List (List V)→Int→Int→List V→List V→Option β):Option β :=
 lt (IntKind.wrap .u64 ((List.length p0:Nat):Int)) fun x0 =>
 zo β L x0 (fun v1 =>
 yn β L (yh 1 2 [(V.sl 1 p0),(V.sl 1 v1)]) (fun v2 =>
 chk ((List.length (List.take 8 gk_sha_initial))=8∧0+8≤8) (
 lt (xn [(V.sc (.int .u32 (0:Int))),(V.sc (.int .u32 (0:Int))),(V.sc (.int .u32 (0:Int))),(V.sc (.int .u32 (0:Int))),(V.sc (.int .u32 (0:Int))),(V.sc (.int .u32 (0:Int))),(V.sc (.int .u32 (0:Int))),(V.sc (.int .u32 (0:Int)))] 0 (List.take 8 gk_sha_initial)) fun r3 =>
 lt (IntKind.wrap .i64 (Int.tdiv ((List.length v2:Nat):Int) (64:Int))) fun x4 =>
 k_hbbbaba v2 x4 (0:Int) (List.replicate 32 (V.sc (.int .u8 (0:Int)))) r3))) (fun v5 =>
 yn β L (yh 1 2 [(V.sl 1 p0),(V.sl 1 v5)]) (fun v6 =>
 chk ((List.length (List.take 8 gk_sha_initial))=8∧0+8≤8) (
 lt (xn [(V.sc (.int .u32 (0:Int))),(V.sc (.int .u32 (0:Int))),(V.sc (.int .u32 (0:Int))),(V.sc (.int .u32 (0:Int))),(V.sc (.int .u32 (0:Int))),(V.sc (.int .u32 (0:Int))),(V.sc (.int .u32 (0:Int))),(V.sc (.int .u32 (0:Int)))] 0 (List.take 8 gk_sha_initial)) fun r7 =>
 lt (IntKind.wrap .i64 (Int.tdiv ((List.length v6:Nat):Int) (64:Int))) fun x8 =>
 k_hbbbaba v6 x8 (0:Int) (List.replicate 32 (V.sc (.int .u8 (0:Int)))) r7)))
theorem zzP {β:Type} (zo:zas) (yn:zar) (yg:yK) (L:Nat) (p0:List (List V)) (k:KK β):yt zaH (zaG zo yn yg L) L zdJ [(V.sl 1 p0)] [] k=ztt zo yn yg L p0 (fun p3 p18 p19 b2 b4=>yx (xj zaH (zaG zo yn yg L) 0 L zeT) zhE L (zfK p3 p18 p19 b2 b4) (zz 0 (zN (xj zaH (zaG zo yn yg L) 0 L zjY) (yO 0 (CF.res zdJ) k)))):=by kernel_rfl
def zfs {β:Type} (zo:zas) (yn:zar) (yg:yK) (L:Nat) (p3:List (List V)) (p18 p19:Int) (b2 b4:List V) (k_hbbbaba:List (List V)→Int→Int→List V→List V→Option β) (k_x0:List V→List V→Option β):Option β :=
 ifb (decide (p19 < p18)) (
 chk (0+8≤(List.length b4)) (
 lt (IntKind.wrap .i64 (((64:Int):Int) * p19)) fun x9 =>
 chk (0≤x9∧x9≤(((List.length p3):Nat):Int)) (
 chk (64≤(List.length (List.take ((List.length p3) - (Int.toNat x9)) (List.drop (Int.toNat x9) p3)))) (
 yg β L (List.take 8 b4) (List.take 64 (List.flatten (List.take 64 (List.take ((List.length p3) - (Int.toNat x9)) (List.drop (Int.toNat x9) p3))))) (fun v10 =>
 chk ((List.length v10)=8∧0+8≤(List.length b4)) (
 lt (xn b4 0 v10) fun r11 =>
 lt (IntKind.wrap .i64 ((p19:Int)+(1:Int))) fun x12 =>
 k_hbbbaba p3 p18 x12 b2 r11)))))) (
 k_x0 b2 b4)
theorem zsL {β:Type} (zo:zas) (yn:zar) (yg:yK) (L:Nat) (p3:List (List V)) (p18 p19:Int) (b2 b4:List V) (X:St→Option β) (K:KT β):xj zaH (zaG zo yn yg L) 0 L zeT (zfK p3 p18 p19 b2 b4) (zan zhE X K)=zfs zo yn yg L p3 p18 p19 b2 b4 (fun p3 p18 p19 b2 b4=>X (zfK p3 p18 p19 b2 b4)) (fun b2 b4=>K (.exit 0) (zj6 b2 b4)):=by kernel_rfl
def zjo {β:Type} (zo:zas) (yn:zar) (yg:yK) (L:Nat) (b2 b4:List V) (k_hbbbbbaba:Int→List V→List V→List V→Option β):Option β :=
 k_hbbbbbaba (0:Int) b2 b4 (List.replicate 32 (V.sc (.int .u8 (0:Int))))
theorem zra {β:Type} (zo:zas) (yn:zar) (yg:yK) (L:Nat) (b2 b4:List V) (k:KK β):(zz 0 (zN (xj zaH (zaG zo yn yg L) 0 L zjY) (yO 0 (CF.res zdJ) k))) (.exit 0) (zj6 b2 b4)=zjo zo yn yg L b2 b4 (fun p31 b2 b4 b6=>yx (xj zaH (zaG zo yn yg L) 0 L zdS) zf9 L (zeA p31 b2 b4 b6) (zz 2 (zN (xj zaH (zaG zo yn yg L) 0 L zlB) (yO 0 (CF.res zdJ) k)))):=by kernel_rfl
def zew {β:Type} (zo:zas) (yn:zar) (yg:yK) (L:Nat) (p31:Int) (b2 b4 b6:List V) (k_hbbbbbaba:Int→List V→List V→List V→Option β) (k_x2:List V→List V→Option β):Option β :=
 ifb (decide (p31 < (32:Int))) (
 lt (IntKind.wrap .i64 (Int.tdiv p31 (4:Int))) fun x13 =>
 chk (0≤x13∧x13 < ((8:Nat):Int)) (
 cI .u32 b4 (0+((Int.toNat x13) * 1)) fun v14 =>
 lt (Int.tmod p31 (4:Int)) fun x15 =>
 lt (IntKind.wrap .i64 ((x15:Int) * (8:Int))) fun x16 =>
 lt (IntKind.wrap .i64 (((24:Int):Int) - x16)) fun x17 =>
 chk (0≤x17) (
 lt (zb9 .u32 v14 x17) fun x18 =>
 lt (IntKind.wrap .u8 x18) fun x19 =>
 chk (0≤p31∧p31 < ((32:Nat):Int)) (
 chk (1=1∧(0+((Int.toNat p31) * 1))+1≤(List.length b6)) (
 lt (xn b6 (0+((Int.toNat p31) * 1)) [(V.sc (.int .u8 x19))]) fun r20 =>
 lt (IntKind.wrap .i64 ((p31:Int)+(1:Int))) fun x21 =>
 k_hbbbbbaba x21 b2 b4 r20))))) (
 k_x2 b2 b6)
theorem zre {β:Type} (zo:zas) (yn:zar) (yg:yK) (L:Nat) (p31:Int) (b2 b4 b6:List V) (X:St→Option β) (K:KT β):xj zaH (zaG zo yn yg L) 0 L zdS (zeA p31 b2 b4 b6) (zan zf9 X K)=zew zo yn yg L p31 b2 b4 b6 (fun p31 b2 b4 b6=>X (zeA p31 b2 b4 b6)) (fun b2 b6=>K (.exit 2) (znd b2 b6)):=by kernel_rfl
def zho {β:Type} (zo:zas) (yn:zar) (yg:yK) (L:Nat) (b2 b6:List V) (k_fin:List V→Option β):Option β :=
 chk (0+32≤(List.length b6)) (
 chk ((List.length (List.take 32 b6))=32∧0+32≤(List.length b2)) (
 lt (xn b2 0 (List.take 32 b6)) fun r22 =>
 chk (0=0∧(List.length r22)=32∧32≠0) (
 k_fin r22)))
theorem zqj {β:Type} (zo:zas) (yn:zar) (yg:yK) (L:Nat) (b2 b6:List V) (k:KK β):(zz 2 (zN (xj zaH (zaG zo yn yg L) 0 L zlB) (yO 0 (CF.res zdJ) k))) (.exit 2) (znd b2 b6)=zho zo yn yg L b2 b6 (fun p0=>k (V.agg p0) []):=by kernel_rfl
def zd2 {β:Type} (zo:zas) (yn:zar) (yg:yK) (L:Nat) (k_x0:List V→List V→Option β):Nat→List (List V)→Int→Int→List V→List V→Option β
 | 0,_,_,_,_,_=>none
 | n+1,p3,p18,p19,b2,b4=>zfs zo yn yg L p3 p18 p19 b2 b4 (fun p3 p18 p19 b2 b4=>zd2 zo yn yg L k_x0 n p3 p18 p19 b2 b4) k_x0
theorem zm2 {β:Type} (zo:zas) (yn:zar) (yg:yK) (L:Nat) (K:KT β):∀ (n:Nat) (p3:List (List V)) (p18 p19:Int) (b2 b4:List V),yx (xj zaH (zaG zo yn yg L) 0 L zeT) zhE n (zfK p3 p18 p19 b2 b4) K=zd2 zo yn yg L (fun b2 b4=>K (.exit 0) (zj6 b2 b4)) n p3 p18 p19 b2 b4:=by
 intro n
 induction n with
 | zero=>intros; rfl
 | succ n ih =>
  intro p3 p18 p19 b2 b4
  refine (zsL zo yn yg L p3 p18 p19 b2 b4 (fun σ=>yx (xj zaH (zaG zo yn yg L) 0 L zeT) zhE n σ K) K).trans ?_
  simp only [ih]
  rfl
def zc7 {β:Type} (zo:zas) (yn:zar) (yg:yK) (L:Nat) (k_x2:List V→List V→Option β):Nat→Int→List V→List V→List V→Option β
 | 0,_,_,_,_=>none
 | n+1,p31,b2,b4,b6=>zew zo yn yg L p31 b2 b4 b6 (fun p31 b2 b4 b6=>zc7 zo yn yg L k_x2 n p31 b2 b4 b6) k_x2
theorem zk6 {β:Type} (zo:zas) (yn:zar) (yg:yK) (L:Nat) (K:KT β):∀ (n:Nat) (p31:Int) (b2 b4 b6:List V),yx (xj zaH (zaG zo yn yg L) 0 L zdS) zf9 n (zeA p31 b2 b4 b6) K=zc7 zo yn yg L (fun b2 b6=>K (.exit 2) (znd b2 b6)) n p31 b2 b4 b6:=by
 intro n
 induction n with
 | zero=>intros; rfl
 | succ n ih =>
  intro p31 b2 b4 b6
  refine (zre zo yn yg L p31 b2 b4 b6 (fun σ=>yx (xj zaH (zaG zo yn yg L) 0 L zdS) zf9 n σ K) K).trans ?_
  simp only [ih]
  rfl
def zfD {β:Type} (zo:zas) (yn:zar) (yg:yK) (L:Nat) (b2 b4:List V) (k_fin:List V→Option β):Option β :=
 zjo zo yn yg L b2 b4 (fun p31 b2 b4 b6=>zc7 zo yn yg L (fun b2 b6=>zho zo yn yg L b2 b6 k_fin) L p31 b2 b4 b6)
theorem zq1 {β:Type} (zo:zas) (yn:zar) (yg:yK) (L:Nat) (b2 b4:List V) (k:KK β):(zz 0 (zN (xj zaH (zaG zo yn yg L) 0 L zjY) (yO 0 (CF.res zdJ) k))) (.exit 0) (zj6 b2 b4)=zfD zo yn yg L b2 b4 (fun p0=>k (V.agg p0) []):=by
 refine (zra zo yn yg L b2 b4 k).trans ?_
 unfold zfD
 first
  | (simp only [zk6,zqj]; done)
  | (simp only [zk6]; rfl)
def zpL {β:Type} (zo:zas) (yn:zar) (yg:yK) (L:Nat) (p0:List (List V)) (k_fin:List V→Option β):Option β :=
 ztt zo yn yg L p0 (fun p3 p18 p19 b2 b4=>zd2 zo yn yg L (fun b2 b4=>zfD zo yn yg L b2 b4 k_fin) L p3 p18 p19 b2 b4)
theorem zy6 {β:Type} (zo:zas) (yn:zar) (yg:yK) (L:Nat) (p0:List (List V)) (k:KK β):yt zaH (zaG zo yn yg L) L zdJ [(V.sl 1 p0)] [] k=zpL zo yn yg L p0 (fun p0=>k (V.agg p0) []):=by
 refine (zzP zo yn yg L p0 k).trans ?_
 unfold zpL
 first
  | (simp only [zm2,zq1]; done)
  | (simp only [zm2]; rfl)
abbrev zpE:=∀ (β:Type),Nat→List (List V)→(List V→Option β)→Option β
def za8 (β:Type) (L:Nat) (p0:List (List V)) (k_fin:List V→Option β):Option β:=zpL zo yn yg L p0 k_fin
def zpt (za8:zpE) (L:Nat) (β:Type) (args:List V) (bor:Bor) (k:KK β):Option β:=match args,bor with
 | [a0],[]=>aL 1 a0 fun p0=>za8 β L p0 (fun p0=>k (V.agg p0) [])
 | _,_=>none
theorem zzI (L:Nat) (β:Type) (args:List V) (bor:Bor) (k:KK β) (r:β) (h:zpt za8 L β args bor k=some r):yt zaH (zaG zo yn yg L) L zdJ args bor k=some r:=by
 unfold zpt at h
 split at h
 ·have q:=yP h; clear h; obtain ⟨p0,rfl,h⟩:=q
  exact (zy6 zo yn yg L p0 k).trans h
 ·cases h
def zgR:CF:=⟨14,[.cell 4 true 4],
 (.seq (.reg [oo 2 (.box true (tq 0)),
   oo 4 (.alloc true [(.sc (.int .u8 0)),(.sc (.int .u8 0)),(.sc (.int .u8 0)),(.sc (.int .u8 0))])])
 (.seq (.dreg [2] [(oo 6 (.sliceA 4 1 (tq 2) none none none),q0),
   (oo 7 (.move (tq 1) false),q0),
   (oo 8 (.buildSlice 1 2 [(.sl 1 [])] [(0,1,(tq 6)),(1,1,(tq 7))]),q0),
   (oo 9 (.call 435 [((tq 8),0)] []),q0),
   (oo 10 (.call 458 [((tq 9),0)] []),q0),
   (oo 5 (.alloc true (rp 32 (.sc (.int .u8 0)) [])),q0),
   (oz (.store 32 (tq 5) (tq 10)),q0)])
 (.seq (.reg [oo 11 (.sliceA 32 1 (tq 5) none (some (.const (.sc (.int .i64 4)))) none),
   oo 12 (.arrP 4 1 (tq 11)),
   oo 13 (.load true 4 (tq 12) false),
   oz (.store 4 (tq 4) (tq 13))])
 .ret)))⟩
def zmR:Hint:=⟨[],[],[none],[(1,[2])],[],false,false⟩
def zj9:Nat→Sh:=yU []
def zkh (yl:y9) (za8:zpE) (L:Nat):CBC:=(yE 458 (zpt za8 L) (yE 435 (zbf yl L) noC))
def zly {β:Type} (yl:y9) (za8:zpE) (L:Nat) (p0:List V) (p1:List (List V)) (k_fin:List V→Option β):Option β :=
 chk ((List.length p0)≠0) (
 chk (0+4 * 1≤(List.length p0)) (
 yl β L (yh 1 2 [(V.sl 1 (yh 1 4 p0)),(V.sl 1 p1)]) (fun v0 =>
 za8 β L v0 (fun v1 =>
 chk ((List.length v1)=32∧0+32≤32) (
 lt (xn (List.replicate 32 (V.sc (.int .u8 (0:Int)))) 0 v1) fun r2 =>
 chk (0+32 * 1≤(List.length r2)) (
 chk (0+4≤(List.length r2)) (
 chk ((List.length (List.take 4 r2))=4∧0+4≤4) (
 lt (xn [(V.sc (.int .u8 (0:Int))),(V.sc (.int .u8 (0:Int))),(V.sc (.int .u8 (0:Int))),(V.sc (.int .u8 (0:Int)))] 0 (List.take 4 r2)) fun r3 =>
 chk (0=0∧(List.length r3)=4∧4≠0) (
 k_fin r3)))))))))
theorem zs1 {β:Type} (yl:y9) (za8:zpE) (L:Nat) (p0:List V) (p1:List (List V)) (k:KK β):yt zj9 (zkh yl za8 L) L zgR [(V.agg p0),(V.sl 1 p1)] [] k=zly yl za8 L p0 p1 (fun p0=>k (V.agg p0) []):=by kernel_rfl
abbrev zc3:=∀ (β:Type),Nat→List V→List (List V)→(List V→Option β)→Option β
def xz (β:Type) (L:Nat) (p0:List V) (p1:List (List V)) (k_fin:List V→Option β):Option β:=zly yl za8 L p0 p1 k_fin
def zfI (xz:zc3) (L:Nat) (β:Type) (args:List V) (bor:Bor) (k:KK β):Option β:=match args,bor with
 | [a0,a1],[]=>aG a0 fun p0=>aL 1 a1 fun p1=>xz β L p0 p1 (fun p0=>k (V.agg p0) [])
 | _,_=>none
theorem ztu (L:Nat) (β:Type) (args:List V) (bor:Bor) (k:KK β) (r:β) (h:zfI xz L β args bor k=some r):yt zj9 (zkh yl za8 L) L zgR args bor k=some r:=by
 unfold zfI at h
 split at h
 ·have q:=zgy h; clear h; obtain ⟨p0,rfl,h⟩:=q
  have q:=yP h; clear h; obtain ⟨p1,rfl,h⟩:=q
  exact (zs1 yl za8 L p0 p1 k).trans h
 ·cases h
def zhK:CF:=⟨106,[.cell 6 true 3,.tmp 7,.cell 8 true 4,.tmp 9],
 (.seq (.reg [oo 5 (.box true (tq 2)),
   oo 6 (.alloc true [(.sc (.int .i64 0)),(.sc (.int .i64 0)),(.gs 1 [])]),
   oo 7 (.move (.const (.sc (.int .i64 0))) false),
   oo 8 (.alloc true [(.sc (.int .u8 0)),(.sc (.int .u8 0)),(.sc (.int .u8 0)),(.sc (.int .u8 0))]),
   oo 9 (.move (.const (.sc (.bool false))) false)])
 (.seq (.reg [oo 19 (.move (tq 0) false),
   oo 20 (.move (tq 1) false),
   oo 21 (.call 170 [((tq 19),0),((tq 20),0)] []),
   oo 18 (.move (tq 21) true),
   oo 22 (.pull (tq 18) 0),
   oo 23 (.pull (tq 18) 1),
   oo 24 (.pull (tq 18) 2),
   oo 10 (.move (tq 22) false),
   oo 11 (.move (tq 23) false),
   oo 12 (.move (tq 24) false)])
 (.seq (.seq (.reg [oo 25 (.move (tq 12) false),
   oo 26 (.bin .neq (tq 25) (.const (.sc (.int .i64 0)))),
   oo 27 (.move (tq 26) false),
   ⟨(some 28),false,(some (27,false)),.move (tq 10) false⟩,
   ⟨(some 29),false,(some (27,false)),.bin .gtr (tq 28) (.const (.sc (.int .u32 4096)))⟩,
   oo 30 (.pick (tq 27) (.const (.sc (.bool true))) (tq 29))])
 (.cond (tq 30)
 (.seq (.reg [oo 31 (.build [(.sc (.int .i64 0)),(.sc (.int .i64 0)),(.sl 1 [])] []),
   oo 32 (.build [(.sc (.int .u8 0)),(.sc (.int .u8 0)),(.sc (.int .u8 0)),(.sc (.int .u8 0))] []),
   oz (.store 3 (tq 6) (tq 31)),
   oo 7 (.move (.const (.sc (.int .i64 0))) false),
   oz (.store 4 (tq 8) (tq 32)),
   oo 9 (.move (.const (.sc (.bool false))) false)])
 .ret)
 .skip))
 (.seq (.reg [oo 34 (.move (tq 0) false),
   oo 35 (.move (tq 11) false),
   oo 36 (.call 195 [((tq 34),0),((tq 35),0)] []),
   oo 33 (.move (tq 36) true),
   oo 37 (.pull (tq 33) 0),
   oo 38 (.pull (tq 33) 1),
   oo 39 (.pull (tq 33) 2),
   oo 13 (.move (tq 37) false),
   oo 11 (.move (tq 38) false),
   oo 12 (.move (tq 39) false)])
 (.seq (.seq (.reg [oo 40 (.move (tq 12) false),
   oo 41 (.bin .neq (tq 40) (.const (.sc (.int .i64 0))))])
 (.cond (tq 41)
 (.seq (.reg [oo 42 (.build [(.sc (.int .i64 0)),(.sc (.int .i64 0)),(.sl 1 [])] []),
   oo 43 (.build [(.sc (.int .u8 0)),(.sc (.int .u8 0)),(.sc (.int .u8 0)),(.sc (.int .u8 0))] []),
   oz (.store 3 (tq 6) (tq 42)),
   oo 7 (.move (.const (.sc (.int .i64 0))) false),
   oz (.store 4 (tq 8) (tq 43)),
   oo 9 (.move (.const (.sc (.bool false))) false)])
 .ret)
 .skip))
 (.seq (.reg [oo 45 (.move (tq 0) false),
   oo 46 (.move (tq 11) false),
   oo 47 (.call 170 [((tq 45),0),((tq 46),0)] []),
   oo 44 (.move (tq 47) true),
   oo 48 (.pull (tq 44) 0),
   oo 49 (.pull (tq 44) 1),
   oo 50 (.pull (tq 44) 2),
   oo 14 (.move (tq 48) false),
   oo 11 (.move (tq 49) false),
   oo 12 (.move (tq 50) false)])
 (.seq (.seq (.reg [oo 51 (.move (tq 12) false),
   oo 52 (.bin .neq (tq 51) (.const (.sc (.int .i64 0)))),
   oo 53 (.move (tq 52) false),
   ⟨(some 54),false,(some (53,false)),.move (tq 14) false⟩,
   ⟨(some 55),false,(some (53,false)),.bin .gtr (tq 54) (.const (.sc (.int .u32 16777216)))⟩,
   oo 56 (.pick (tq 53) (.const (.sc (.bool true))) (tq 55))])
 (.cond (tq 56)
 (.seq (.reg [oo 57 (.build [(.sc (.int .i64 0)),(.sc (.int .i64 0)),(.sl 1 [])] []),
   oo 58 (.build [(.sc (.int .u8 0)),(.sc (.int .u8 0)),(.sc (.int .u8 0)),(.sc (.int .u8 0))] []),
   oz (.store 3 (tq 6) (tq 57)),
   oo 7 (.move (.const (.sc (.int .i64 0))) false),
   oz (.store 4 (tq 8) (tq 58)),
   oo 9 (.move (.const (.sc (.bool false))) false)])
 .ret)
 .skip))
 (.seq (.reg [oo 59 (.move (tq 11) false),
   oo 60 (.move (tq 10) false),
   oo 61 (.conv .i64 (tq 60)),
   oo 62 (.bin .add (tq 59) (tq 61)),
   oo 15 (.move (tq 62) false)])
 (.seq (.seq (.reg [oo 63 (.move (tq 0) false),
   oo 64 (.lenS (tq 63)),
   oo 65 (.move (tq 15) false),
   oo 66 (.bin .add (tq 65) (.const (.sc (.int .i64 4)))),
   oo 67 (.bin .lss (tq 64) (tq 66))])
 (.cond (tq 67)
 (.seq (.reg [oo 68 (.build [(.sc (.int .i64 0)),(.sc (.int .i64 0)),(.sl 1 [])] []),
   oo 69 (.build [(.sc (.int .u8 0)),(.sc (.int .u8 0)),(.sc (.int .u8 0)),(.sc (.int .u8 0))] []),
   oz (.store 3 (tq 6) (tq 68)),
   oo 7 (.move (.const (.sc (.int .i64 0))) false),
   oz (.store 4 (tq 8) (tq 69)),
   oo 9 (.move (.const (.sc (.bool false))) false)])
 .ret)
 .skip))
 (.seq (.reg [oo 70 (.move (tq 13) false),
   oo 71 (.conv .i64 (tq 70)),
   oo 72 (.move (tq 14) false),
   oo 73 (.conv .i64 (tq 72)),
   oo 74 (.move (tq 0) false),
   oo 75 (.move (tq 11) false),
   oo 76 (.move (tq 15) false),
   oo 77 (.sliceS 1 (tq 74) (some (tq 75)) (some (tq 76)) none),
   oo 78 (.call 495 [((tq 77),0)] []),
   oo 79 (.build [(.sc (.int .i64 0)),(.sc (.int .i64 0)),(.sl 1 [])] [(0,1,(tq 71)),(1,1,(tq 73)),(2,1,(tq 78))]),
   oo 16 (.alloc true [(.sc (.int .i64 0)),(.sc (.int .i64 0)),(.gs 1 [])]),
   oz (.store 3 (tq 16) (tq 79))])
 (.seq (.reg [oo 80 (.move (tq 0) false),
   oo 81 (.move (tq 15) false),
   oo 82 (.move (tq 15) false),
   oo 83 (.bin .add (tq 82) (.const (.sc (.int .i64 4)))),
   oo 84 (.sliceS 1 (tq 80) (some (tq 81)) (some (tq 83)) none),
   oo 85 (.arrP 4 1 (tq 84)),
   oo 86 (.load true 4 (tq 85) false),
   oo 17 (.alloc true [(.sc (.int .u8 0)),(.sc (.int .u8 0)),(.sc (.int .u8 0)),(.sc (.int .u8 0))]),
   oz (.store 4 (tq 17) (tq 86))])
 (.seq (.seq (.dreg [] [(oo 87 (.load true 3 (tq 16) false),q0),
   (oo 88 (.call 432 [((tq 87),1)] []),q0),
   (oo 89 (.un .not (tq 88)),q0),
   (oo 90 (.move (tq 89) false),q0),
   (⟨(some 91),false,(some (90,false)),.load true 4 (tq 17) false⟩,ql 17 [5] []),
   (⟨(some 92),false,(some (90,false)),.load true 4 (tq 5) false⟩,ql 5 [17] []),
   (⟨(some 93),false,(some (90,false)),.move (tq 0) true⟩,qc [17,5] []),
   (⟨(some 94),false,(some (90,false)),.move (tq 1) false⟩,q0),
   (⟨(some 95),false,(some (90,false)),.move (tq 15) false⟩,q0),
   (⟨(some 96),false,(some (90,false)),.sliceS 1 (tq 93) (some (tq 94)) (some (tq 95)) none⟩,q0),
   (⟨(some 97),false,(some (90,false)),.call 434 [((tq 92),0),((tq 96),0)] []⟩,qc [17] []),
   (⟨(some 98),false,(some (90,false)),.eqAgg true 4 (tq 91) (tq 97)⟩,q0),
   (oo 99 (.pick (tq 90) (.const (.sc (.bool true))) (tq 98)),q0)])
 (.cond (tq 99)
 (.seq (.reg [oo 100 (.build [(.sc (.int .i64 0)),(.sc (.int .i64 0)),(.sl 1 [])] []),
   oo 101 (.build [(.sc (.int .u8 0)),(.sc (.int .u8 0)),(.sc (.int .u8 0)),(.sc (.int .u8 0))] []),
   oz (.store 3 (tq 6) (tq 100)),
   oo 7 (.move (.const (.sc (.int .i64 0))) false),
   oz (.store 4 (tq 8) (tq 101)),
   oo 9 (.move (.const (.sc (.bool false))) false)])
 .ret)
 .skip))
 (.seq (.dreg [] [(oo 102 (.load true 3 (tq 16) false),ql 16 [17] []),
   (oo 103 (.move (tq 15) false),q0),
   (oo 104 (.bin .add (tq 103) (.const (.sc (.int .i64 4)))),q0),
   (oo 105 (.load true 4 (tq 17) false),ql 17 [16,6] []),
   (oz (.store 3 (tq 6) (tq 102)),ql 6 [17] []),
   (oo 7 (.move (tq 104) false),q0),
   (oz (.store 4 (tq 8) (tq 105)),q0),
   (oo 9 (.move (.const (.sc (.bool true))) false),q0)])
 .ret)))))))))))))⟩
def znP:Hint:=⟨[(0,1),(1,3),(4,3),(7,3),(13,10),(15,6)],[],[none,none,none,none,none,none,none,none,none,none,none],[],[],false,false⟩
def zlr:Nat→Sh:=yU []
def zk1 (y7:zmA) (zaF:znV) (yq:zaK) (yz:zcT) (xz:zc3) (L:Nat):CBC:=(yE 434 (zfI xz L) (yE 432 (zfE yz L) (yE 495 (zbt yq L) (yE 195 (zn5 zaF L) (yE 170 (zmK y7 L) noC)))))
def zlZ {β:Type} (y7:zmA) (zaF:znV) (yq:zaK) (yz:zcT) (xz:zc3) (L:Nat) (p0:List (List V)) (p1:Int) (p2:List V) (k_fin:List V→Int→List V→Bool→Option β):Option β :=
 y7 β L p0 p1 (fun v0 v1 v2 =>
 ifb ((v2:Int) != (0:Int)) (
 lt [(V.sc (.int .i64 (0:Int))),(V.sc (.int .i64 (0:Int))),(V.sl 1 ([]:List (List V)))] fun r3 =>
 lt [(V.sc (.int .u8 (0:Int))),(V.sc (.int .u8 (0:Int))),(V.sc (.int .u8 (0:Int))),(V.sc (.int .u8 (0:Int)))] fun r4 =>
 chk (0=0∧(List.length r3)=3∧3≠0) (
 chk (0=0∧(List.length r4)=4∧4≠0) (
 k_fin r3 (0:Int) r4 false))) (
 ifb (decide (v0 > (4096:Int))) (
 lt [(V.sc (.int .i64 (0:Int))),(V.sc (.int .i64 (0:Int))),(V.sl 1 ([]:List (List V)))] fun r5 =>
 lt [(V.sc (.int .u8 (0:Int))),(V.sc (.int .u8 (0:Int))),(V.sc (.int .u8 (0:Int))),(V.sc (.int .u8 (0:Int)))] fun r6 =>
 chk (0=0∧(List.length r5)=3∧3≠0) (
 chk (0=0∧(List.length r6)=4∧4≠0) (
 k_fin r5 (0:Int) r6 false))) (
 zaF β L p0 v1 (fun v7 v8 v9 =>
 ifb ((v9:Int) != (0:Int)) (
 lt [(V.sc (.int .i64 (0:Int))),(V.sc (.int .i64 (0:Int))),(V.sl 1 ([]:List (List V)))] fun r10 =>
 lt [(V.sc (.int .u8 (0:Int))),(V.sc (.int .u8 (0:Int))),(V.sc (.int .u8 (0:Int))),(V.sc (.int .u8 (0:Int)))] fun r11 =>
 chk (0=0∧(List.length r10)=3∧3≠0) (
 chk (0=0∧(List.length r11)=4∧4≠0) (
 k_fin r10 (0:Int) r11 false))) (
 y7 β L p0 v8 (fun v12 v13 v14 =>
 ifb ((v14:Int) != (0:Int)) (
 lt [(V.sc (.int .i64 (0:Int))),(V.sc (.int .i64 (0:Int))),(V.sl 1 ([]:List (List V)))] fun r15 =>
 lt [(V.sc (.int .u8 (0:Int))),(V.sc (.int .u8 (0:Int))),(V.sc (.int .u8 (0:Int))),(V.sc (.int .u8 (0:Int)))] fun r16 =>
 chk (0=0∧(List.length r15)=3∧3≠0) (
 chk (0=0∧(List.length r16)=4∧4≠0) (
 k_fin r15 (0:Int) r16 false))) (
 ifb (decide (v12 > (16777216:Int))) (
 lt [(V.sc (.int .i64 (0:Int))),(V.sc (.int .i64 (0:Int))),(V.sl 1 ([]:List (List V)))] fun r17 =>
 lt [(V.sc (.int .u8 (0:Int))),(V.sc (.int .u8 (0:Int))),(V.sc (.int .u8 (0:Int))),(V.sc (.int .u8 (0:Int)))] fun r18 =>
 chk (0=0∧(List.length r17)=3∧3≠0) (
 chk (0=0∧(List.length r18)=4∧4≠0) (
 k_fin r17 (0:Int) r18 false))) (
 lt (IntKind.wrap .i64 v0) fun x19 =>
 lt (IntKind.wrap .i64 ((v13:Int)+x19)) fun x20 =>
 lt (IntKind.wrap .i64 ((x20:Int)+(4:Int))) fun x21 =>
 ifb (decide (((List.length p0:Nat):Int) < x21)) (
 lt [(V.sc (.int .i64 (0:Int))),(V.sc (.int .i64 (0:Int))),(V.sl 1 ([]:List (List V)))] fun r22 =>
 lt [(V.sc (.int .u8 (0:Int))),(V.sc (.int .u8 (0:Int))),(V.sc (.int .u8 (0:Int))),(V.sc (.int .u8 (0:Int)))] fun r23 =>
 chk (0=0∧(List.length r22)=3∧3≠0) (
 chk (0=0∧(List.length r23)=4∧4≠0) (
 k_fin r22 (0:Int) r23 false))) (
 lt (IntKind.wrap .i64 v7) fun x24 =>
 lt (IntKind.wrap .i64 v12) fun x25 =>
 chk (0≤x20∧x20≤(((List.length p0):Nat):Int)) (
 chk (0≤v13∧v13≤(((Int.toNat x20):Nat):Int)) (
 yq β L (List.take ((Int.toNat x20) - (Int.toNat v13)) (List.drop (Int.toNat v13) p0)) (fun v26 =>
 lt [(V.sc (.int .i64 x24)),(V.sc (.int .i64 x25)),(V.sl 1 v26)] fun r27 =>
 lt (IntKind.wrap .i64 ((x20:Int)+(4:Int))) fun x28 =>
 chk (0≤x28∧x28≤(((List.length p0):Nat):Int)) (
 chk (0≤x20∧x20≤(((Int.toNat x28):Nat):Int)) (
 chk (4≤(List.length (List.take ((Int.toNat x28) - (Int.toNat x20)) (List.drop (Int.toNat x20) p0)))) (
 chk ((List.length (List.take 4 (List.flatten (List.take 4 (List.take ((Int.toNat x28) - (Int.toNat x20)) (List.drop (Int.toNat x20) p0))))))=4∧0+4≤4) (
 lt (xn [(V.sc (.int .u8 (0:Int))),(V.sc (.int .u8 (0:Int))),(V.sc (.int .u8 (0:Int))),(V.sc (.int .u8 (0:Int)))] 0 (List.take 4 (List.flatten (List.take 4 (List.take ((Int.toNat x28) - (Int.toNat x20)) (List.drop (Int.toNat x20) p0)))))) fun r29 =>
 chk (0+3≤(List.length r27)) (
 yz β L (List.map V.dem (List.take 3 r27)) (fun v30 =>
 ifb (!v30) (
 lt [(V.sc (.int .i64 (0:Int))),(V.sc (.int .i64 (0:Int))),(V.sl 1 ([]:List (List V)))] fun r31 =>
 lt [(V.sc (.int .u8 (0:Int))),(V.sc (.int .u8 (0:Int))),(V.sc (.int .u8 (0:Int))),(V.sc (.int .u8 (0:Int)))] fun r32 =>
 chk (0=0∧(List.length r31)=3∧3≠0) (
 chk (0=0∧(List.length r32)=4∧4≠0) (
 k_fin r31 (0:Int) r32 false))) (
 chk (0+4≤(List.length r29)) (
 chk (0+4≤(List.length p2)) (
 chk (0≤x20∧x20≤(((List.length p0):Nat):Int)) (
 chk (0≤p1∧p1≤(((Int.toNat x20):Nat):Int)) (
 xz β L (List.take 4 p2) (List.take ((Int.toNat x20) - (Int.toNat p1)) (List.drop (Int.toNat p1) p0)) (fun v33 =>
 eqC 4 (List.take 4 r29) v33 fun v34 =>
 ifb (!v34) (
 lt [(V.sc (.int .i64 (0:Int))),(V.sc (.int .i64 (0:Int))),(V.sl 1 ([]:List (List V)))] fun r35 =>
 lt [(V.sc (.int .u8 (0:Int))),(V.sc (.int .u8 (0:Int))),(V.sc (.int .u8 (0:Int))),(V.sc (.int .u8 (0:Int)))] fun r36 =>
 chk (0=0∧(List.length r35)=3∧3≠0) (
 chk (0=0∧(List.length r36)=4∧4≠0) (
 k_fin r35 (0:Int) r36 false))) (
 chk (0+3≤(List.length r27)) (
 lt (IntKind.wrap .i64 ((x20:Int)+(4:Int))) fun x37 =>
 chk (0+4≤(List.length r29)) (
 chk ((List.length (List.take 3 r27))=3∧0+3≤3) (
 lt (xn [(V.sc (.int .i64 (0:Int))),(V.sc (.int .i64 (0:Int))),(V.gs 1 ([]:List (List V)))] 0 (List.take 3 r27)) fun r38 =>
 chk ((List.length (List.take 4 r29))=4∧0+4≤4) (
 lt (xn [(V.sc (.int .u8 (0:Int))),(V.sc (.int .u8 (0:Int))),(V.sc (.int .u8 (0:Int))),(V.sc (.int .u8 (0:Int)))] 0 (List.take 4 r29)) fun r39 =>
 chk (0=0∧(List.length r38)=3∧3≠0) (
 chk (0=0∧(List.length r39)=4∧4≠0) (
 k_fin r38 x37 r39 true)))))))))))))))))))))))))))))))
theorem zul {β:Type} (y7:zmA) (zaF:znV) (yq:zaK) (yz:zcT) (xz:zc3) (L:Nat) (p0:List (List V)) (p1:Int) (p2:List V) (k:KK β):yt zlr (zk1 y7 zaF yq yz xz L) L zhK [(V.sl 1 p0),(V.sc (.int .i64 p1)),(V.agg p2)] [] k=zlZ y7 zaF yq yz xz L p0 p1 p2 (fun zGg zGh zGm zGv=>k (V.tup [(V.agg zGg),(V.sc (.int .i64 zGh)),(V.agg zGm),(V.sc (.bool zGv))]) []):=by kernel_rfl
abbrev zaB:=∀ (β:Type),Nat→List (List V)→Int→List V→(List V→Int→List V→Bool→Option β)→Option β
def yp (β:Type) (L:Nat) (p0:List (List V)) (p1:Int) (p2:List V) (k_fin:List V→Int→List V→Bool→Option β):Option β:=zlZ y7 zaF yq yz xz L p0 p1 p2 k_fin
def zi6 (yp:zaB) (L:Nat) (β:Type) (args:List V) (bor:Bor) (k:KK β):Option β:=match args,bor with
 | [a0,a1,a2],[]=>aL 1 a0 fun p0=>aI .i64 a1 fun p1=>aG a2 fun p2=>yp β L p0 p1 p2 (fun zGg zGh zGm zGv=>k (V.tup [(V.agg zGg),(V.sc (.int .i64 zGh)),(V.agg zGm),(V.sc (.bool zGv))]) [])
 | _,_=>none
theorem zt7 (L:Nat) (β:Type) (args:List V) (bor:Bor) (k:KK β) (r:β) (h:zi6 yp L β args bor k=some r):yt zlr (zk1 y7 zaF yq yz xz L) L zhK args bor k=some r:=by
 unfold zi6 at h
 split at h
 ·have q:=yP h; clear h; obtain ⟨p0,rfl,h⟩:=q
  have q:=xP h; clear h; obtain ⟨p1,rfl,h⟩:=q
  have q:=zgy h; clear h; obtain ⟨p2,rfl,h⟩:=q
  exact (zul y7 zaF yq yz xz L p0 p1 p2 k).trans h
 ·cases h
def zc4:CC:=(.block 1 (.seq (.reg [oo 13 (.move (tq 0) false),
   oo 14 (.move (tq 7) false),
   oo 15 (.load true 4 (tq 6) false),
   oo 16 (.call 457 [((tq 13),0),((tq 14),0),((tq 15),0)] []),
   oo 12 (.move (tq 16) true),
   oo 17 (.pull (tq 12) 0),
   oo 18 (.pull (tq 12) 1),
   oo 19 (.pull (tq 12) 2),
   oo 20 (.pull (tq 12) 3),
   oo 8 (.alloc true [(.sc (.int .i64 0)),(.sc (.int .i64 0)),(.gs 1 [])]),
   oo 10 (.alloc true [(.sc (.int .u8 0)),(.sc (.int .u8 0)),(.sc (.int .u8 0)),(.sc (.int .u8 0))]),
   oz (.store 3 (tq 8) (tq 17)),
   oo 9 (.move (tq 18) false),
   oz (.store 4 (tq 10) (tq 19)),
   oo 11 (.move (tq 20) false)])
 (.seq (.seq (.reg [oo 21 (.move (tq 11) false),
   oo 22 (.un .not (tq 21))])
 (.cond (tq 22)
 (.seq (.dreg [] [(oo 23 (.move (tq 5) true),qc [6] []),
   (oo 24 (.move (tq 7) false),q0),
   (oo 25 (.load true 4 (tq 6) false),ql 6 [] []),
   (oo 2 (.move (tq 23) true),qc [6] []),
   (oo 3 (.move (tq 24) false),q0),
   (oz (.store 4 (tq 4) (tq 25)),q0)])
 (.seq (.mask (bl 28 32) (bl 3487625247 32))
 .ret))
 .skip))
 (.dreg [] [(oo 26 (.move (tq 5) true),qc [8,10] [28]),
   (oo 27 (.load true 3 (tq 8) false),ql 8 [10] []),
   (oo 28 (.buildSlice 3 1 [(.sc (.int .i64 0)),(.sc (.int .i64 0)),(.sl 1 [])] [(0,3,(tq 27))]),qn [10] []),
   (oo 29 (.append 3 40 (tq 26) (tq 28)),qn [10] []),
   (oo 30 (.move (tq 9) false),q0),
   (oo 31 (.load true 4 (tq 10) false),ql 10 [8] [28,29]),
   (oo 5 (.move (tq 29) true),qc [10] []),
   (oo 7 (.move (tq 30) false),q0),
   (oz (.store 4 (tq 6) (tq 31)),q0)]))))
def zcK:CF:=⟨32,[.tmp 2,.tmp 3,.cell 4 true 4],
 (.seq (.reg [oo 2 (.move (.const (.gs 3 [])) true),
   oo 3 (.move (.const (.sc (.int .i64 0))) false),
   oo 4 (.alloc true [(.sc (.int .u8 0)),(.sc (.int .u8 0)),(.sc (.int .u8 0)),(.sc (.int .u8 0))])])
 (.seq (.reg [oo 5 (.move (.const (.gs 3 [])) true)])
 (.seq (.reg [oo 6 (.alloc true [(.sc (.int .u8 0)),(.sc (.int .u8 0)),(.sc (.int .u8 0)),(.sc (.int .u8 0))])])
 (.seq (.reg [oo 7 (.move (.const (.sc (.int .i64 0))) false)])
 (.block 0 (.loop (bl 241 32) (bl 3487625459 32)
 zc4))))))⟩
def znT:Hint:=⟨[(0,0),(1,0),(4,4),(4,9),(6,0),(6,3),(7,0),(7,6)],[],[none,some ((bl 241 32),(bl 3487625459 32)),none,none,some ((bl 28 32),(bl 3487625247 32))],[],[],false,false⟩
def zb2:Nat→Sh:=yU []
def zb5 (yp:zaB) (L:Nat):CBC:=(yE 457 (zi6 yp L) noC)
def ze9:St→St:=y4 0 (bl 241 32) (bl 3487625459 32)
def zdB (p0 p5:List (List V)) (p7 zGa zGb zF7 zGe:Int) (b6:List V):St:=⟨((V.sl 1 p0)::(jn 3 ((V.ptr 4 0)::((V.gs 3 p5)::((V.ptr 6 0)::((V.sc (.int .i64 p7))::(jn 24 []))))))),(gn 4 ((.live true [(V.sc (.int .u8 zGa)),(V.sc (.int .u8 zGb)),(V.sc (.int .u8 zF7)),(V.sc (.int .u8 zGe))])::(gn 1 ((.live true b6)::(gn 25 [])))))⟩
def zhp (p2:List (List V)) (p3:Int) (b4:List V):St:=⟨(jn 2 ((V.gs 3 p2)::((V.sc (.int .i64 p3))::((V.ptr 4 0)::(jn 27 []))))),(gn 4 ((.live true b4)::(gn 27 [])))⟩
abbrev zlf (β:Type):Type:=List (List V)→List (List V)→Int→Int→Int→Int→Int→List V→Option β
def zl6 {β:Type} (yp:zaB) (L:Nat) (p0:List (List V)) (k_hbbbba:zlf β):Option β :=
 k_hbbbba p0 ([]:List (List V)) (0:Int) (0:Int) (0:Int) (0:Int) (0:Int) [(V.sc (.int .u8 (0:Int))),(V.sc (.int .u8 (0:Int))),(V.sc (.int .u8 (0:Int))),(V.sc (.int .u8 (0:Int)))]
theorem zt0 {β:Type} (yp:zaB) (L:Nat) (p0:List (List V)) (k:KK β):yt zb2 (zb5 yp L) L zcK [(V.sl 1 p0)] [] k=zl6 yp L p0 (fun p0 p5 p7 zGa zGb zF7 zGe b6=>yx (xj zb2 (zb5 yp L) 0 L zc4) ze9 L (zdB p0 p5 p7 zGa zGb zF7 zGe b6) (zz 0 (yO 0 (CF.res zcK) k))):=by kernel_rfl
def zhx {β:Type} (yp:zaB) (L:Nat) (p0 p5:List (List V)) (p7 zGa zGb zF7 zGe:Int) (b6:List V) (k_ret:List (List V)→Int→List V→Option β) (k_hbbbba:zlf β):Option β :=
 chk (0+4≤(List.length b6)) (
 yp β L p0 p7 (List.take 4 b6) (fun v0 v1 v2 v3 =>
 chk ((List.length v0)=3∧0+3≤3) (
 lt (xn [(V.sc (.int .i64 (0:Int))),(V.sc (.int .i64 (0:Int))),(V.gs 1 ([]:List (List V)))] 0 v0) fun r4 =>
 chk ((List.length v2)=4∧0+4≤4) (
 lt (xn [(V.sc (.int .u8 (0:Int))),(V.sc (.int .u8 (0:Int))),(V.sc (.int .u8 (0:Int))),(V.sc (.int .u8 (0:Int)))] 0 v2) fun r5 =>
 ifb (!v3) (
 chk (0+4≤(List.length b6)) (
 chk ((List.length (List.take 4 b6))=4∧0+4≤4) (
 lt (xn [(V.sc (.int .u8 zGa)),(V.sc (.int .u8 zGb)),(V.sc (.int .u8 zF7)),(V.sc (.int .u8 zGe))] 0 (List.take 4 b6)) fun r6 =>
 k_ret p5 p7 r6))) (
 chk (0+3≤(List.length r4)) (
 chk ((List.length (List.take 3 r4))=3∧0+3≤3) (
 chk ((List.length p5+List.length (yh 3 1 (xn [(V.sc (.int .i64 (0:Int))),(V.sc (.int .i64 (0:Int))),(V.sl 1 ([]:List (List V)))] 0 (List.take 3 r4)))) * 40≤xi∧List.length p5+List.length (yh 3 1 (xn [(V.sc (.int .i64 (0:Int))),(V.sc (.int .i64 (0:Int))),(V.sl 1 ([]:List (List V)))] 0 (List.take 3 r4)))≤xi) (
 lt (p5++(yh 3 1 (xn [(V.sc (.int .i64 (0:Int))),(V.sc (.int .i64 (0:Int))),(V.sl 1 ([]:List (List V)))] 0 (List.take 3 r4)))) fun l7 =>
 chk (0+4≤(List.length r5)) (
 chk ((List.length (List.take 4 r5))=4∧0+4≤(List.length b6)) (
 lt (xn b6 0 (List.take 4 r5)) fun r8 =>
 k_hbbbba p0 l7 v1 zGa zGb zF7 zGe r8))))))))))
theorem zp7 {β:Type} (yp:zaB) (L:Nat) (p0 p5:List (List V)) (p7 zGa zGb zF7 zGe:Int) (b6:List V) (X:St→Option β) (K:KT β):xj zb2 (zb5 yp L) 0 L zc4 (zdB p0 p5 p7 zGa zGb zF7 zGe b6) (zan ze9 X K)=zhx yp L p0 p5 p7 zGa zGb zF7 zGe b6 (fun p2 p3 b4=>K .ret (zhp p2 p3 b4)) (fun p0 p5 p7 zGa zGb zF7 zGe b6=>X (zdB p0 p5 p7 zGa zGb zF7 zGe b6)):=by kernel_rfl
def zdx {β:Type} (yp:zaB) (L:Nat) (p2:List (List V)) (p3:Int) (b4:List V) (k_fin:List (List V)→Int→List V→Option β):Option β :=
 chk (0=0∧(List.length b4)=4∧4≠0) (
 k_fin p2 p3 b4)
theorem zn3 {β:Type} (yp:zaB) (L:Nat) (p2:List (List V)) (p3:Int) (b4:List V) (k:KK β):(zz 0 (yO 0 (CF.res zcK) k)) .ret (zhp p2 p3 b4)=zdx yp L p2 p3 b4 (fun zGg zGh zGm=>k (V.tup [(V.gs 3 zGg),(V.sc (.int .i64 zGh)),(V.agg zGm)]) []):=by kernel_rfl
def zdl {β:Type} (yp:zaB) (L:Nat) (k_ret:List (List V)→Int→List V→Option β):Nat→List (List V)→List (List V)→Int→Int→Int→Int→Int→List V→Option β
 | 0,_,_,_,_,_,_,_,_=>none
 | n+1,p0,p5,p7,zGa,zGb,zF7,zGe,b6=>zhx yp L p0 p5 p7 zGa zGb zF7 zGe b6 k_ret (fun p0 p5 p7 zGa zGb zF7 zGe b6=>zdl yp L k_ret n p0 p5 p7 zGa zGb zF7 zGe b6)
theorem zjS {β:Type} (yp:zaB) (L:Nat) (K:KT β):∀ (n:Nat) (p0 p5:List (List V)) (p7 zGa zGb zF7 zGe:Int) (b6:List V),yx (xj zb2 (zb5 yp L) 0 L zc4) ze9 n (zdB p0 p5 p7 zGa zGb zF7 zGe b6) K=zdl yp L (fun p2 p3 b4=>K .ret (zhp p2 p3 b4)) n p0 p5 p7 zGa zGb zF7 zGe b6:=by
 intro n
 induction n with
 | zero=>intros; rfl
 | succ n ih =>
  intro p0 p5 p7 zGa zGb zF7 zGe b6
  refine (zp7 yp L p0 p5 p7 zGa zGb zF7 zGe b6 (fun σ=>yx (xj zb2 (zb5 yp L) 0 L zc4) ze9 n σ K) K).trans ?_
  simp only [ih]
  rfl
def ziS {β:Type} (yp:zaB) (L:Nat) (p0:List (List V)) (k_fin:List (List V)→Int→List V→Option β):Option β :=
 zl6 yp L p0 (fun p0 p5 p7 zGa zGb zF7 zGe b6=>zdl yp L (fun p2 p3 b4=>zdx yp L p2 p3 b4 k_fin) L p0 p5 p7 zGa zGb zF7 zGe b6)
theorem zt2 {β:Type} (yp:zaB) (L:Nat) (p0:List (List V)) (k:KK β):yt zb2 (zb5 yp L) L zcK [(V.sl 1 p0)] [] k=ziS yp L p0 (fun zGg zGh zGm=>k (V.tup [(V.gs 3 zGg),(V.sc (.int .i64 zGh)),(V.agg zGm)]) []):=by
 refine (zt0 yp L p0 k).trans ?_
 unfold ziS
 first
  | (simp only [zjS,zn3]; done)
  | (simp only [zjS]; rfl)
abbrev zbP:=∀ (β:Type),Nat→List (List V)→(List (List V)→Int→List V→Option β)→Option β
def xw (β:Type) (L:Nat) (p0:List (List V)) (k_fin:List (List V)→Int→List V→Option β):Option β:=ziS yp L p0 k_fin
def zeP (xw:zbP) (L:Nat) (β:Type) (args:List V) (bor:Bor) (k:KK β):Option β:=match args,bor with
 | [a0],[]=>aL 1 a0 fun p0=>xw β L p0 (fun zGg zGh zGm=>k (V.tup [(V.gs 3 zGg),(V.sc (.int .i64 zGh)),(V.agg zGm)]) [])
 | _,_=>none
theorem zuf (L:Nat) (β:Type) (args:List V) (bor:Bor) (k:KK β) (r:β) (h:zeP xw L β args bor k=some r):yt zb2 (zb5 yp L) L zcK args bor k=some r:=by
 unfold zeP at h
 split at h
 ·have q:=yP h; clear h; obtain ⟨p0,rfl,h⟩:=q
  exact (zt2 yp L p0 k).trans h
 ·cases h
def zcO:CC:=(.seq (.reg [oo 11 (.bin .lss (tq 10) (tq 9))])
 (.seq (.cond (tq 11)
 .skip
 (.seq (.mask (bl 32 23) (bl 8388543 23))
 (.exit 0)))
 (.seq (.block 1 (.seq (.reg [oo 12 (.move (tq 10) false),
   oo 6 (.move (tq 12) false)])
 (.reg [oo 13 (.move (tq 5) false),
   oo 14 (.move (tq 6) false),
   oo 15 (.move (tq 0) false),
   oo 16 (.move (tq 6) false),
   oo 17 (.bin .mul (.const (.sc (.int .i64 8))) (tq 16)),
   oo 18 (.bin .shr (tq 15) (tq 17)),
   oo 19 (.conv .u8 (tq 18)),
   oo 20 (.indexAddrS 1 (tq 13) (tq 14)),
   oz (.store 1 (tq 20) (tq 19))])))
 (.reg [oo 21 (.bin .add (tq 10) (.const (.sc (.int .i64 1)))),
   oo 10 (.move (tq 21) false)]))))
def zjh:CC:=(.seq (.reg [oo 22 (.move (tq 5) true),
   oo 4 (.move (tq 22) true)])
 .ret)
def zcR:CF:=⟨23,[.tmp 4],
 (.seq (.reg [oo 4 (.move (.const (.gs 1 [])) true)])
 (.seq (.reg [oo 7 (.move (tq 1) false),
   ⟨(some 8),true,none,.makeSlice 1 1 [(.sc (.int .u8 0))] (tq 7) (tq 7)⟩,
   oo 5 (.move (tq 8) true)])
 (.seq (.seq (.reg [oo 9 (.move (tq 1) false),
   oo 10 (.move (.const (.sc (.int .i64 0))) false)])
 (.block 0 (.loop (bl 1569 23) (bl 8388543 23)
 zcO)))
 zjh)))⟩
def znR:Hint:=⟨[(0,0),(1,2),(7,0),(7,1)],[(1,1)],[none,some ((bl 1569 23),(bl 8388543 23)),none,some ((bl 32 23),(bl 8388543 23)),none,none],[],[],false,false⟩
def za6:Nat→Sh:=yU []
def zaX (L:Nat):CBC:=noC
def zfd:St→St:=y4 0 (bl 1569 23) (bl 8388543 23)
def zdE (p0:Int) (p5l:Nat) (p9 p10:Int) (b8:List V):St:=⟨((V.sc (.int .u64 p0))::(jn 4 ((V.own 8 0 p5l 1)::(jn 3 ((V.sc (.int .i64 p9))::((V.sc (.int .i64 p10))::(jn 12 []))))))),(gn 8 ((.live true b8)::(gn 14 [])))⟩
def zh8 (p5l:Nat) (b8:List V):St:=⟨(jn 5 ((V.own 8 0 p5l 1)::(jn 17 []))),(gn 8 ((.live true b8)::(gn 14 [])))⟩
def zqW {β:Type} (L:Nat) (p0 p1:Int) (k_hbbaba:Int→Nat→Int→Int→List V→Option β):Option β :=
 chk (0≤p1∧p1≤p1∧(Int.toNat p1) * 1≤xi∧p1≤xi) (
 k_hbbaba p0 (Int.toNat p1) p1 (0:Int) (List.flatten (List.replicate (Int.toNat p1) [(V.sc (.int .u8 (0:Int)))])))
theorem zuk {β:Type} (L:Nat) (p0 p1:Int) (k:KK β):yt za6 (zaX L) L zcR [(V.sc (.int .u64 p0)),(V.sc (.int .i64 p1))] [] k=zqW L p0 p1 (fun p0 p5l p9 p10 b8=>yx (xj za6 (zaX L) 0 L zcO) zfd L (zdE p0 p5l p9 p10 b8) (zz 0 (zN (xj za6 (zaX L) 0 L zjh) (yO 0 (CF.res zcR) k)))):=by kernel_rfl
def zlP {β:Type} (L:Nat) (p0:Int) (p5l:Nat) (p9 p10:Int) (b8:List V) (k_hbbaba:Int→Nat→Int→Int→List V→Option β) (k_x0:Nat→List V→Option β):Option β :=
 ifb (decide (p10 < p9)) (
 lt (IntKind.wrap .i64 (((8:Int):Int) * p10)) fun x0 =>
 chk (0≤x0) (
 lt (zb9 .u64 p0 x0) fun x1 =>
 lt (IntKind.wrap .u8 x1) fun x2 =>
 chk (0≤p10∧p10 < ((p5l:Nat):Int)) (
 chk (1=1∧(0+((Int.toNat p10) * 1))+1≤(List.length b8)) (
 lt (xn b8 (0+((Int.toNat p10) * 1)) [(V.sc (.int .u8 x2))]) fun r3 =>
 lt (IntKind.wrap .i64 ((p10:Int)+(1:Int))) fun x4 =>
 k_hbbaba p0 p5l p9 x4 r3)))) (
 k_x0 p5l b8)
theorem zpZ {β:Type} (L:Nat) (p0:Int) (p5l:Nat) (p9 p10:Int) (b8:List V) (X:St→Option β) (K:KT β):xj za6 (zaX L) 0 L zcO (zdE p0 p5l p9 p10 b8) (zan zfd X K)=zlP L p0 p5l p9 p10 b8 (fun p0 p5l p9 p10 b8=>X (zdE p0 p5l p9 p10 b8)) (fun p5l b8=>K (.exit 0) (zh8 p5l b8)):=by kernel_rfl
def zku {β:Type} (L:Nat) (p5l:Nat) (b8:List V) (k_fin:List (List V)→Option β):Option β :=
 chk (p5l≠0∨(List.length b8)=0) (
 k_fin (yh 1 p5l b8))
theorem zoo {β:Type} (L:Nat) (p5l:Nat) (b8:List V) (k:KK β):(zz 0 (zN (xj za6 (zaX L) 0 L zjh) (yO 0 (CF.res zcR) k))) (.exit 0) (zh8 p5l b8)=zku L p5l b8 (fun p0=>k (V.fr 1 p0) []):=by kernel_rfl
def zhk {β:Type} (L:Nat) (k_x0:Nat→List V→Option β):Nat→Int→Nat→Int→Int→List V→Option β
 | 0,_,_,_,_,_=>none
 | n+1,p0,p5l,p9,p10,b8=>zlP L p0 p5l p9 p10 b8 (fun p0 p5l p9 p10 b8=>zhk L k_x0 n p0 p5l p9 p10 b8) k_x0
theorem zjN {β:Type} (L:Nat) (K:KT β):∀ (n:Nat) (p0:Int) (p5l:Nat) (p9 p10:Int) (b8:List V),yx (xj za6 (zaX L) 0 L zcO) zfd n (zdE p0 p5l p9 p10 b8) K=zhk L (fun p5l b8=>K (.exit 0) (zh8 p5l b8)) n p0 p5l p9 p10 b8:=by
 intro n
 induction n with
 | zero=>intros; rfl
 | succ n ih =>
  intro p0 p5l p9 p10 b8
  refine (zpZ L p0 p5l p9 p10 b8 (fun σ=>yx (xj za6 (zaX L) 0 L zcO) zfd n σ K) K).trans ?_
  simp only [ih]
  rfl
def zmi {β:Type} (L:Nat) (p0 p1:Int) (k_fin:List (List V)→Option β):Option β :=
 zqW L p0 p1 (fun p0 p5l p9 p10 b8=>zhk L (fun p5l b8=>zku L p5l b8 k_fin) L p0 p5l p9 p10 b8)
theorem zue {β:Type} (L:Nat) (p0 p1:Int) (k:KK β):yt za6 (zaX L) L zcR [(V.sc (.int .u64 p0)),(V.sc (.int .i64 p1))] [] k=zmi L p0 p1 (fun p0=>k (V.fr 1 p0) []):=by
 refine (zuk L p0 p1 k).trans ?_
 unfold zmi
 first
  | (simp only [zjN,zoo]; done)
  | (simp only [zjN]; rfl)
abbrev ziZ:=∀ (β:Type),Nat→Int→Int→(List (List V)→Option β)→Option β
def xQ (β:Type) (L:Nat) (p0 p1:Int) (k_fin:List (List V)→Option β):Option β:=zmi L p0 p1 k_fin
def ziW (xQ:ziZ) (L:Nat) (β:Type) (args:List V) (bor:Bor) (k:KK β):Option β:=match args,bor with
 | [a0,a1],[]=>aI .u64 a0 fun p0=>aI .i64 a1 fun p1=>xQ β L p0 p1 (fun p0=>k (V.fr 1 p0) [])
 | _,_=>none
theorem ztR (L:Nat) (β:Type) (args:List V) (bor:Bor) (k:KK β) (r:β) (h:ziW xQ L β args bor k=some r):yt za6 (zaX L) L zcR args bor k=some r:=by
 unfold ziW at h
 split at h
 ·have q:=xP h; clear h; obtain ⟨p0,rfl,h⟩:=q
  have q:=xP h; clear h; obtain ⟨p1,rfl,h⟩:=q
  exact (zue L p0 p1 k).trans h
 ·cases h
def zhR:CF:=⟨18,[.tmp 4],
 (.seq (.reg [oo 4 (.move (.const (.gs 1 [])) true)])
 (.seq (.reg [oo 6 (.move (tq 0) false),
   oo 7 (.lenS (tq 6)),
   oo 8 (.move (tq 1) false),
   oo 9 (.lenS (tq 8)),
   oo 10 (.bin .add (tq 7) (tq 9)),
   oo 11 (.makeSlice 1 1 [(.sc (.int .u8 0))] (.const (.sc (.int .i64 0))) (tq 10)),
   oo 5 (.move (tq 11) true)])
 (.seq (.reg [oo 12 (.move (tq 5) true),
   oo 13 (.move (tq 0) false),
   oo 14 (.append 1 1 (tq 12) (tq 13)),
   oo 5 (.move (tq 14) true)])
 (.seq (.reg [oo 15 (.move (tq 5) true),
   oo 16 (.move (tq 1) false),
   oo 17 (.append 1 1 (tq 15) (tq 16)),
   oo 4 (.move (tq 17) true)])
 .ret))))⟩
def znF:Hint:=⟨[(0,0),(1,6),(2,0),(2,3),(3,0),(3,3)],[],[none],[],[],false,false⟩
def zlk:Nat→Sh:=yU []
def zlE (L:Nat):CBC:=noC
def zl0 {β:Type} (L:Nat) (p0 p1:List (List V)) (k_fin:List (List V)→Option β):Option β :=
 lt (IntKind.wrap .i64 ((((List.length p0:Nat):Int):Int)+((List.length p1:Nat):Int))) fun x0 =>
 chk (0≤(0:Int)∧(0:Int)≤x0∧(Int.toNat x0) * 1≤xi∧x0≤xi) (
 chk ((List.length (List.replicate 0 [(V.sc (.int .u8 (0:Int)))])+List.length p0) * 1≤xi∧List.length (List.replicate 0 [(V.sc (.int .u8 (0:Int)))])+List.length p0≤xi) (
 lt ((List.replicate 0 [(V.sc (.int .u8 (0:Int)))])++p0) fun l1 =>
 chk ((List.length l1+List.length p1) * 1≤xi∧List.length l1+List.length p1≤xi) (
 lt (l1++p1) fun l2 =>
 k_fin l2)))
theorem zuh {β:Type} (L:Nat) (p0 p1:List (List V)) (k:KK β):yt zlk (zlE L) L zhR [(V.sl 1 p0),(V.sl 1 p1)] [] k=zl0 L p0 p1 (fun p0=>k (V.gs 1 p0) []):=by kernel_rfl
abbrev ziU:=∀ (β:Type),Nat→List (List V)→List (List V)→(List (List V)→Option β)→Option β
def zP (β:Type) (L:Nat) (p0 p1:List (List V)) (k_fin:List (List V)→Option β):Option β:=zl0 L p0 p1 k_fin
def ziM (zP:ziU) (L:Nat) (β:Type) (args:List V) (bor:Bor) (k:KK β):Option β:=match args,bor with
 | [a0,a1],[]=>aL 1 a0 fun p0=>aL 1 a1 fun p1=>zP β L p0 p1 (fun p0=>k (V.gs 1 p0) [])
 | _,_=>none
theorem zuq (L:Nat) (β:Type) (args:List V) (bor:Bor) (k:KK β) (r:β) (h:ziM zP L β args bor k=some r):yt zlk (zlE L) L zhR args bor k=some r:=by
 unfold ziM at h
 split at h
 ·have q:=yP h; clear h; obtain ⟨p0,rfl,h⟩:=q
  have q:=yP h; clear h; obtain ⟨p1,rfl,h⟩:=q
  exact (zuh L p0 p1 k).trans h
 ·cases h
def zfN:CF:=⟨10,[.tmp 4],
 (.seq (.reg [oo 4 (.move (.const (.gs 1 [])) true)])
 (.seq (.reg [oo 5 (.move (tq 0) false),
   oo 6 (.move (tq 1) false),
   oo 7 (.conv .u64 (tq 6)),
   oo 8 (.call 192 [((tq 7),0),((.const (.sc (.int .i64 4))),0)] []),
   oo 9 (.call 191 [((tq 5),0),((tq 8),0)] []),
   oo 4 (.move (tq 9) true)])
 .ret))⟩
def zk9:Hint:=⟨[(0,0),(1,5)],[],[none],[],[],false,false⟩
def zih:Nat→Sh:=yU []
def zif (xQ:ziZ) (zP:ziU) (L:Nat):CBC:=(yE 191 (ziM zP L) (yE 192 (ziW xQ L) noC))
def zjt {β:Type} (xQ:ziZ) (zP:ziU) (L:Nat) (p0:List (List V)) (p1:Int) (k_fin:List (List V)→Option β):Option β :=
 lt (IntKind.wrap .u64 p1) fun x0 =>
 xQ β L x0 (4:Int) (fun v1 =>
 zP β L p0 v1 (fun v2 =>
 k_fin v2))
theorem zrd {β:Type} (xQ:ziZ) (zP:ziU) (L:Nat) (p0:List (List V)) (p1:Int) (k:KK β):yt zih (zif xQ zP L) L zfN [(V.sl 1 p0),(V.sc (.int .u32 p1))] [] k=zjt xQ zP L p0 p1 (fun p0=>k (V.gs 1 p0) []):=by kernel_rfl
abbrev zf2:=∀ (β:Type),Nat→List (List V)→Int→(List (List V)→Option β)→Option β
def zH (β:Type) (L:Nat) (p0:List (List V)) (p1:Int) (k_fin:List (List V)→Option β):Option β:=zjt xQ zP L p0 p1 k_fin
def zf6 (zH:zf2) (L:Nat) (β:Type) (args:List V) (bor:Bor) (k:KK β):Option β:=match args,bor with
 | [a0,a1],[]=>aL 1 a0 fun p0=>aI .u32 a1 fun p1=>zH β L p0 p1 (fun p0=>k (V.gs 1 p0) [])
 | _,_=>none
theorem zrc (L:Nat) (β:Type) (args:List V) (bor:Bor) (k:KK β) (r:β) (h:zf6 zH L β args bor k=some r):yt zih (zif xQ zP L) L zfN args bor k=some r:=by
 unfold zf6 at h
 split at h
 ·have q:=yP h; clear h; obtain ⟨p0,rfl,h⟩:=q
  have q:=xP h; clear h; obtain ⟨p1,rfl,h⟩:=q
  exact (zrd xQ zP L p0 p1 k).trans h
 ·cases h
def zgf:CF:=⟨58,[.tmp 4,.tmp 5],
 (.seq (.reg [oo 3 (.box true (tq 1)),
   oo 4 (.move (.const (.gs 1 [])) true),
   oo 5 (.move (.const (.sc (.int .i64 0))) false)])
 (.seq (.seq (.reg [oo 11 (.load true 3 (tq 3) false),
   oo 12 (.call 432 [((tq 11),1)] []),
   oo 13 (.un .not (tq 12))])
 (.cond (tq 13)
 (.seq (.reg [oo 4 (.move (.const (.gs 1 [])) true),
   oo 5 (.move (.const (.sc (.int .i64 6))) false)])
 .ret)
 .skip))
 (.seq (.reg [oo 15 (.move (tq 0) false),
   oo 16 (.call 433 [((tq 15),0)] []),
   oo 14 (.move (tq 16) true),
   oo 17 (.extract (tq 14) 0),
   oo 18 (.pull (tq 14) 1),
   oo 19 (.pull (tq 14) 2),
   oo 8 (.alloc true [(.sc (.int .u8 0)),(.sc (.int .u8 0)),(.sc (.int .u8 0)),(.sc (.int .u8 0))]),
   oo 6 (.move (tq 17) false),
   oo 7 (.move (tq 18) false),
   oz (.store 4 (tq 8) (tq 19))])
 (.seq (.seq (.reg [oo 20 (.move (tq 7) false),
   oo 21 (.bin .add (tq 20) (.const (.sc (.int .i64 9)))),
   oo 22 (.fieldAddr 2 (tq 3)),
   oo 23 (.load false 1 (tq 22) false),
   oo 24 (.lenS (tq 23)),
   oo 25 (.bin .add (tq 21) (tq 24)),
   oo 26 (.bin .add (tq 25) (.const (.sc (.int .i64 4)))),
   oo 27 (.bin .gtr (tq 26) (.const (.sc (.int .i64 1048576))))])
 (.cond (tq 27)
 (.seq (.reg [oo 4 (.move (.const (.gs 1 [])) true),
   oo 5 (.move (.const (.sc (.int .i64 4))) false)])
 .ret)
 .skip))
 (.seq (.reg [oo 28 (.fieldAddr 2 (tq 3)),
   oo 29 (.load false 1 (tq 28) false),
   oo 30 (.lenS (tq 29)),
   oo 31 (.conv .u32 (tq 30)),
   oo 32 (.call 157 [((.const (.gs 1 [])),0),((tq 31),0)] []),
   oo 9 (.move (tq 32) true)])
 (.seq (.reg [oo 33 (.move (tq 9) true),
   oo 34 (.fieldAddr 0 (tq 3)),
   oo 35 (.load false 1 (tq 34) false),
   oo 36 (.conv .u8 (tq 35)),
   oo 37 (.buildSlice 1 1 [(.sc (.int .u8 0))] [(0,1,(tq 36))]),
   oo 38 (.append 1 1 (tq 33) (tq 37)),
   oo 9 (.move (tq 38) true)])
 (.seq (.reg [oo 39 (.move (tq 9) false),
   oo 40 (.fieldAddr 1 (tq 3)),
   oo 41 (.load false 1 (tq 40) false),
   oo 42 (.conv .u32 (tq 41)),
   oo 43 (.call 157 [((tq 39),0),((tq 42),0)] []),
   oo 9 (.move (tq 43) true)])
 (.seq (.reg [oo 44 (.move (tq 9) true),
   oo 45 (.fieldAddr 2 (tq 3)),
   oo 46 (.load false 1 (tq 45) false),
   oo 47 (.append 1 1 (tq 44) (tq 46)),
   oo 9 (.move (tq 47) true)])
 (.seq (.reg [oo 48 (.load true 4 (tq 8) false),
   oo 49 (.move (tq 9) false),
   oo 50 (.call 434 [((tq 48),0),((tq 49),0)] []),
   oo 10 (.alloc true [(.sc (.int .u8 0)),(.sc (.int .u8 0)),(.sc (.int .u8 0)),(.sc (.int .u8 0))]),
   oz (.store 4 (tq 10) (tq 50))])
 (.seq (.dreg [10] [(oo 51 (.move (tq 0) true),q1),
   (oo 52 (.move (tq 7) false),q0),
   (oo 53 (.sliceS 1 (tq 51) none (some (tq 52)) none),q0),
   (oo 54 (.move (tq 9) false),q0),
   (oo 55 (.sliceA 4 1 (tq 10) none none none),q1),
   (oo 56 (.buildSlice 1 3 [(.sl 1 [])] [(0,1,(tq 53)),(1,1,(tq 54)),(2,1,(tq 55))]),q0),
   (oo 57 (.call 435 [((tq 56),0)] []),q0),
   (oo 4 (.move (tq 57) true),q0),
   (oo 5 (.move (.const (.sc (.int .i64 0))) false),q0)])
 .ret))))))))))⟩
def zlU:Hint:=⟨[(0,0),(0,1),(2,0),(3,2),(3,3),(5,0),(6,5),(7,0),(7,6),(8,5),(9,0),(9,4),(11,0),(11,7)],[],[none,none,none,none,none],[(11,[10])],[],false,false⟩
def zjz:Nat→Sh:=yU [(23,(.sl 1)),(29,(.sl 1)),(35,(.int .i64)),(41,(.int .i64)),(46,(.sl 1))]
def zji (yz:zcT) (xw:zbP) (zH:zf2) (xz:zc3) (yl:y9) (L:Nat):CBC:=(yE 435 (zbf yl L) (yE 434 (zfI xz L) (yE 157 (zf6 zH L) (yE 433 (zeP xw L) (yE 432 (zfE yz L) noC)))))
def zke {β:Type} (yz:zcT) (xw:zbP) (zH:zf2) (xz:zc3) (yl:y9) (L:Nat) (p0:List (List V)) (p1:List V) (k_fin:List (List V)→Int→Option β):Option β :=
 chk (0+3≤(List.length p1)) (
 yz β L (List.map V.dem (List.take 3 p1)) (fun v0 =>
 ifb (!v0) (
 k_fin ([]:List (List V)) (6:Int)) (
 xw β L p0 (fun v1 v2 v3 =>
 chk ((List.length v3)=4∧0+4≤4) (
 lt (xn [(V.sc (.int .u8 (0:Int))),(V.sc (.int .u8 (0:Int))),(V.sc (.int .u8 (0:Int))),(V.sc (.int .u8 (0:Int)))] 0 v3) fun r4 =>
 lt (IntKind.wrap .i64 ((v2:Int)+(9:Int))) fun x5 =>
 cLd 1 p1 2 fun v6 =>
 lt (IntKind.wrap .i64 ((x5:Int)+((List.length v6:Nat):Int))) fun x7 =>
 lt (IntKind.wrap .i64 ((x7:Int)+(4:Int))) fun x8 =>
 ifb (decide (x8 > (1048576:Int))) (
 k_fin ([]:List (List V)) (4:Int)) (
 cLd 1 p1 2 fun v9 =>
 lt (IntKind.wrap .u32 ((List.length v9:Nat):Int)) fun x10 =>
 zH β L ([]:List (List V)) x10 (fun v11 =>
 cI .i64 p1 0 fun v12 =>
 lt (IntKind.wrap .u8 v12) fun x13 =>
 chk ((List.length v11+List.length (yh 1 1 [(V.sc (.int .u8 x13))])) * 1≤xi∧List.length v11+List.length (yh 1 1 [(V.sc (.int .u8 x13))])≤xi) (
 lt (v11++(yh 1 1 [(V.sc (.int .u8 x13))])) fun l14 =>
 cI .i64 p1 1 fun v15 =>
 lt (IntKind.wrap .u32 v15) fun x16 =>
 zH β L l14 x16 (fun v17 =>
 cLd 1 p1 2 fun v18 =>
 chk ((List.length v17+List.length v18) * 1≤xi∧List.length v17+List.length v18≤xi) (
 lt (v17++v18) fun l19 =>
 chk (0+4≤(List.length r4)) (
 xz β L (List.take 4 r4) l19 (fun v20 =>
 chk ((List.length v20)=4∧0+4≤4) (
 lt (xn [(V.sc (.int .u8 (0:Int))),(V.sc (.int .u8 (0:Int))),(V.sc (.int .u8 (0:Int))),(V.sc (.int .u8 (0:Int)))] 0 v20) fun r21 =>
 chk ((List.length r21)≠0) (
 chk (0≤v2∧v2≤(((List.length p0):Nat):Int)) (
 chk (0+4 * 1≤(List.length r21)) (
 yl β L (yh 1 3 [(V.sl 1 (List.take ((Int.toNat v2) - 0) (List.drop 0 p0))),(V.sl 1 l19),(V.sl 1 (yh 1 4 r21))]) (fun v22 =>
 k_fin v22 (0:Int))))))))))))))))))
theorem zsk {β:Type} (yz:zcT) (xw:zbP) (zH:zf2) (xz:zc3) (yl:y9) (L:Nat) (p0:List (List V)) (p1:List V) (k:KK β):yt zjz (zji yz xw zH xz yl L) L zgf [(V.sl 1 p0),(V.agg p1)] [] k=zke yz xw zH xz yl L p0 p1 (fun zGg zGh=>k (V.tup [(V.gs 1 zGg),(V.sc (.int .i64 zGh))]) []):=by kernel_rfl
abbrev zh:=∀ (β:Type),Nat→List (List V)→List V→(List (List V)→Int→Option β)→Option β
def ya (β:Type) (L:Nat) (p0:List (List V)) (p1:List V) (k_fin:List (List V)→Int→Option β):Option β:=zke yz xw zH xz yl L p0 p1 k_fin
def zdp (ya:zh) (L:Nat) (β:Type) (args:List V) (bor:Bor) (k:KK β):Option β:=match args,bor with
 | [a0,a1],[]=>aL 1 a0 fun p0=>aG a1 fun p1=>ya β L p0 p1 (fun zGg zGh=>k (V.tup [(V.gs 1 zGg),(V.sc (.int .i64 zGh))]) [])
 | _,_=>none
theorem zse (L:Nat) (β:Type) (args:List V) (bor:Bor) (k:KK β) (r:β) (h:zdp ya L β args bor k=some r):yt zjz (zji yz xw zH xz yl L) L zgf args bor k=some r:=by
 unfold zdp at h
 split at h
 ·have q:=yP h; clear h; obtain ⟨p0,rfl,h⟩:=q
  have q:=zgy h; clear h; obtain ⟨p1,rfl,h⟩:=q
  exact (zsk yz xw zH xz yl L p0 p1 k).trans h
 ·cases h
def zhP:CF:=⟨15,[.tmp 2,.tmp 3],
 (.seq (.reg [oo 2 (.move (.const (.gs 3 [])) true),
   oo 3 (.move (.const (.sc (.int .i64 0))) false)])
 (.seq (.reg [oo 8 (.move (tq 0) false),
   oo 9 (.call 433 [((tq 8),0)] []),
   oo 7 (.move (tq 9) true),
   oo 10 (.extract (tq 7) 0),
   oo 11 (.pull (tq 7) 1),
   oo 12 (.pull (tq 7) 2),
   oo 6 (.alloc true [(.sc (.int .u8 0)),(.sc (.int .u8 0)),(.sc (.int .u8 0)),(.sc (.int .u8 0))]),
   oo 4 (.move (tq 10) true),
   oo 5 (.move (tq 11) false),
   oz (.store 4 (tq 6) (tq 12))])
 (.seq (.reg [oo 13 (.move (tq 4) true),
   oo 14 (.move (tq 5) false),
   oo 2 (.move (tq 13) true),
   oo 3 (.move (tq 14) false)])
 .ret)))⟩
def znM:Hint:=⟨[(0,0),(1,2),(1,3),(1,7),(2,0),(2,2)],[],[none],[],[],false,false⟩
def zlh:Nat→Sh:=yU []
def zkP (xw:zbP) (L:Nat):CBC:=(yE 433 (zeP xw L) noC)
def zmp {β:Type} (xw:zbP) (L:Nat) (p0:List (List V)) (k_fin:List (List V)→Int→Option β):Option β :=
 xw β L p0 (fun v0 v1 v2 =>
 chk ((List.length v2)=4∧0+4≤4) (
 lt (xn [(V.sc (.int .u8 (0:Int))),(V.sc (.int .u8 (0:Int))),(V.sc (.int .u8 (0:Int))),(V.sc (.int .u8 (0:Int)))] 0 v2) fun r3 =>
 k_fin v0 v1))
theorem zun {β:Type} (xw:zbP) (L:Nat) (p0:List (List V)) (k:KK β):yt zlh (zkP xw L) L zhP [(V.sl 1 p0)] [] k=zmp xw L p0 (fun zGg zGh=>k (V.tup [(V.gs 3 zGg),(V.sc (.int .i64 zGh))]) []):=by kernel_rfl
abbrev yw:=∀ (β:Type),Nat→List (List V)→(List (List V)→Int→Option β)→Option β
def ze (β:Type) (L:Nat) (p0:List (List V)) (k_fin:List (List V)→Int→Option β):Option β:=zmp xw L p0 k_fin
def zgm (ze:yw) (L:Nat) (β:Type) (args:List V) (bor:Bor) (k:KK β):Option β:=match args,bor with
 | [a0],[]=>aL 1 a0 fun p0=>ze β L p0 (fun zGg zGh=>k (V.tup [(V.gs 3 zGg),(V.sc (.int .i64 zGh))]) [])
 | _,_=>none
theorem ztY (L:Nat) (β:Type) (args:List V) (bor:Bor) (k:KK β) (r:β) (h:zgm ze L β args bor k=some r):yt zlh (zkP xw L) L zhP args bor k=some r:=by
 unfold zgm at h
 split at h
 ·have q:=yP h; clear h; obtain ⟨p0,rfl,h⟩:=q
  exact (zun xw L p0 k).trans h
 ·cases h
def zj1:CF:=⟨51,[.tmp 0],
 (.seq (.reg [oo 0 (.move (.const (.sc (.bool false))) false)])
 (.seq (.reg [oo 8 (.build [(.sc (.int .i64 0)),(.sc (.int .i64 0)),(.sl 1 [])] [(0,1,(.const (.sc (.int .i64 4))))]),
   oo 9 (.call 414 [((.const (.gs 1 [])),0),((tq 8),1)] []),
   oo 7 (.move (tq 9) true),
   oo 10 (.extract (tq 7) 0),
   oo 11 (.pull (tq 7) 1),
   oo 1 (.move (tq 10) true),
   oo 2 (.move (tq 11) false)])
 (.seq (.reg [oo 13 (.move (tq 1) false),
   oo 14 (.call 415 [((tq 13),0)] []),
   oo 12 (.move (tq 14) true),
   oo 15 (.extract (tq 12) 0),
   oo 16 (.pull (tq 12) 1),
   oo 3 (.move (tq 15) false),
   oo 4 (.move (tq 16) false)])
 (.seq (.reg [oo 18 (.move (tq 1) false),
   oo 19 (.move (tq 1) false),
   oo 20 (.lenS (tq 19)),
   oo 21 (.mm false (.const (.sc (.int .i64 12))) (tq 20)),
   oo 22 (.sliceS 1 (tq 18) none (some (tq 21)) none),
   oo 23 (.call 415 [((tq 22),0)] []),
   oo 17 (.move (tq 23) true),
   oo 24 (.extract (tq 17) 0),
   oo 25 (.pull (tq 17) 1),
   oo 5 (.move (tq 24) false),
   oo 6 (.move (tq 25) false)])
 (.seq (.reg [oo 26 (.move (tq 2) false),
   oo 27 (.bin .eql (tq 26) (.const (.sc (.int .i64 0)))),
   oo 28 (.move (tq 27) false),
   ⟨(some 29),false,(some (28,true)),.move (tq 1) false⟩,
   ⟨(some 30),false,(some (28,true)),.lenS (tq 29)⟩,
   ⟨(some 31),false,(some (28,true)),.bin .eql (tq 30) (.const (.sc (.int .i64 13)))⟩,
   oo 32 (.pick (tq 28) (tq 31) (.const (.sc (.bool false)))),
   oo 33 (.move (tq 32) false),
   ⟨(some 34),false,(some (33,true)),.move (tq 3) false⟩,
   ⟨(some 35),false,(some (33,true)),.lenS (tq 34)⟩,
   ⟨(some 36),false,(some (33,true)),.bin .eql (tq 35) (.const (.sc (.int .i64 1)))⟩,
   oo 37 (.pick (tq 33) (tq 36) (.const (.sc (.bool false)))),
   oo 38 (.move (tq 37) false),
   ⟨(some 39),false,(some (38,true)),.move (tq 4) false⟩,
   ⟨(some 40),false,(some (38,true)),.bin .eql (tq 39) (.const (.sc (.int .i64 13)))⟩,
   oo 41 (.pick (tq 38) (tq 40) (.const (.sc (.bool false)))),
   oo 42 (.move (tq 41) false),
   ⟨(some 43),false,(some (42,true)),.move (tq 5) false⟩,
   ⟨(some 44),false,(some (42,true)),.lenS (tq 43)⟩,
   ⟨(some 45),false,(some (42,true)),.bin .eql (tq 44) (.const (.sc (.int .i64 0)))⟩,
   oo 46 (.pick (tq 42) (tq 45) (.const (.sc (.bool false)))),
   oo 47 (.move (tq 46) false),
   ⟨(some 48),false,(some (47,true)),.move (tq 6) false⟩,
   ⟨(some 49),false,(some (47,true)),.bin .eql (tq 48) (.const (.sc (.int .i64 0)))⟩,
   oo 50 (.pick (tq 47) (tq 49) (.const (.sc (.bool false)))),
   oo 0 (.move (tq 50) false)])
 .ret)))))⟩
def zpy:Hint:=⟨[(1,2),(1,3),(1,5),(2,2),(2,3),(3,6),(3,7)],[],[none],[],[],false,false⟩
def znC:Nat→Sh:=yU []
def znz (ya:zh) (ze:yw) (L:Nat):CBC:=(yE 415 (zgm ze L) (yE 414 (zdp ya L) noC))
def zoU {β:Type} (ya:zh) (ze:yw) (L:Nat) (k_fin:Bool→Option β):Option β :=
 ya β L ([]:List (List V)) [(V.sc (.int .i64 (4:Int))),(V.sc (.int .i64 (0:Int))),(V.sl 1 ([]:List (List V)))] (fun v0 v1 =>
 ze β L v0 (fun v2 v3 =>
 lt (zE9 (12:Int) ((List.length v0:Nat):Int)) fun x4 =>
 chk (0≤x4∧x4≤(((List.length v0):Nat):Int)) (
 ze β L (List.take ((Int.toNat x4) - 0) (List.drop 0 v0)) (fun v5 v6 =>
 ifb ((v1:Int) == (0:Int)) (
 ifb ((((List.length v0:Nat):Int):Int) == (13:Int)) (
 ifb ((((List.length v2:Nat):Int):Int) == (1:Int)) (
 ifb ((v3:Int) == (13:Int)) (
 ifb ((((List.length v5:Nat):Int):Int) == (0:Int)) (
 k_fin ((v6:Int) == (0:Int))) (
 k_fin false)) (
 k_fin false)) (
 k_fin false)) (
 k_fin false)) (
 k_fin false)))))
theorem zwc {β:Type} (ya:zh) (ze:yw) (L:Nat) (k:KK β):yt znC (znz ya ze L) L zj1 [] [] k=zoU ya ze L (fun p0=>k (V.sc (.bool p0)) []):=by kernel_rfl
abbrev zp:=∀ (β:Type),Nat→(Bool→Option β)→Option β
def zc (β:Type) (L:Nat) (k_fin:Bool→Option β):Option β:=zoU ya ze L k_fin
def zic (zc:zp) (L:Nat) (β:Type) (args:List V) (bor:Bor) (k:KK β):Option β:=match args,bor with
 | [],[]=>zc β L (fun p0=>k (V.sc (.bool p0)) [])
 | _,_=>none
theorem zv7 (L:Nat) (β:Type) (args:List V) (bor:Bor) (k:KK β) (r:β) (h:zic zc L β args bor k=some r):yt znC (znz ya ze L) L zj1 args bor k=some r:=by
 unfold zic at h
 split at h
 ·exact (zwc ya ze L k).trans h
 ·cases h
def zmM:CF:=⟨6,[.tmp 2],
 (.seq (.reg [oo 2 (.move (.const (.sc (.pointer none))) false)])
 (.seq (.reg [oo 3 (.move (tq 0) false),
   oo 4 (.build [(.sl 1 []),(.sc (.int .i64 0))] [(0,1,(tq 3))]),
   oo 5 (.box false (tq 4)),
   oo 2 (.move (tq 5) false)])
 .ret))⟩
def zr0:Hint:=⟨[],[],[none],[],[],false,false⟩
def zp1:Nat→Sh:=yU []
def zp4 (L:Nat):CBC:=noC
def zrA {β:Type} (L:Nat) (p0:List (List V)) (k_fin:List (List V)→Int→Option β):Option β :=
 k_fin p0 (0:Int)
theorem zyv {β:Type} (L:Nat) (p0:List (List V)) (k:KK β):yt zp1 (zp4 L) L zmM [(V.sl 1 p0)] [] k=zrA L p0 (fun zGg zGh=>k (V.bx false [(V.sl 1 zGg),(V.sc (.int .i64 zGh))]) []):=by kernel_rfl
abbrev xo:=∀ (β:Type),Nat→List (List V)→(List (List V)→Int→Option β)→Option β
def xb (β:Type) (L:Nat) (p0:List (List V)) (k_fin:List (List V)→Int→Option β):Option β:=zrA L p0 k_fin
def ziH (xb:xo) (L:Nat) (β:Type) (args:List V) (bor:Bor) (k:KK β):Option β:=match args,bor with
 | [a0],[]=>aL 1 a0 fun p0=>xb β L p0 (fun zGg zGh=>k (V.bx false [(V.sl 1 zGg),(V.sc (.int .i64 zGh))]) [])
 | _,_=>none
theorem zyy (L:Nat) (β:Type) (args:List V) (bor:Bor) (k:KK β) (r:β) (h:ziH xb L β args bor k=some r):yt zp1 (zp4 L) L zmM args bor k=some r:=by
 unfold ziH at h
 split at h
 ·have q:=yP h; clear h; obtain ⟨p0,rfl,h⟩:=q
  exact (zyv L p0 k).trans h
 ·cases h
end
end Go.Proofs.YteopmmegeagklaaDoor
