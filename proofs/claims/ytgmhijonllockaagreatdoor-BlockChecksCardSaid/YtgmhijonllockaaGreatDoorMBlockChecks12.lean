/- Part 12 of the proof of BlockChecks: an abstract machine over plain values, its soundness, and the functions of the program on plain values. -/
import Derived.Test.YtgmhijonllockaaGreatDoorMBlockChecks11
namespace Go.Proofs.YtgmhijonllockaaGreatDoor
set_option maxRecDepth 100000
set_option linter.unusedVariables false
set_option linter.unusedSimpArgs false
open List renaming length->XK,take->XL,replicate->We,map->Xv
open IntKind renaming wrap->QG
open Option renaming getD->XP
section
noncomputable section
def zDL:Hint:=⟨[(4,3),(6,3),(13,3),(16,2),(17,5),(25,2),(28,2)],[],[none,some ((bl 14680073 94),(bl 19807040628566084346308848139 94)),none,some ((bl 9 94),(bl 19807040628566084346308848139 94)),none,none,some ((bl 4 94),(bl 19807040628566084346308848143 94)),none,some ((bl 15393162788873 94),(bl 19807040621647429470837377435 94)),none,some ((bl 1 94),(bl 19807040621647429470837377435 94)),none,none,some ((bl 3956042836738569 94),(bl 19807040621648555370744220571 94)),none,some ((bl 15393162788873 94),(bl 19807040621648555370744220571 94)),none,none,some ((bl 4 94),(bl 19807040621647429470837377439 94)),none,some ((bl 33056565380087516528640 94),(bl 19805831702746469769210620827 94)),none,some ((bl 0 94),(bl 19805831702746469769210620827 94)),none,none,some ((bl 4264296934031289628000256 94),(bl 19807040628566084398385327003 94)),none,some ((bl 33056565380087516528640 94),(bl 19807040628566084398385327003 94)),none,none,some ((bl 4 94),(bl 19805831702746469769210620831 94)),none],[],[],false,false,[]⟩
def cf_block_coins:CF:=cfD zDL 45
def zf6:CC:=zE [1,1,1,1,1,0,1,0,0,1,1,0,0,1,1,0,0] cf_block_coins.body
def zhr:CC:=zE [1,1,1,0,1,0,0,1,1,0,0,1,1,0,0] cf_block_coins.body
def zjk:CC:=zE [1,1,1,1,1,0,1,0,0,1,1,1] cf_block_coins.body
def zkw:CC:=zE [1,1,1,0,1,0,0,1,1,1] cf_block_coins.body
def zhA:CC:=zE [1,1,1,1,1,0,1,0,0] cf_block_coins.body
def zjj:CC:=zE [1,1,1,0,1,0,0] cf_block_coins.body
def zoC:CC:=zE [1,1,0,1,0,0] cf_block_coins.body
def zo1:CC:=zE [1,1,1,1,1,1] cf_block_coins.body
def zl3:CC:=zE [1,1,1,1] cf_block_coins.body
def zno:CC:=zE [1,1,1] cf_block_coins.body
def xJ:Nat→Sh:=zl [(33,(.int .i64)),(49,(.sl 35)),(60,(.int .i64)),(79,(.sl 35)),(88,.bool)]
def yJ(xk:xV)(L:Nat):CBC:=(xg 548 (zXv xk L) noC)
def zqK:St→St:=zQ 0 (bl 14680073 94) (bl 19807040628566084346308848139 94)
def zdf:St→St:=zQ 0 (bl 15393162788873 94) (bl 19807040621647429470837377435 94)
def zh0:St→St:=zQ 0 (bl 3956042836738569 94) (bl 19807040621648555370744220571 94)
def zcx:St→St:=zQ 0 (bl 33056565380087516528640 94) (bl 19805831702746469769210620827 94)
def zgJ:St→St:=zQ 0 (bl 4264296934031289628000256 94) (bl 19807040628566084398385327003 94)
def zig(D p:Ls)(z A:Int)(C:Lm):St:=⟨((V.sl 4 D)::(jn 2 ((V.mp 20)::(jn 17 ((V.sl 4 p)::((Qe z)::((Qe A)::(jn 70 [])))))))),(gn 20 ((.mp C)::(gn 73 [])))⟩
def zbE(z:Int)(p:Lm):St:=⟨(jn 2 ((Qe z)::(jn 91 []))),(gn 20 ((.mp p)::(gn 73 [])))⟩
def zl6(z:Ls)(p:Lm):St:=⟨((V.sl 4 z)::(jn 2 ((V.mp 20)::(jn 90 [])))),(gn 20 ((.mp p)::(gn 73 [])))⟩
def zc5(D p:Ls)(z A:Int)(C:Lm):St:=⟨((V.sl 4 D)::(jn 2 ((V.mp 20)::(jn 37 ((V.sl 4 p)::((Qe z)::((Qe A)::(jn 50 [])))))))),(gn 20 ((.mp C)::(gn 73 [])))⟩
def zdo(G:Ls)(H:Int)(p:Ls)(z A:Int)(C:Ls)(D E:Int)(F:Lm):St:=⟨((V.sl 4 G)::(jn 2 ((V.mp 20)::(jn 5 ((Qe H)::(jn 31 ((V.sl 4 p)::((Qe z)::((Qe A)::(jn 5 ((V.sl 35 C)::((Qe D)::((Qe E)::(jn 42 [])))))))))))))),(gn 20 ((.mp F)::(gn 73 [])))⟩
def ziQ(z:Ls)(p:Lm):St:=⟨((V.sl 4 z)::(jn 93 [])),(gn 20 ((.mp p)::(gn 73 [])))⟩
def zcs(p:Ls)(z A:Int)(C D:Lm):St:=⟨(jn 15 ((V.mp 71)::(jn 56 ((V.sl 4 p)::((Qe z)::((Qe A)::(jn 19 []))))))),(gn 20 ((.mp C)::(gn 50 ((.mp D)::(gn 22 [])))))⟩
def zr0(D p:Ls)(z A:Int)(C:Lm):St:=⟨((V.sl 4 D)::(jn 2 ((V.mp 20)::(jn 37 ((V.sl 4 p)::((Qe z)::((Qe A)::(jn 50 [])))))))),(gn 20 ((.mp C)::(gn 73 [])))⟩
def zcO(p:Ls)(z A:Int)(C:Ls)(D E:Int)(F G:Lm):St:=⟨(jn 15 ((V.mp 71)::(jn 56 ((V.sl 4 p)::((Qe z)::((Qe A)::(jn 4 ((V.sl 35 C)::((Qe D)::((Qe E)::(jn 12 []))))))))))),(gn 20 ((.mp F)::(gn 50 ((.mp G)::(gn 22 [])))))⟩
def zl5(p z:Lm):St:=⟨(jn 94 []),(gn 20 ((.mp p)::(gn 50 ((.mp z)::(gn 22 [])))))⟩
def zcN(A:Int)(p z:Lm):St:=⟨(jn 2 ((Qe A)::(jn 91 []))),(gn 20 ((.mp p)::(gn 50 ((.mp z)::(gn 22 [])))))⟩
def zrX(p:Ls)(z A:Int)(C D:Lm):St:=⟨(jn 15 ((V.mp 71)::(jn 56 ((V.sl 4 p)::((Qe z)::((Qe A)::(jn 19 []))))))),(gn 20 ((.mp C)::(gn 50 ((.mp D)::(gn 22 [])))))⟩
abbrev zxM(β:Type):Type:=Ls→Ls→Int→Int→Lm→Ob β
abbrev znr(β:Type):Type:=Ls→Ls→Int→Int→Lm→Ob β
abbrev zmq(β:Type):Type:=Ls→Int→Ls→Int→Int→Ls→Int→Int→Lm→Ob β
abbrev zlA(β:Type):Type:=Ls→Int→Int→Lm→Lm→Ob β
abbrev zHE(β:Type):Type:=Ls→Ls→Int→Int→Lm→Ob β
abbrev zkV(β:Type):Type:=Ls→Int→Int→Ls→Int→Int→Lm→Lm→Ob β
abbrev zHO(β:Type):Type:=Ls→Int→Int→Lm→Lm→Ob β
def zBa{β:Type}(xk:xV)(L:Nat)(z:Ls)(p:zxM β):Ob β:=p z z ((XK z:Nat):Int) (0:Int) ([]:Lm)
theorem zSU{β:Type}(xk:xV)(L:Nat)(p:Ls)(k:KK β):yj xJ (yJ xk L) L cf_block_coins [(V.sl 4 p)] [] k=zBa xk L p (fun p z A C D=>xw (ze xJ (yJ xk L) 0 L zoC) zqK L (zig p z A C D) (zg 0 (zu (ze xJ (yJ xk L) 0 L zno) (yz 0 (CF.res cf_block_coins) k)))):=by kernel_rfl
def zp5{β:Type}(xk:xV)(L:Nat)(H E:Ls)(F z:Int)(A:Lm)(C:Int→Lm→Ob β)(p:zxM β)(G:Ls→Lm→Ob β):Ob β:=ifb (decide (z<F)) (idx E z fun I=>chk ((XK (XL 4 I))=4∧0+4≤4) (lt (zq [(Qc (0:Int)),(V.gs 35 ([]:Ls)),(V.gs 2 ([]:Ls)),(Qc (0:Int))] 0 (XL 4 I)) fun J=>chk (0+4≤(XK J)) (xk β L (Xv V.dem (XL 4 J)) (fun M=>chk ((XK M)=32∧0+32≤32) (lt (zq (We 32 (Qa (0:Int))) 0 M) fun D=>chk (0+32≤(XK D)) (mAt 34 (V.agg (XL 32 D)) A fun N=>aI .i64 (XP N (Qe (0:Int))) fun Q=>ifb (Option.isSome N) (C (91:Int) A) (chk (0+32≤(XK D)) (zI1 34 (V.agg (XL 32 D)) (Qe z) A fun O=>lt (QG .i64 ((z:Int)+(1:Int))) fun P=>p H E F P O)))))))) (G H A)
theorem zKr{β:Type}(xk:xV)(L:Nat)(D z:Ls)(A C:Int)(p:Lm)(X:St→Ob β)(K:KT β):ze xJ (yJ xk L) 0 L zoC (zig D z A C p) (yF zqK X K)=zp5 xk L D z A C p (fun E p=>K .ret (zbE E p)) (fun D z A C p=>X (zig D z A C p)) (fun D p=>K (.exit 0) (zl6 D p)):=by kernel_rfl
def zmm{β:Type}(xk:xV)(L:Nat)(z:Int)(A:Lm)(p:Int→Ob β):Ob β:=p z
theorem zFN{β:Type}(xk:xV)(L:Nat)(z:Int)(p:Lm)(k:KK β):(zg 0 (zu (ze xJ (yJ xk L) 0 L zno) (yz 0 (CF.res cf_block_coins) k))) .ret (zbE z p)=zmm xk L z p (fun A=>k (Qe A) []):=by kernel_rfl
def znd{β:Type}(xk:xV)(L:Nat)(z:Ls)(A:Lm)(p:znr β):Ob β:=p z z ((XK z:Nat):Int) (0:Int) A
theorem zF2{β:Type}(xk:xV)(L:Nat)(z:Ls)(p:Lm)(k:KK β):(zg 0 (zu (ze xJ (yJ xk L) 0 L zno) (yz 0 (CF.res cf_block_coins) k))) (.exit 0) (zl6 z p)=znd xk L z p (fun z A C D p=>xw (ze xJ (yJ xk L) 0 L zjj) zdf L (zc5 z A C D p) (zg 2 (zu (ze xJ (yJ xk L) 0 L zl3) (yz 0 (CF.res cf_block_coins) k)))):=by kernel_rfl
def zoS{β:Type}(xk:xV)(L:Nat)(G A:Ls)(C z:Int)(D:Lm)(p:zmq β)(F:Ls→Lm→Ob β):Ob β:=ifb (decide (z<C)) (idx A z fun H=>chk ((XK (XL 4 H))=4∧0+4≤4) (lt (zq [(Qc (0:Int)),(V.gs 35 ([]:Ls)),(V.gs 2 ([]:Ls)),(Qc (0:Int))] 0 (XL 4 H)) fun I=>cLd 35 I 1 fun E=>p G z A C z E ((XK E:Nat):Int) (0:Int) D)) (F G D)
theorem zJf{β:Type}(xk:xV)(L:Nat)(D z:Ls)(A C:Int)(p:Lm)(X:St→Ob β)(K:KT β):ze xJ (yJ xk L) 0 L zjj (zc5 D z A C p) (yF zdf X K)=zoS xk L D z A C p (fun D H z A C E F G p=>xw (ze xJ (yJ xk L) 0 L zhr) zh0 L (zdo D H z A C E F G p) (zg 4 (zg 3 (zu (ze xJ (yJ xk L) 0 L zkw) (yF zdf X K))))) (fun D p=>K (.exit 2) (ziQ D p)):=by kernel_rfl
def zml{β:Type}(xk:xV)(L:Nat)(z:Ls)(A:Lm)(p:zlA β):Ob β:=p z ((XK z:Nat):Int) (0:Int) A ([]:Lm)
theorem zFj{β:Type}(xk:xV)(L:Nat)(z:Ls)(p:Lm)(k:KK β):(zg 2 (zu (ze xJ (yJ xk L) 0 L zl3) (yz 0 (CF.res cf_block_coins) k))) (.exit 2) (ziQ z p)=zml xk L z p (fun A C D p E=>xw (ze xJ (yJ xk L) 0 L zhA) zcx L (zcs A C D p E) (zg 6 (zu (ze xJ (yJ xk L) 0 L zo1) (yz 0 (CF.res cf_block_coins) k)))):=by kernel_rfl
def zhT{β:Type}(xk:xV)(L:Nat)(N:Ls)(O:Int)(C:Ls)(D E:Int)(F:Ls)(G A:Int)(z:Lm)(H:Int→Lm→Ob β)(p:zmq β)(P:zHE β):Ob β:=ifb (decide (A<G)) (idx F A fun I=>chk ((XK (XL 35 I))=35∧0+35≤35) (lt (zq (We 32 (Qa (0:Int))++[(Qc (0:Int)),(Qc (0:Int)),(V.gs 1 ([]:Ls))]) 0 (XL 35 I)) fun J=>chk (0+32≤(XK J)) (mAt 34 (V.agg (XL 32 J)) z fun M=>aI .i64 (XP M (Qe (0:Int))) fun Q=>ifb (Option.isSome M) (ifb (decide (Q≥O)) (H (101:Int) z) (lt (QG .i64 ((A:Int)+(1:Int))) fun R=>p N O C D E F G R z)) (lt (QG .i64 ((A:Int)+(1:Int))) fun S=>p N O C D E F G S z)))) (P N C D E z)
theorem zvw{β:Type}(xk:xV)(L:Nat)(G:Ls)(H:Int)(z:Ls)(A C:Int)(D:Ls)(E F:Int)(p:Lm)(X:St→Ob β)(K:KT β):ze xJ (yJ xk L) 0 L zhr (zdo G H z A C D E F p) (yF zh0 X K)=zhT xk L G H z A C D E F p (fun I p=>K .ret (zbE I p)) (fun G H z A C D E F p=>X (zdo G H z A C D E F p)) (fun G z A C p=>K (.exit 4) (zr0 G z A C p)):=by kernel_rfl
def zmo{β:Type}(xk:xV)(L:Nat)(A:Ls)(C z:Int)(D E:Lm)(p:zkV β)(H:Lm→Lm→Ob β):Ob β:=ifb (decide (z<C)) (idx A z fun F=>chk ((XK (XL 4 F))=4∧0+4≤4) (lt (zq [(Qc (0:Int)),(V.gs 35 ([]:Ls)),(V.gs 2 ([]:Ls)),(Qc (0:Int))] 0 (XL 4 F)) fun I=>cLd 35 I 1 fun G=>p A C z G ((XK G:Nat):Int) (0:Int) D E)) (H D E)
theorem zEi{β:Type}(xk:xV)(L:Nat)(A:Ls)(C D:Int)(p z:Lm)(X:St→Ob β)(K:KT β):ze xJ (yJ xk L) 0 L zhA (zcs A C D p z) (yF zcx X K)=zmo xk L A C D p z (fun A C D E F G p z=>xw (ze xJ (yJ xk L) 0 L zf6) zgJ L (zcO A C D E F G p z) (zg 8 (zg 7 (zu (ze xJ (yJ xk L) 0 L zjk) (yF zcx X K))))) (fun p z=>K (.exit 6) (zl5 p z)):=by kernel_rfl
def zgn{β:Type}(xk:xV)(L:Nat)(A:Int)(z:Lm)(p:Int→Lm→Ob β):Ob β:=p A z
theorem ztw{β:Type}(xk:xV)(L:Nat)(z:Int)(p:Lm)(X:St→Ob β)(K:KT β):(zg 4 (zg 3 (zu (ze xJ (yJ xk L) 0 L zkw) (yF zdf X K)))) .ret (zbE z p)=zgn xk L z p (fun z p=>K .ret (zbE z p)):=by kernel_rfl
def zgG{β:Type}(xk:xV)(L:Nat)(F z:Ls)(A C:Int)(D:Lm)(p:znr β):Ob β:=lt (QG .i64 ((C:Int)+(1:Int))) fun E=>p F z A E D
theorem zuF{β:Type}(xk:xV)(L:Nat)(D p:Ls)(z A:Int)(C:Lm)(X:St→Ob β)(K:KT β):(zg 4 (zg 3 (zu (ze xJ (yJ xk L) 0 L zkw) (yF zdf X K)))) (.exit 4) (zr0 D p z A C)=zgG xk L D p z A C (fun D p z A C=>X (zc5 D p z A C)):=by kernel_rfl
def zkk{β:Type}(xk:xV)(L:Nat)(z A:Lm)(p:Int→Ob β):Ob β:=p (0:Int)
theorem zBs{β:Type}(xk:xV)(L:Nat)(p z:Lm)(k:KK β):(zg 6 (zu (ze xJ (yJ xk L) 0 L zo1) (yz 0 (CF.res cf_block_coins) k))) (.exit 6) (zl5 p z)=zkk xk L p z (fun A=>k (Qe A) []):=by kernel_rfl
def zgL{β:Type}(xk:xV)(L:Nat)(F:Ls)(G H:Int)(I:Ls)(J D:Int)(E z:Lm)(C:Int→Lm→Lm→Ob β)(p:zkV β)(N:zHO β):Ob β:=ifb (decide (D<J)) (idx I D fun M=>chk ((XK (XL 35 M))=35∧0+35≤35) (lt (zq (We 32 (Qa (0:Int))++[(Qc (0:Int)),(Qc (0:Int)),(V.gs 1 ([]:Ls))]) 0 (XL 35 M)) fun A=>chk (0+33≤(XK A)) (mAt 35 (V.agg (XL 33 A)) z fun O=>aB (XP O (V.sc (.bool false))) fun P=>ifb P (C (91:Int) E z) (chk (0+33≤(XK A)) (zI1 35 (V.agg (XL 33 A)) (V.sc (.bool true)) z fun Q=>lt (QG .i64 ((D:Int)+(1:Int))) fun R=>p F G H I J R E Q))))) (N F G H E z)
theorem zuk{β:Type}(xk:xV)(L:Nat)(A:Ls)(C D:Int)(E:Ls)(F G:Int)(p z:Lm)(X:St→Ob β)(K:KT β):ze xJ (yJ xk L) 0 L zf6 (zcO A C D E F G p z) (yF zgJ X K)=zgL xk L A C D E F G p z (fun H p z=>K .ret (zcN H p z)) (fun A C D E F G p z=>X (zcO A C D E F G p z)) (fun A C D p z=>K (.exit 8) (zrX A C D p z)):=by kernel_rfl
def zs8{β:Type}(xk:xV)(L:Nat)(z:Int)(A:Lm)(p:Int→Ob β):Ob β:=p z
theorem zDi{β:Type}(xk:xV)(L:Nat)(z:Int)(p:Lm)(k:KK β):(zg 2 (zu (ze xJ (yJ xk L) 0 L zl3) (yz 0 (CF.res cf_block_coins) k))) .ret (zbE z p)=zs8 xk L z p (fun A=>k (Qe A) []):=by kernel_rfl
def zes{β:Type}(xk:xV)(L:Nat)(C:Int)(z A:Lm)(p:Int→Lm→Lm→Ob β):Ob β:=p C z A
theorem zpO{β:Type}(xk:xV)(L:Nat)(A:Int)(p z:Lm)(X:St→Ob β)(K:KT β):(zg 8 (zg 7 (zu (ze xJ (yJ xk L) 0 L zjk) (yF zcx X K)))) .ret (zcN A p z)=zes xk L A p z (fun A p z=>K .ret (zcN A p z)):=by kernel_rfl
def zcX{β:Type}(xk:xV)(L:Nat)(z:Ls)(A C:Int)(D E:Lm)(p:zlA β):Ob β:=lt (QG .i64 ((C:Int)+(1:Int))) fun F=>p z A F D E
theorem zr9{β:Type}(xk:xV)(L:Nat)(p:Ls)(z A:Int)(C D:Lm)(X:St→Ob β)(K:KT β):(zg 8 (zg 7 (zu (ze xJ (yJ xk L) 0 L zjk) (yF zcx X K)))) (.exit 8) (zrX p z A C D)=zcX xk L p z A C D (fun p z A C D=>X (zcs p z A C D)):=by kernel_rfl
def ziv{β:Type}(xk:xV)(L:Nat)(z:Int)(A C:Lm)(p:Int→Ob β):Ob β:=p z
theorem zxD{β:Type}(xk:xV)(L:Nat)(A:Int)(p z:Lm)(k:KK β):(zg 6 (zu (ze xJ (yJ xk L) 0 L zo1) (yz 0 (CF.res cf_block_coins) k))) .ret (zcN A p z)=ziv xk L A p z (fun C=>k (Qe C) []):=by kernel_rfl
def zft{β:Type}(xk:xV)(L:Nat)(p:Int→Lm→Ob β)(z:Ls→Lm→Ob β):Nat→Ls→Ls→Int→Int→Lm→Ob β
 | 0,_,_,_,_,_=>none
 | n+1,F,A,C,D,E=>zp5 xk L F A C D E p (fun F A C D E=>zft xk L p z n F A C D E) z
theorem zvb{β:Type}(xk:xV)(L:Nat)(K:KT β):∀ (n:Nat) (z A:Ls) (C D:Int) (p:Lm),xw (ze xJ (yJ xk L) 0 L zoC) zqK n (zig z A C D p) K=zft xk L (fun E p=>K .ret (zbE E p)) (fun z p=>K (.exit 0) (zl6 z p)) n z A C D p:=by
 intro n; induction n <;> intros
 ·rfl
 ·exact (zKr ..).trans (by simp only [*]; rfl)
def zbf{β:Type}(xk:xV)(L:Nat)(p:Int→Lm→Ob β)(z:zHE β):Nat→Ls→Int→Ls→Int→Int→Ls→Int→Int→Lm→Ob β
 | 0,_,_,_,_,_,_,_,_,_=>none
 | n+1,I,J,A,C,D,E,F,G,H=>zhT xk L I J A C D E F G H p (fun I J A C D E F G H=>zbf xk L p z n I J A C D E F G H) z
theorem zk1{β:Type}(xk:xV)(L:Nat)(K:KT β):∀ (n:Nat) (D:Ls) (H:Int) (z:Ls) (A C:Int) (E:Ls) (F G:Int) (p:Lm),xw (ze xJ (yJ xk L) 0 L zhr) zh0 n (zdo D H z A C E F G p) K=zbf xk L (fun I p=>K .ret (zbE I p)) (fun D z A C p=>K (.exit 4) (zr0 D z A C p)) n D H z A C E F G p:=by
 intro n; induction n <;> intros
 ·rfl
 ·exact (zvw ..).trans (by simp only [*]; rfl)
def ziX{β:Type}(xk:xV)(L:Nat)(E z:Ls)(A C:Int)(p:Lm)(G:Ls→Lm→Ob β)(F:Int→Lm→Ob β)(D:znr β):Ob β:=zoS xk L E z A C p (fun E M z A C H I J p=>zbf xk L (fun N p=>zgn xk L N p F) (fun E z A C p=>zgG xk L E z A C p D) L E M z A C H I J p) G
theorem zGd{β:Type}(xk:xV)(L:Nat)(D z:Ls)(A C:Int)(p:Lm)(X:St→Ob β)(K:KT β):ze xJ (yJ xk L) 0 L zjj (zc5 D z A C p) (yF zdf X K)=ziX xk L D z A C p (fun D p=>K (.exit 2) (ziQ D p)) (fun E p=>K .ret (zbE E p)) (fun D z A C p=>X (zc5 D z A C p)):=by
 refine (zJf xk L D z A C p X K).trans ?_
 unfold ziX
 first
  | (simp only [zk1,ztw,zuF]; done)
  | (simp only [zk1]; rfl)
def zg7{β:Type}(xk:xV)(L:Nat)(z:Ls→Lm→Ob β)(p:Int→Lm→Ob β):Nat→Ls→Ls→Int→Int→Lm→Ob β
 | 0,_,_,_,_,_=>none
 | n+1,F,A,C,D,E=>ziX xk L F A C D E z p (fun F A C D E=>zg7 xk L z p n F A C D E)
theorem zs6{β:Type}(xk:xV)(L:Nat)(K:KT β):∀ (n:Nat) (z A:Ls) (C D:Int) (p:Lm),xw (ze xJ (yJ xk L) 0 L zjj) zdf n (zc5 z A C D p) K=zg7 xk L (fun z p=>K (.exit 2) (ziQ z p)) (fun E p=>K .ret (zbE E p)) n z A C D p:=by
 intro n; induction n <;> intros
 ·rfl
 ·exact (zGd ..).trans (by simp only [*]; rfl)
def zcj{β:Type}(xk:xV)(L:Nat)(p:Int→Lm→Lm→Ob β)(z:zHO β):Nat→Ls→Int→Int→Ls→Int→Int→Lm→Lm→Ob β
 | 0,_,_,_,_,_,_,_,_=>none
 | n+1,A,C,D,E,F,G,H,I=>zgL xk L A C D E F G H I p (fun A C D E F G H I=>zcj xk L p z n A C D E F G H I) z
theorem zjO{β:Type}(xk:xV)(L:Nat)(K:KT β):∀ (n:Nat) (A:Ls) (C D:Int) (E:Ls) (F G:Int) (p z:Lm),xw (ze xJ (yJ xk L) 0 L zf6) zgJ n (zcO A C D E F G p z) K=zcj xk L (fun H p z=>K .ret (zcN H p z)) (fun A C D p z=>K (.exit 8) (zrX A C D p z)) n A C D E F G p z:=by
 intro n; induction n <;> intros
 ·rfl
 ·exact (zuk ..).trans (by simp only [*]; rfl)
def zhC{β:Type}(xk:xV)(L:Nat)(C:Ls)(D E:Int)(p z:Lm)(G:Lm→Lm→Ob β)(F:Int→Lm→Lm→Ob β)(A:zlA β):Ob β:=zmo xk L C D E p z (fun C D E H I J p z=>zcj xk L (fun M p z=>zes xk L M p z F) (fun C D E p z=>zcX xk L C D E p z A) L C D E H I J p z) G
theorem zCY{β:Type}(xk:xV)(L:Nat)(A:Ls)(C D:Int)(p z:Lm)(X:St→Ob β)(K:KT β):ze xJ (yJ xk L) 0 L zhA (zcs A C D p z) (yF zcx X K)=zhC xk L A C D p z (fun p z=>K (.exit 6) (zl5 p z)) (fun E p z=>K .ret (zcN E p z)) (fun A C D p z=>X (zcs A C D p z)):=by
 refine (zEi xk L A C D p z X K).trans ?_
 unfold zhC
 first
  | (simp only [zjO,zpO,zr9]; done)
  | (simp only [zjO]; rfl)
def zdE{β:Type}(xk:xV)(L:Nat)(z:Lm→Lm→Ob β)(p:Int→Lm→Lm→Ob β):Nat→Ls→Int→Int→Lm→Lm→Ob β
 | 0,_,_,_,_,_=>none
 | n+1,A,C,D,E,F=>zhC xk L A C D E F z p (fun A C D E F=>zdE xk L z p n A C D E F)
theorem zqr{β:Type}(xk:xV)(L:Nat)(K:KT β):∀ (n:Nat) (A:Ls) (C D:Int) (p z:Lm),xw (ze xJ (yJ xk L) 0 L zhA) zcx n (zcs A C D p z) K=zdE xk L (fun p z=>K (.exit 6) (zl5 p z)) (fun E p z=>K .ret (zcN E p z)) n A C D p z:=by
 intro n; induction n <;> intros
 ·rfl
 ·exact (zCY ..).trans (by simp only [*]; rfl)
def zhE{β:Type}(xk:xV)(L:Nat)(F:Ls)(p:Lm)(A:Int→Ob β):Ob β:=zml xk L F p (fun C D E p z=>zdE xk L (fun p z=>zkk xk L p z A) (fun G p z=>ziv xk L G p z A) L C D E p z)
theorem zC4{β:Type}(xk:xV)(L:Nat)(p:Ls)(z:Lm)(k:KK β):(zg 2 (zu (ze xJ (yJ xk L) 0 L zl3) (yz 0 (CF.res cf_block_coins) k))) (.exit 2) (ziQ p z)=zhE xk L p z (fun p=>k (Qe p) []):=by
 refine (zFj xk L p z k).trans ?_
 unfold zhE
 first
  | (simp only [zqr,zBs,zxD]; done)
  | (simp only [zqr]; rfl)
def zfA{β:Type}(xk:xV)(L:Nat)(A:Ls)(p:Lm)(z:Int→Ob β):Ob β:=znd xk L A p (fun A C D E p=>zg7 xk L (fun A p=>zhE xk L A p z) (fun F p=>zs8 xk L F p z) L A C D E p)
theorem zEj{β:Type}(xk:xV)(L:Nat)(p:Ls)(z:Lm)(k:KK β):(zg 0 (zu (ze xJ (yJ xk L) 0 L zno) (yz 0 (CF.res cf_block_coins) k))) (.exit 0) (zl6 p z)=zfA xk L p z (fun p=>k (Qe p) []):=by
 refine (zF2 xk L p z k).trans ?_
 unfold zfA
 first
  | (simp only [zs6,zC4,zDi]; done)
  | (simp only [zs6]; rfl)
def ztQ{β:Type}(xk:xV)(L:Nat)(A:Ls)(z:Int→Ob β):Ob β:=zBa xk L A (fun A C D E p=>zft xk L (fun F p=>zmm xk L F p z) (fun A p=>zfA xk L A p z) L A C D E p)
theorem zSy{β:Type}(xk:xV)(L:Nat)(p:Ls)(k:KK β):yj xJ (yJ xk L) L cf_block_coins [(V.sl 4 p)] [] k=ztQ xk L p (fun p=>k (Qe p) []):=by
 refine (zSU xk L p k).trans ?_
 unfold ztQ
 first
  | (simp only [zvb,zFN,zEj]; done)
  | (simp only [zvb]; rfl)
abbrev z8:=∀ (β:Type),Nat→Ls→(Int→Ob β)→Ob β
def yp:z8:=fun β=>@ztQ β xk
def zBr(yp:z8)(L:Nat):Dk:=dA (AL 4) fun p=>d0 fun β k=>yp β L p (fun p=>k (Qe p) [])
theorem zTc(L:Nat):DK (zBr yp L) (fun _=>yj xJ (yJ xk L) L cf_block_coins):=zF zcd fun p=>zP fun _ k=>zSy xk L p k
def zOW:Hint:=⟨[(0,0)],[],[none],[],[],false,false,[]⟩
def zLY:CF:=cfD zOW 40
def zLR:Nat→Sh:=zl []
def zMM(zag:zjz)(L:Nat):CBC:=(xg 583 (zzp zag L) noC)
def zPK{β:Type}(zag:zjz)(L:Nat)(z:List V)(p:List V→Ob β):Ob β:=chk (0+4≤(XK z)) (zag β L (Xv V.dem (XL 4 z)) true (fun A=>chk ((XK A)=32∧0+32≤32) (lt (zq (We 32 (Qa (0:Int))) 0 A) fun C=>chk (0=0∧(XK C)=32∧32≠0) (p C))))
theorem zZT{β:Type}(zag:zjz)(L:Nat)(p:List V)(k:KK β):yj zLR (zMM zag L) L zLY [(V.agg p)] [] k=zPK zag L p (fun p=>k (V.agg p) []):=by kernel_rfl
abbrev zfr:=∀ (β:Type),Nat→List V→(List V→Ob β)→Ob β
def yV:zfr:=fun β=>@zPK β zag
def zP1(yV:zfr)(L:Nat):Dk:=dA AG fun p=>d0 fun β k=>yV β L p (fun p=>k (V.agg p) [])
theorem zZX(L:Nat):DK (zP1 yV L) (fun _=>yj zLR (zMM zag L) L zLY):=zF zap fun p=>zP fun _ k=>zZT zag L p k
def zFE:Hint:=⟨[(1,1),(2,0),(2,3),(3,0),(3,3)],[],[none],[],[],false,false,[]⟩
def zyb:CF:=cfD zFE 128
def zy3:Nat→Sh:=zl []
def zyK(zaq:zm4)(L:Nat):CBC:=(xg 458 (zzM zaq L) noC)
def zAG{β:Type}(zaq:zm4)(L:Nat)(p z:List V)(A:List V→Ob β):Ob β:=chk (0+32*1≤(XK p)) (chk ((XK (xn 1 1 [(Qa (1:Int))])+XK (xn 1 32 p))*1≤xo∧XK (xn 1 1 [(Qa (1:Int))])+XK (xn 1 32 p)≤xo) (lt ((xn 1 1 [(Qa (1:Int))])++(xn 1 32 p)) fun C=>chk (0+32*1≤(XK z)) (chk ((XK C+XK (xn 1 32 z))*1≤xo∧XK C+XK (xn 1 32 z)≤xo) (lt (C++(xn 1 32 z)) fun F=>zaq β L F (fun D=>chk ((XK D)=32∧0+32≤32) (lt (zq (We 32 (Qa (0:Int))) 0 D) fun E=>chk (0=0∧(XK E)=32∧32≠0) (A E)))))))
theorem zTu{β:Type}(zaq:zm4)(L:Nat)(p z:List V)(k:KK β):yj zy3 (zyK zaq L) L zyb [(V.agg p),(V.agg z)] [] k=zAG zaq L p z (fun p=>k (V.agg p) []):=by kernel_rfl
abbrev zay:=∀ (β:Type),Nat→List V→List V→(List V→Ob β)→Ob β
def yt:zay:=fun β=>@zAG β zaq
def zBv(yt:zay)(L:Nat):Dk:=dA AG fun p=>dA AG fun z=>d0 fun β k=>yt β L p z (fun p=>k (V.agg p) [])
theorem zTb(L:Nat):DK (zBv yt L) (fun _=>yj zy3 (zyK zaq L) L zyb):=zF zap fun p=>zF zap fun z=>zP fun _ k=>zTu zaq L p z k
def zzw:Hint:=⟨[(0,0),(1,2),(3,0),(8,0),(8,13),(9,0),(9,7),(10,0),(10,4),(12,0),(12,1)],[],[none,some ((bl 9 48),(bl 225369817865679 48)),none,some ((bl 8 48),(bl 225369817865678 48)),none,none,some ((bl 57 48),(bl 278146375999487 48)),none,some ((bl 24 48),(bl 278146375999455 48)),none,none,none],[],[],false,false,[]⟩
def cf_merkle_levels:CF:=cfD zzw 82
def zhU:CC:=zE [1,1,0,0,0,1,0,1,0,1,0,0] cf_merkle_levels.body
def zqD:CC:=zE [1,1,0,0,0,1,0,1,1] cf_merkle_levels.body
def zji:CC:=zE [1,1,0,0,0] cf_merkle_levels.body
def zz2:CC:=zE [1,1,1] cf_merkle_levels.body
def zaJ:Nat→Sh:=zl []
def zaI(yt:zay)(L:Nat):CBC:=(xg 617 (zBv yt L) noC)
def zeG:St→St:=zQ 0 (bl 9 48) (bl 225369817865679 48)
def ziu:St→St:=zQ 0 (bl 57 48) (bl 278146375999487 48)
def zcY(p z:Ls):St:=⟨((V.sl 32 p)::(jn 2 ((V.gs 1 z)::(jn 44 [])))),(gn 48 [])⟩
def zdN(p z A:Ls)(C:Int):St:=⟨((V.sl 32 p)::(jn 2 ((V.gs 1 z)::((V.gs 32 A)::((Qe C)::(jn 42 [])))))),(gn 48 [])⟩
def zj0(p:Ls):St:=⟨(jn 3 ((V.gs 1 p)::(jn 44 []))),(gn 48 [])⟩
def zoA(p z:Ls):St:=⟨(jn 3 ((V.gs 1 p)::((V.gs 32 z)::(jn 43 [])))),(gn 48 [])⟩
abbrev zm2(β:Type):Type:=Ls→Ls→Ls→Int→Ob β
def zw7{β:Type}(yt:zay)(L:Nat)(z:Ls)(p:Ls→Ls→Ob β):Ob β:=p z (xn 1 1 [(V.sl 32 z)])
theorem zPV{β:Type}(yt:zay)(L:Nat)(p:Ls)(k:KK β):yj zaJ (zaI yt L) L cf_merkle_levels [(V.sl 32 p)] [] k=zw7 yt L p (fun p z=>xw (ze zaJ (zaI yt L) 0 L zji) zeG L (zcY p z) (zg 0 (zu (ze zaJ (zaI yt L) 0 L zz2) (yz 0 (CF.res cf_merkle_levels) k)))):=by kernel_rfl
def zkg{β:Type}(yt:zay)(L:Nat)(A C:Ls)(p:zm2 β)(z:Ls→Ob β):Ob β:=ifb (decide (((XK A:Nat):Int)>(1:Int))) (p A C ([]:Ls) (0:Int)) (z C)
theorem zJb{β:Type}(yt:zay)(L:Nat)(z p:Ls)(X:St→Ob β)(K:KT β):ze zaJ (zaI yt L) 0 L zji (zcY z p) (yF zeG X K)=zkg yt L z p (fun z p A C=>xw (ze zaJ (zaI yt L) 0 L zhU) ziu L (zdN z p A C) (zg 2 (zu (ze zaJ (zaI yt L) 0 L zqD) (zg 1 (yF zeG X K))))) (fun p=>K (.exit 0) (zj0 p)):=by kernel_rfl
def zmA{β:Type}(yt:zay)(L:Nat)(z:Ls)(p:Ls→Ob β):Ob β:=p z
theorem zD8{β:Type}(yt:zay)(L:Nat)(p:Ls)(k:KK β):(zg 0 (zu (ze zaJ (zaI yt L) 0 L zz2) (yz 0 (CF.res cf_merkle_levels) k))) (.exit 0) (zj0 p)=zmA yt L p (fun z=>k (V.gs 1 z) []):=by kernel_rfl
def zis{β:Type}(yt:zay)(L:Nat)(z F A:Ls)(C:Int)(p:zm2 β)(G:Ls→Ls→Ob β):Ob β:=ifb (decide (C<((XK z:Nat):Int))) (lt (QG .i64 ((C:Int)+(1:Int))) fun H=>ifb (decide (H<((XK z:Nat):Int))) (idx z C fun I=>lt (QG .i64 ((C:Int)+(1:Int))) fun J=>idx z J fun M=>yt β L (XL 32 I) (XL 32 M) (fun D=>chk ((XK D)=32∧0+32≤32) (chk ((XK A+XK (xn 32 1 (zq (We 32 (Qa (0:Int))) 0 D)))*32≤xo∧XK A+XK (xn 32 1 (zq (We 32 (Qa (0:Int))) 0 D))≤xo) (lt (A++(xn 32 1 (zq (We 32 (Qa (0:Int))) 0 D))) fun N=>lt (QG .i64 ((C:Int)+(2:Int))) fun O=>p z F N O)))) (idx z C fun E=>chk ((XK (XL 32 E))=32∧0+32≤32) (chk ((XK A+XK (xn 32 1 (zq (We 32 (Qa (0:Int))) 0 (XL 32 E))))*32≤xo∧XK A+XK (xn 32 1 (zq (We 32 (Qa (0:Int))) 0 (XL 32 E)))≤xo) (lt (A++(xn 32 1 (zq (We 32 (Qa (0:Int))) 0 (XL 32 E)))) fun P=>lt (QG .i64 ((C:Int)+(2:Int))) fun Q=>p z F P Q)))) (G F A)
theorem zxH{β:Type}(yt:zay)(L:Nat)(A p z:Ls)(C:Int)(X:St→Ob β)(K:KT β):ze zaJ (zaI yt L) 0 L zhU (zdN A p z C) (yF ziu X K)=zis yt L A p z C (fun A p z C=>X (zdN A p z C)) (fun p z=>K (.exit 2) (zoA p z)):=by kernel_rfl
def zek{β:Type}(yt:zay)(L:Nat)(A z:Ls)(p:Ls→Ls→Ob β):Ob β:=chk ((XK A+XK (xn 1 1 [(V.sl 32 z)]))*24≤xo∧XK A+XK (xn 1 1 [(V.sl 32 z)])≤xo) (lt (A++(xn 1 1 [(V.sl 32 z)])) fun C=>p z C)
theorem zvg{β:Type}(yt:zay)(L:Nat)(p z:Ls)(X:St→Ob β)(K:KT β):(zg 2 (zu (ze zaJ (zaI yt L) 0 L zqD) (zg 1 (yF zeG X K)))) (.exit 2) (zoA p z)=zek yt L p z (fun A p=>X (zcY A p)):=by kernel_rfl
def zcU{β:Type}(yt:zay)(L:Nat)(p:Ls→Ls→Ob β):Nat→Ls→Ls→Ls→Int→Ob β
 | 0,_,_,_,_=>none
 | n+1,z,A,C,D=>zis yt L z A C D (fun z A C D=>zcU yt L p n z A C D) p
theorem zlM{β:Type}(yt:zay)(L:Nat)(K:KT β):∀ (n:Nat) (A p z:Ls) (C:Int),xw (ze zaJ (zaI yt L) 0 L zhU) ziu n (zdN A p z C) K=zcU yt L (fun p z=>K (.exit 2) (zoA p z)) n A p z C:=by
 intro n; induction n <;> intros
 ·rfl
 ·exact (zxH ..).trans (by simp only [*]; rfl)
def zgb{β:Type}(yt:zay)(L:Nat)(A z:Ls)(C:Ls→Ob β)(p:Ls→Ls→Ob β):Ob β:=zkg yt L A z (fun A z D E=>zcU yt L (fun z D=>zek yt L z D p) L A z D E) C
theorem zGa{β:Type}(yt:zay)(L:Nat)(z p:Ls)(X:St→Ob β)(K:KT β):ze zaJ (zaI yt L) 0 L zji (zcY z p) (yF zeG X K)=zgb yt L z p (fun p=>K (.exit 0) (zj0 p)) (fun z p=>X (zcY z p)):=by
 refine (zJb yt L z p X K).trans ?_
 unfold zgb
 first
  | (simp only [zlM,zvg]; done)
  | (simp only [zlM]; rfl)
def zde{β:Type}(yt:zay)(L:Nat)(p:Ls→Ob β):Nat→Ls→Ls→Ob β
 | 0,_,_=>none
 | n+1,z,A=>zgb yt L z A p (fun z A=>zde yt L p n z A)
theorem zsU{β:Type}(yt:zay)(L:Nat)(K:KT β):∀ (n:Nat) (z p:Ls),xw (ze zaJ (zaI yt L) 0 L zji) zeG n (zcY z p) K=zde yt L (fun p=>K (.exit 0) (zj0 p)) n z p:=by
 intro n; induction n <;> intros
 ·rfl
 ·exact (zGa ..).trans (by simp only [*]; rfl)
def zpr{β:Type}(yt:zay)(L:Nat)(z:Ls)(p:Ls→Ob β):Ob β:=zw7 yt L z (fun z A=>zde yt L (fun A=>zmA yt L A p) L z A)
theorem zOw{β:Type}(yt:zay)(L:Nat)(p:Ls)(k:KK β):yj zaJ (zaI yt L) L cf_merkle_levels [(V.sl 32 p)] [] k=zpr yt L p (fun p=>k (V.gs 1 p) []):=by
 refine (zPV yt L p k).trans ?_
 unfold zpr
 first
  | (simp only [zsU,zD8]; done)
  | (simp only [zsU]; rfl)
abbrev zkO:=∀ (β:Type),Nat→Ls→(Ls→Ob β)→Ob β
def zaK:zkO:=fun β=>@zpr β yt
def zvC(zaK:zkO)(L:Nat):Dk:=dA (AL 32) fun p=>d0 fun β k=>zaK β L p (fun p=>k (V.gs 1 p) [])
theorem zQh(L:Nat):DK (zvC zaK L) (fun _=>yj zaJ (zaI yt L) L cf_merkle_levels):=zF zcd fun p=>zP fun _ k=>zOw yt L p k
def zD1:Hint:=⟨[],[],[none,none,none],[],[],false,false,[]⟩
def zyv:CF:=cfD zD1 41
def zy7:Nat→Sh:=zl [(20,(.sl 32))]
def zy2(zaK:zkO)(L:Nat):CBC:=(xg 608 (zvC zaK L) noC)
def zAD{β:Type}(zaK:zkO)(L:Nat)(z:Ls)(p:List V→Ob β):Ob β:=ifb ((((XK z:Nat):Int):Int)==(0:Int)) (lt (We 32 (Qa (0:Int))) fun A=>chk (0=0∧(XK A)=32∧32≠0) (p A)) (ifb (decide (((XK z:Nat):Int)>(1024:Int))) (lt (We 32 (Qa (0:Int))) fun C=>chk (0=0∧(XK C)=32∧32≠0) (p C)) (zaK β L z (fun D=>lt (QG .i64 ((((XK D:Nat):Int):Int)-(1:Int))) fun G=>idx D G fun H=>cL 32 H 0 fun I=>idx I (0:Int) fun E=>chk ((XK (XL 32 E))=32∧0+32≤32) (lt (zq (We 32 (Qa (0:Int))) 0 (XL 32 E)) fun F=>chk (0=0∧(XK F)=32∧32≠0) (p F)))))
theorem zSx{β:Type}(zaK:zkO)(L:Nat)(p:Ls)(k:KK β):yj zy7 (zy2 zaK L) L zyv [(V.sl 32 p)] [] k=zAD zaK L p (fun p=>k (V.agg p) []):=by kernel_rfl
abbrev zb0:=∀ (β:Type),Nat→Ls→(List V→Ob β)→Ob β
def zI:zb0:=fun β=>@zAD β zaK
def zAZ(zI:zb0)(L:Nat):Dk:=dA (AL 32) fun p=>d0 fun β k=>zI β L p (fun p=>k (V.agg p) [])
theorem zTs(L:Nat):DK (zAZ zI L) (fun _=>yj zy7 (zy2 zaK L) L zyv):=zF zcd fun p=>zP fun _ k=>zSx zaK L p k
def zG6:Hint:=⟨[(1,0),(4,2),(5,0),(5,5)],[],[none,some ((bl 460 20),(bl 933855 20)),none,some ((bl 12 20),(bl 933855 20)),none,none],[],[],false,false,[]⟩
def cf_block_Root:CF:=cfD zG6 16
def zqb:CC:=zE [1,1,0,1,0,0] cf_block_Root.body
def zHe:CC:=zE [1,1,1] cf_block_Root.body
def ze7:Nat→Sh:=zl []
def zff(yV:zfr)(zI:zb0)(L:Nat):CBC:=(xg 597 (zAZ zI L) (xg 596 (zP1 yV L) noC))
def zsz:St→St:=zQ 0 (bl 460 20) (bl 933855 20)
def zjm(p z:Ls)(A C:Int)(D:List V):St:=⟨(jn 2 ((V.ptr 2 0)::((V.gs 32 p)::(jn 2 ((V.sl 4 z)::((Qe A)::((Qe C)::(jn 11 [])))))))),(gn 2 ((.live true D)::(gn 17 [])))⟩
def zuI(p:Ls)(z:List V):St:=⟨(jn 2 ((V.ptr 2 0)::((V.gs 32 p)::(jn 16 [])))),(gn 2 ((.live true z)::(gn 17 [])))⟩
abbrev zzU(β:Type):Type:=Ls→Ls→Int→Int→List V→Ob β
def zD3{β:Type}(yV:zfr)(zI:zb0)(L:Nat)(z:Ls)(p:zzU β):Ob β:=p ([]:Ls) z ((XK z:Nat):Int) (0:Int) (We 32 (Qa (0:Int)))
theorem zU0{β:Type}(yV:zfr)(zI:zb0)(L:Nat)(p:Ls)(k:KK β):yj ze7 (zff yV zI L) L cf_block_Root [(V.sl 4 p)] [] k=zD3 yV zI L p (fun z A C D E=>xw (ze ze7 (zff yV zI L) 0 L zqb) zsz L (zjm z A C D E) (zg 0 (zu (ze ze7 (zff yV zI L) 0 L zHe) (yz 0 (CF.res cf_block_Root) k)))):=by kernel_rfl
def zrP{β:Type}(yV:zfr)(zI:zb0)(L:Nat)(z E:Ls)(F C:Int)(G:List V)(p:zzU β)(D:Ls→List V→Ob β):Ob β:=ifb (decide (C<F)) (idx E C fun H=>chk ((XK (XL 4 H))=4∧0+4≤4) (lt (zq [(Qc (0:Int)),(V.gs 35 ([]:Ls)),(V.gs 2 ([]:Ls)),(Qc (0:Int))] 0 (XL 4 H)) fun I=>chk (0+4≤(XK I)) (yV β L (Xv V.dem (XL 4 I)) (fun A=>chk ((XK A)=32∧0+32≤32) (chk ((XK z+XK (xn 32 1 (zq (We 32 (Qa (0:Int))) 0 A)))*32≤xo∧XK z+XK (xn 32 1 (zq (We 32 (Qa (0:Int))) 0 A))≤xo) (lt (z++(xn 32 1 (zq (We 32 (Qa (0:Int))) 0 A))) fun J=>lt (QG .i64 ((C:Int)+(1:Int))) fun M=>p J E F M G)))))) (D z G)
theorem zMp{β:Type}(yV:zfr)(zI:zb0)(L:Nat)(p A:Ls)(C D:Int)(z:List V)(X:St→Ob β)(K:KT β):ze ze7 (zff yV zI L) 0 L zqb (zjm p A C D z) (yF zsz X K)=zrP yV zI L p A C D z (fun p A C D z=>X (zjm p A C D z)) (fun p z=>K (.exit 0) (zuI p z)):=by kernel_rfl
def zkd{β:Type}(yV:zfr)(zI:zb0)(L:Nat)(D:Ls)(z:List V)(p:List V→Ob β):Ob β:=zI β L D (fun A=>chk ((XK A)=32∧0+32≤(XK z)) (lt (zq z 0 A) fun C=>chk (0=0∧(XK C)=32∧32≠0) (p C)))
theorem zJk{β:Type}(yV:zfr)(zI:zb0)(L:Nat)(p:Ls)(z:List V)(k:KK β):(zg 0 (zu (ze ze7 (zff yV zI L) 0 L zHe) (yz 0 (CF.res cf_block_Root) k))) (.exit 0) (zuI p z)=zkd yV zI L p z (fun A=>k (V.agg A) []):=by kernel_rfl
def ziM{β:Type}(yV:zfr)(zI:zb0)(L:Nat)(p:Ls→List V→Ob β):Nat→Ls→Ls→Int→Int→List V→Ob β
 | 0,_,_,_,_,_=>none
 | n+1,z,A,C,D,E=>zrP yV zI L z A C D E (fun z A C D E=>ziM yV zI L p n z A C D E) p
theorem zvF{β:Type}(yV:zfr)(zI:zb0)(L:Nat)(K:KT β):∀ (n:Nat) (p A:Ls) (C D:Int) (z:List V),xw (ze ze7 (zff yV zI L) 0 L zqb) zsz n (zjm p A C D z) K=ziM yV zI L (fun p z=>K (.exit 0) (zuI p z)) n p A C D z:=by
 intro n; induction n <;> intros
 ·rfl
 ·exact (zMp ..).trans (by simp only [*]; rfl)
def zwo{β:Type}(yV:zfr)(zI:zb0)(L:Nat)(C:Ls)(p:List V→Ob β):Ob β:=zD3 yV zI L C (fun z D E F A=>ziM yV zI L (fun z A=>zkd yV zI L z A p) L z D E F A)
theorem zVw{β:Type}(yV:zfr)(zI:zb0)(L:Nat)(p:Ls)(k:KK β):yj ze7 (zff yV zI L) L cf_block_Root [(V.sl 4 p)] [] k=zwo yV zI L p (fun p=>k (V.agg p) []):=by
 refine (zU0 yV zI L p k).trans ?_
 unfold zwo
 first
  | (simp only [zvF,zJk]; done)
  | (simp only [zvF]; rfl)
abbrev zai:=∀ (β:Type),Nat→Ls→(List V→Ob β)→Ob β
def yr:zai:=fun β=>@zwo β yV zI
def zFQ(yr:zai)(L:Nat):Dk:=dA (AL 4) fun p=>d0 fun β k=>yr β L p (fun p=>k (V.agg p) [])
theorem zUW(L:Nat):DK (zFQ yr L) (fun _=>yj ze7 (zff yV zI L) L cf_block_Root):=zF zcd fun p=>zP fun _ k=>zVw yV zI L p k
def zEG:Hint:=⟨[(0,0),(1,2),(1,3),(8,3),(14,2)],[],[none,none,none,none,none,some ((bl 117440514 63),(bl 9223372032559808155 63)),none,some ((bl 2 63),(bl 9223372032559808155 63)),none,none,some ((bl 4 63),(bl 9223372032559808157 63)),none,some ((bl 1924145348610 63),(bl 9223336852482686139 63)),none,some ((bl 2 63),(bl 9223336852482686139 63)),none,none,some ((bl 4 63),(bl 9223336852482686141 63)),none,none,none,none,none],[],[],false,false,[]⟩
def cf_block_Check:CF:=cfD zEG 18
def zmd:CC:=zE [1,1,1,1,0,1,0,0] cf_block_Check.body
def zn3:CC:=zE [1,1,1,0,1,0,0] cf_block_Check.body
def zqO:CC:=zE [1,1,1,1,1] cf_block_Check.body
def zlS:CC:=zE [1,1,1,1] cf_block_Check.body
def zaL:Nat→Sh:=zl [(20,(.sl 4)),(24,(.sl 4)),(38,(.sl 4)),(51,(.sl 4)),(57,(.sl 4))]
def zaM(zn:xY)(zf:zL)(zx:zaH)(yp:z8)(yr:zai)(L:Nat):CBC:=(xg 579 (zFQ yr L) (xg 578 (zBr yp L) (xg 131 (zDl zx L) (xg 151 (zoi zf L) (xg 577 (zro zn L) noC)))))
def zpo:St→St:=zQ 0 (bl 117440514 63) (bl 9223372032559808155 63)
def zn0:St→St:=zQ 0 (bl 1924145348610 63) (bl 9223336852482686139 63)
def zhL(p:Ls)(z A:Int)(C:List V):St:=⟨(jn 1 ((V.ptr 1 0)::(jn 22 ((V.sl 4 p)::((Qe z)::((Qe A)::(jn 36 []))))))),(gn 1 ((.live true C)::(gn 61 [])))⟩
def zfv(p:Int):St:=⟨(jn 2 ((Qe p)::(jn 60 []))),(gn 63 [])⟩
def zlX(p:List V):St:=⟨(jn 1 ((V.ptr 1 0)::(jn 61 []))),(gn 1 ((.live true p)::(gn 61 [])))⟩
def zgW(p:Ls)(z A:Int)(C:List V):St:=⟨(jn 1 ((V.ptr 1 0)::(jn 36 ((V.sl 4 p)::((Qe z)::((Qe A)::(jn 22 []))))))),(gn 1 ((.live true C)::(gn 61 [])))⟩
def zsi(p:List V):St:=⟨(jn 1 ((V.ptr 1 0)::(jn 61 []))),(gn 1 ((.live true p)::(gn 61 [])))⟩
def zAU{β:Type}(zn:xY)(zf:zL)(zx:zaH)(yp:z8)(yr:zai)(L:Nat)(A:List V)(z:Int→Ob β)(p:Ls→Int→Int→List V→Ob β):Ob β:=chk (0+69≤(XK A)) (zn β L (Xv V.dem (XL 69 A)) (fun F C=>ifb ((C:Int) != (0:Int)) (z C) (cLd 4 A 68 fun E=>ifb ((((XK E:Nat):Int):Int)==(0:Int)) (z (93:Int)) (cLd 4 A 68 fun D=>p D ((XK D:Nat):Int) (0:Int) A))))
theorem zSJ{β:Type}(zn:xY)(zf:zL)(zx:zaH)(yp:z8)(yr:zai)(L:Nat)(p:List V)(k:KK β):yj zaL (zaM zn zf zx yp yr L) L cf_block_Check [(V.agg p)] [] k=zAU zn zf zx yp yr L p (fun p=>k (Qe p) []) (fun z A C D=>xw (ze zaL (zaM zn zf zx yp yr L) 0 L zn3) zpo L (zhL z A C D) (zg 0 (zu (ze zaL (zaM zn zf zx yp yr L) 0 L zlS) (yz 0 (CF.res cf_block_Check) k)))):=by kernel_rfl
def zoG{β:Type}(zn:xY)(zf:zL)(zx:zaH)(yp:z8)(yr:zai)(L:Nat)(C:Ls)(D z:Int)(F:List V)(A:Int→Ob β)(p:Ls→Int→Int→List V→Ob β)(E:List V→Ob β):Ob β:=ifb (decide (z<D)) (idx C z fun G=>chk ((XK (XL 4 G))=4∧0+4≤4) (lt (zq [(Qc (0:Int)),(V.gs 35 ([]:Ls)),(V.gs 2 ([]:Ls)),(Qc (0:Int))] 0 (XL 4 G)) fun H=>chk (0+4≤(XK H)) (zf β L (Xv V.dem (XL 4 H)) (fun I=>ifb (!(I==((z:Int)==(0:Int)))) (A (111:Int)) (lt (QG .i64 ((z:Int)+(1:Int))) fun J=>p C D J F))))) (E F)
theorem zIC{β:Type}(zn:xY)(zf:zL)(zx:zaH)(yp:z8)(yr:zai)(L:Nat)(p:Ls)(z A:Int)(C:List V)(X:St→Ob β)(K:KT β):ze zaL (zaM zn zf zx yp yr L) 0 L zn3 (zhL p z A C) (yF zpo X K)=zoG zn zf zx yp yr L p z A C (fun D=>K .ret (zfv D)) (fun p z A C=>X (zhL p z A C)) (fun C=>K (.exit 0) (zlX C)):=by kernel_rfl
def zlr{β:Type}(zn:xY)(zf:zL)(zx:zaH)(yp:z8)(yr:zai)(L:Nat)(z:Int)(p:Int→Ob β):Ob β:=p z
theorem zDj{β:Type}(zn:xY)(zf:zL)(zx:zaH)(yp:z8)(yr:zai)(L:Nat)(p:Int)(k:KK β):(zg 0 (zu (ze zaL (zaM zn zf zx yp yr L) 0 L zlS) (yz 0 (CF.res cf_block_Check) k))) .ret (zfv p)=zlr zn zf zx yp yr L p (fun z=>k (Qe z) []):=by kernel_rfl
def zmu{β:Type}(zn:xY)(zf:zL)(zx:zaH)(yp:z8)(yr:zai)(L:Nat)(z:List V)(p:Ls→Int→Int→List V→Ob β):Ob β:=cLd 4 z 68 fun A=>p A ((XK A:Nat):Int) (0:Int) z
theorem zEQ{β:Type}(zn:xY)(zf:zL)(zx:zaH)(yp:z8)(yr:zai)(L:Nat)(p:List V)(k:KK β):(zg 0 (zu (ze zaL (zaM zn zf zx yp yr L) 0 L zlS) (yz 0 (CF.res cf_block_Check) k))) (.exit 0) (zlX p)=zmu zn zf zx yp yr L p (fun z A C p=>xw (ze zaL (zaM zn zf zx yp yr L) 0 L zmd) zn0 L (zgW z A C p) (zg 2 (zu (ze zaL (zaM zn zf zx yp yr L) 0 L zqO) (yz 0 (CF.res cf_block_Check) k)))):=by kernel_rfl
def zob{β:Type}(zn:xY)(zf:zL)(zx:zaH)(yp:z8)(yr:zai)(L:Nat)(C:Ls)(D z:Int)(H:List V)(A:Int→Ob β)(p:Ls→Int→Int→List V→Ob β)(G:List V→Ob β):Ob β:=ifb (decide (z<D)) (idx C z fun I=>chk ((XK (XL 4 I))=4∧0+4≤4) (lt (zq [(Qc (0:Int)),(V.gs 35 ([]:Ls)),(V.gs 2 ([]:Ls)),(Qc (0:Int))] 0 (XL 4 I)) fun E=>chk (0+4≤(XK E)) (zx β L (Xv V.dem (XL 4 E)) (fun F=>ifb ((F:Int) != (0:Int)) (A F) (lt (QG .i64 ((z:Int)+(1:Int))) fun J=>p C D J H))))) (G H)
theorem zFY{β:Type}(zn:xY)(zf:zL)(zx:zaH)(yp:z8)(yr:zai)(L:Nat)(p:Ls)(z A:Int)(C:List V)(X:St→Ob β)(K:KT β):ze zaL (zaM zn zf zx yp yr L) 0 L zmd (zgW p z A C) (yF zn0 X K)=zob zn zf zx yp yr L p z A C (fun D=>K .ret (zfv D)) (fun p z A C=>X (zgW p z A C)) (fun C=>K (.exit 2) (zsi C)):=by kernel_rfl
def zkr{β:Type}(zn:xY)(zf:zL)(zx:zaH)(yp:z8)(yr:zai)(L:Nat)(z:Int)(p:Int→Ob β):Ob β:=p z
theorem zA7{β:Type}(zn:xY)(zf:zL)(zx:zaH)(yp:z8)(yr:zai)(L:Nat)(p:Int)(k:KK β):(zg 2 (zu (ze zaL (zaM zn zf zx yp yr L) 0 L zqO) (yz 0 (CF.res cf_block_Check) k))) .ret (zfv p)=zkr zn zf zx yp yr L p (fun z=>k (Qe z) []):=by kernel_rfl
def zlk{β:Type}(zn:xY)(zf:zL)(zx:zaH)(yp:z8)(yr:zai)(L:Nat)(z:List V)(p:Int→Ob β):Ob β:=cLd 4 z 68 fun C=>yp β L C (fun A=>ifb ((A:Int) != (0:Int)) (p A) (cLd 4 z 68 fun D=>yr β L D (fun E=>chk (33+32≤(XK z)) (eqC 32 E (XL 32 (List.drop 33 z)) fun F=>ifb (!F) (p (110:Int)) (p (0:Int))))))
theorem zDm{β:Type}(zn:xY)(zf:zL)(zx:zaH)(yp:z8)(yr:zai)(L:Nat)(p:List V)(k:KK β):(zg 2 (zu (ze zaL (zaM zn zf zx yp yr L) 0 L zqO) (yz 0 (CF.res cf_block_Check) k))) (.exit 2) (zsi p)=zlk zn zf zx yp yr L p (fun z=>k (Qe z) []):=by kernel_rfl
def zg4{β:Type}(zn:xY)(zf:zL)(zx:zaH)(yp:z8)(yr:zai)(L:Nat)(p:Int→Ob β)(z:List V→Ob β):Nat→Ls→Int→Int→List V→Ob β
 | 0,_,_,_,_=>none
 | n+1,A,C,D,E=>zoG zn zf zx yp yr L A C D E p (fun A C D E=>zg4 zn zf zx yp yr L p z n A C D E) z
theorem ztq{β:Type}(zn:xY)(zf:zL)(zx:zaH)(yp:z8)(yr:zai)(L:Nat)(K:KT β):∀ (n:Nat) (z:Ls) (A C:Int) (p:List V),xw (ze zaL (zaM zn zf zx yp yr L) 0 L zn3) zpo n (zhL z A C p) K=zg4 zn zf zx yp yr L (fun D=>K .ret (zfv D)) (fun p=>K (.exit 0) (zlX p)) n z A C p:=by
 intro n; induction n <;> intros
 ·rfl
 ·exact (zIC ..).trans (by simp only [*]; rfl)
def zgk{β:Type}(zn:xY)(zf:zL)(zx:zaH)(yp:z8)(yr:zai)(L:Nat)(p:Int→Ob β)(z:List V→Ob β):Nat→Ls→Int→Int→List V→Ob β
 | 0,_,_,_,_=>none
 | n+1,A,C,D,E=>zob zn zf zx yp yr L A C D E p (fun A C D E=>zgk zn zf zx yp yr L p z n A C D E) z
theorem zrF{β:Type}(zn:xY)(zf:zL)(zx:zaH)(yp:z8)(yr:zai)(L:Nat)(K:KT β):∀ (n:Nat) (z:Ls) (A C:Int) (p:List V),xw (ze zaL (zaM zn zf zx yp yr L) 0 L zmd) zn0 n (zgW z A C p) K=zgk zn zf zx yp yr L (fun D=>K .ret (zfv D)) (fun p=>K (.exit 2) (zsi p)) n z A C p:=by
 intro n; induction n <;> intros
 ·rfl
 ·exact (zFY ..).trans (by simp only [*]; rfl)
def zhK{β:Type}(zn:xY)(zf:zL)(zx:zaH)(yp:z8)(yr:zai)(L:Nat)(z:List V)(p:Int→Ob β):Ob β:=zmu zn zf zx yp yr L z (fun A C D z=>zgk zn zf zx yp yr L (fun E=>zkr zn zf zx yp yr L E p) (fun z=>zlk zn zf zx yp yr L z p) L A C D z)
theorem zC1{β:Type}(zn:xY)(zf:zL)(zx:zaH)(yp:z8)(yr:zai)(L:Nat)(p:List V)(k:KK β):(zg 0 (zu (ze zaL (zaM zn zf zx yp yr L) 0 L zlS) (yz 0 (CF.res cf_block_Check) k))) (.exit 0) (zlX p)=zhK zn zf zx yp yr L p (fun z=>k (Qe z) []):=by
 refine (zEQ zn zf zx yp yr L p k).trans ?_
 unfold zhK
 first
  | (simp only [zrF,zA7,zDm]; done)
  | (simp only [zrF]; rfl)
def ztO{β:Type}(zn:xY)(zf:zL)(zx:zaH)(yp:z8)(yr:zai)(L:Nat)(E:List V)(p:Int→Ob β):Ob β:=zAU zn zf zx yp yr L E p (fun A C D z=>zg4 zn zf zx yp yr L (fun F=>zlr zn zf zx yp yr L F p) (fun z=>zhK zn zf zx yp yr L z p) L A C D z)
theorem zTi{β:Type}(zn:xY)(zf:zL)(zx:zaH)(yp:z8)(yr:zai)(L:Nat)(p:List V)(k:KK β):yj zaL (zaM zn zf zx yp yr L) L cf_block_Check [(V.agg p)] [] k=ztO zn zf zx yp yr L p (fun p=>k (Qe p) []):=by
 refine (zSJ zn zf zx yp yr L p k).trans ?_
 unfold ztO
 first
  | (simp only [ztq,zDj,zC1]; done)
  | (simp only [ztq]; rfl)
abbrev zod:=∀ (β:Type),Nat→List V→(Int→Ob β)→Ob β
def zaQ:zod:=fun β=>@ztO β zn zf zx yp yr
def zA3(zaQ:zod)(L:Nat):Dk:=dA AG fun p=>d0 fun β k=>zaQ β L p (fun p=>k (Qe p) [])
theorem zS6(L:Nat):DK (zA3 zaQ L) (fun _=>yj zaL (zaM zn zf zx yp yr L) L cf_block_Check):=zF zap fun p=>zP fun _ k=>zTi zn zf zx yp yr L p k
def zrL:Hint:=⟨[(0,1),(1,3),(2,7),(6,3),(8,0),(8,1)],[],[none,some ((bl 29360136 33),(bl 7516192733 33)),none,some ((bl 8 33),(bl 7516192733 33)),none,none],[],[],false,false,[]⟩
def cf_ref11_EncodeHeader:CF:=cfD zrL 31
def zhY:CC:=zE [1,1,1,0,1,0,0] cf_ref11_EncodeHeader.body
def zqM:CC:=zE [1,1,1,1] cf_ref11_EncodeHeader.body
def zbp:Nat→Sh:=zl [(7,(.int .u32)),(17,(.int .u32)),(19,(.int .u32)),(21,(.int .u32)),(27,(.int .u32))]
def zbm(zb:yu)(xp:zak)(L:Nat):CBC:=(xg 160 (zh9 xp L) (xg 159 (zgz zb L) noC))
def zir:St→St:=zQ 0 (bl 29360136 33) (bl 7516192733 33)
def zdM(C p:Ls)(z A:Int):St:=⟨(jn 3 ((V.gs 1 C)::(jn 18 ((V.gs 1 p)::((Qe z)::((Qe A)::(jn 8 []))))))),(gn 33 [])⟩
def zjI(p:Ls):St:=⟨(jn 3 ((V.gs 1 p)::(jn 29 []))),(gn 33 [])⟩
def znB{β:Type}(zb:yu)(xp:zak)(L:Nat)(p:List V)(z:Ls→Ls→Int→Int→Ob β):Ob β:=cI .u32 p 0 fun E=>zb β L ([]:Ls) E (fun F=>chk (1+32≤(XK p)) (xp β L F (XL 32 (List.drop 1 p)) (fun G=>chk (33+32≤(XK p)) (xp β L G (XL 32 (List.drop 33 p)) (fun H=>cI .u32 p 65 fun A=>cI .u32 p 66 fun C=>cI .u32 p 67 fun D=>z H (xn 1 3 [(Qc A),(Qc C),(Qc D)]) ((XK (xn 1 3 [(Qc A),(Qc C),(Qc D)]):Nat):Int) (0:Int))))))
theorem zFW{β:Type}(zb:yu)(xp:zak)(L:Nat)(p:List V)(k:KK β):yj zbp (zbm zb xp L) L cf_ref11_EncodeHeader [(V.agg p)] [] k=znB zb xp L p (fun D z A C=>xw (ze zbp (zbm zb xp L) 0 L zhY) zir L (zdM D z A C) (zg 0 (zu (ze zbp (zbm zb xp L) 0 L zqM) (yz 0 (CF.res cf_ref11_EncodeHeader) k)))):=by kernel_rfl
def zbZ{β:Type}(zb:yu)(xp:zak)(L:Nat)(E A:Ls)(C z:Int)(p:Ls→Ls→Int→Int→Ob β)(D:Ls→Ob β):Ob β:=ifb (decide (z<C)) (idx A z fun G=>cI .u32 G 0 fun H=>zb β L E H (fun I=>lt (QG .i64 ((z:Int)+(1:Int))) fun F=>p I A C F)) (D E)
theorem zxI{β:Type}(zb:yu)(xp:zak)(L:Nat)(C p:Ls)(z A:Int)(X:St→Ob β)(K:KT β):ze zbp (zbm zb xp L) 0 L zhY (zdM C p z A) (yF zir X K)=zbZ zb xp L C p z A (fun C p z A=>X (zdM C p z A)) (fun C=>K (.exit 0) (zjI C)):=by kernel_rfl
def zmM{β:Type}(zb:yu)(xp:zak)(L:Nat)(z:Ls)(p:Ls→Ob β):Ob β:=p z
theorem zvi{β:Type}(zb:yu)(xp:zak)(L:Nat)(p:Ls)(k:KK β):(zg 0 (zu (ze zbp (zbm zb xp L) 0 L zqM) (yz 0 (CF.res cf_ref11_EncodeHeader) k))) (.exit 0) (zjI p)=zmM zb xp L p (fun z=>k (V.gs 1 z) []):=by kernel_rfl
def zbw{β:Type}(zb:yu)(xp:zak)(L:Nat)(p:Ls→Ob β):Nat→Ls→Ls→Int→Int→Ob β
 | 0,_,_,_,_=>none
 | n+1,D,z,A,C=>zbZ zb xp L D z A C (fun D z A C=>zbw zb xp L p n D z A C) p
theorem zlN{β:Type}(zb:yu)(xp:zak)(L:Nat)(K:KT β):∀ (n:Nat) (p z:Ls) (A C:Int),xw (ze zbp (zbm zb xp L) 0 L zhY) zir n (zdM p z A C) K=zbw zb xp L (fun p=>K (.exit 0) (zjI p)) n p z A C:=by
 intro n; induction n <;> intros
 ·rfl
 ·exact (zxI ..).trans (by simp only [*]; rfl)
def zjt{β:Type}(zb:yu)(xp:zak)(L:Nat)(E:List V)(p:Ls→Ob β):Ob β:=znB zb xp L E (fun z A C D=>zbw zb xp L (fun z=>zmM zb xp L z p) L z A C D)
theorem zF6{β:Type}(zb:yu)(xp:zak)(L:Nat)(p:List V)(k:KK β):yj zbp (zbm zb xp L) L cf_ref11_EncodeHeader [(V.agg p)] [] k=zjt zb xp L p (fun p=>k (V.gs 1 p) []):=by
 refine (zFW zb xp L p k).trans ?_
 unfold zjt
 first
  | (simp only [zlN,zvi]; done)
  | (simp only [zlN]; rfl)
abbrev zaz:=∀ (β:Type),Nat→List V→(Ls→Ob β)→Ob β
def xu:zaz:=fun β=>@zjt β zb xp
def zi1(xu:zaz)(L:Nat):Dk:=dA AG fun p=>d0 fun β k=>xu β L p (fun p=>k (V.gs 1 p) [])
theorem zF4(L:Nat):DK (zi1 xu L) (fun _=>yj zbp (zbm zb xp L) L cf_ref11_EncodeHeader):=zF zap fun p=>zP fun _ k=>zF6 zb xp L p k
def zB1:Hint:=⟨[(0,0),(0,1),(2,0),(3,3)],[],[none,none,none],[],[],false,false,[]⟩
def zG1:CF:=cfD zB1 80
def zwp:Nat→Sh:=zl []
def zxd(xb:zw)(xd:yG)(L:Nat):CBC:=(xg 149 (zfn xd L) (xg 148 (zeN xb L) noC))
def zyy{β:Type}(xb:zw)(xd:yG)(L:Nat)(z:List V)(A:Bool)(p:Ls→Int→Ob β):Ob β:=chk (0+4≤(XK z)) (xb β L (Xv V.dem (XL 4 z)) (fun C=>ifb (!C) (p ([]:Ls) (4:Int)) (chk (0+4≤(XK z)) (xd β L (Xv V.dem (XL 4 z)) A (fun D=>p D (0:Int))))))
theorem zRp{β:Type}(xb:zw)(xd:yG)(L:Nat)(A:List V)(C:Bool)(k:KK β):yj zwp (zxd xb xd L) L zG1 [(V.agg A),(V.sc (.bool C))] [] k=zyy xb xd L A C (fun p z=>k (V.tup [(V.gs 1 p),(Qe z)]) []):=by kernel_rfl
abbrev zbK:=∀ (β:Type),Nat→List V→Bool→(Ls→Int→Ob β)→Ob β
def yH:zbK:=fun β=>@zyy β xb xd
def zyN(yH:zbK)(L:Nat):Dk:=dA AG fun A=>dA AB fun C=>d0 fun β k=>yH β L A C (fun p z=>k (V.tup [(V.gs 1 p),(Qe z)]) [])
theorem zQX(L:Nat):DK (zyN yH L) (fun _=>yj zwp (zxd xb xd L) L zG1):=zF zap fun p=>zF zVU fun z=>zP fun _ k=>zRp xb xd L p z k
def zBS:Hint:=⟨[(0,0),(0,1),(1,8),(4,2),(5,2),(5,3),(6,0),(6,3),(8,0),(8,1)],[],[none,some ((bl 917512 33),(bl 7281311517 33)),none,some ((bl 8 33),(bl 7281311517 33)),none,none],[],[],false,false,[]⟩
def cf_ref11_encode:CF:=cfD zBS 39
def zng:CC:=zE [1,1,0,1,0,0] cf_ref11_encode.body
def zCa:CC:=zE [1,1,1] cf_ref11_encode.body
def zdt:Nat→Sh:=zl [(12,(.sl 4)),(17,(.sl 4))]
def zdv(xu:zaz)(xa:zt)(yH:zbK)(L:Nat):CBC:=(xg 129 (zyN yH L) (xg 185 (zh3 xa L) (xg 455 (zi1 xu L) noC)))
def zoL:St→St:=zQ 0 (bl 917512 33) (bl 7281311517 33)
def zht(C p:Ls)(z A:Int):St:=⟨(jn 3 ((V.gs 1 C)::(jn 13 ((V.sl 4 p)::((Qe z)::((Qe A)::(jn 13 []))))))),(gn 33 [])⟩
def zpR(p:Ls):St:=⟨(jn 3 ((V.gs 1 p)::(jn 29 []))),(gn 33 [])⟩
def zyI{β:Type}(xu:zaz)(xa:zt)(yH:zbK)(L:Nat)(z:List V)(p:Ls→Ls→Int→Int→Ob β):Ob β:=chk (0+68≤(XK z)) (xu β L (XL 68 z) (fun C=>cLd 4 z 68 fun D=>lt (QG .u64 ((XK D:Nat):Int)) fun E=>xa β L C E (fun F=>cLd 4 z 68 fun A=>p F A ((XK A:Nat):Int) (0:Int))))
theorem zRm{β:Type}(xu:zaz)(xa:zt)(yH:zbK)(L:Nat)(p:List V)(k:KK β):yj zdt (zdv xu xa yH L) L cf_ref11_encode [(V.agg p)] [] k=zyI xu xa yH L p (fun D z A C=>xw (ze zdt (zdv xu xa yH L) 0 L zng) zoL L (zht D z A C) (zg 0 (zu (ze zdt (zdv xu xa yH L) 0 L zCa) (yz 0 (CF.res cf_ref11_encode) k)))):=by kernel_rfl
def zoV{β:Type}(xu:zaz)(xa:zt)(yH:zbK)(L:Nat)(A C:Ls)(D z:Int)(p:Ls→Ls→Int→Int→Ob β)(E:Ls→Ob β):Ob β:=ifb (decide (z<D)) (idx C z fun G=>chk ((XK (XL 4 G))=4∧0+4≤4) (lt (zq [(Qc (0:Int)),(V.gs 35 ([]:Ls)),(V.gs 2 ([]:Ls)),(Qc (0:Int))] 0 (XL 4 G)) fun H=>chk (0+4≤(XK H)) (yH β L (Xv V.dem (XL 4 H)) true (fun F M=>chk ((XK A+XK F)*1≤xo∧XK A+XK F≤xo) (lt (A++F) fun J=>lt (QG .i64 ((z:Int)+(1:Int))) fun I=>p J C D I))))) (E A)
theorem zJi{β:Type}(xu:zaz)(xa:zt)(yH:zbK)(L:Nat)(C p:Ls)(z A:Int)(X:St→Ob β)(K:KT β):ze zdt (zdv xu xa yH L) 0 L zng (zht C p z A) (yF zoL X K)=zoV xu xa yH L C p z A (fun C p z A=>X (zht C p z A)) (fun C=>K (.exit 0) (zpR C)):=by kernel_rfl
def zuO{β:Type}(xu:zaz)(xa:zt)(yH:zbK)(L:Nat)(z:Ls)(p:Ls→Ob β):Ob β:=p z
theorem zEA{β:Type}(xu:zaz)(xa:zt)(yH:zbK)(L:Nat)(p:Ls)(k:KK β):(zg 0 (zu (ze zdt (zdv xu xa yH L) 0 L zCa) (yz 0 (CF.res cf_ref11_encode) k))) (.exit 0) (zpR p)=zuO xu xa yH L p (fun z=>k (V.gs 1 z) []):=by kernel_rfl
def zg9{β:Type}(xu:zaz)(xa:zt)(yH:zbK)(L:Nat)(p:Ls→Ob β):Nat→Ls→Ls→Int→Int→Ob β
 | 0,_,_,_,_=>none
 | n+1,D,z,A,C=>zoV xu xa yH L D z A C (fun D z A C=>zg9 xu xa yH L p n D z A C) p
theorem ztv{β:Type}(xu:zaz)(xa:zt)(yH:zbK)(L:Nat)(K:KT β):∀ (n:Nat) (p z:Ls) (A C:Int),xw (ze zdt (zdv xu xa yH L) 0 L zng) zoL n (zht p z A C) K=zg9 xu xa yH L (fun p=>K (.exit 0) (zpR p)) n p z A C:=by
 intro n; induction n <;> intros
 ·rfl
 ·exact (zJi ..).trans (by simp only [*]; rfl)
def zrm{β:Type}(xu:zaz)(xa:zt)(yH:zbK)(L:Nat)(E:List V)(p:Ls→Ob β):Ob β:=zyI xu xa yH L E (fun z A C D=>zg9 xu xa yH L (fun z=>zuO xu xa yH L z p) L z A C D)
theorem zRk{β:Type}(xu:zaz)(xa:zt)(yH:zbK)(L:Nat)(p:List V)(k:KK β):yj zdt (zdv xu xa yH L) L cf_ref11_encode [(V.agg p)] [] k=zrm xu xa yH L p (fun p=>k (V.gs 1 p) []):=by
 refine (zRm xu xa yH L p k).trans ?_
 unfold zrm
 first
  | (simp only [ztv,zEA]; done)
  | (simp only [ztv]; rfl)
abbrev za2:=∀ (β:Type),Nat→List V→(Ls→Ob β)→Ob β
def zD:za2:=fun β=>@zrm β xu xa yH
def zyi(zD:za2)(L:Nat):Dk:=dA AG fun p=>d0 fun β k=>zD β L p (fun p=>k (V.gs 1 p) [])
theorem zQU(L:Nat):DK (zyi zD L) (fun _=>yj zdt (zdv xu xa yH L) L cf_ref11_encode):=zF zap fun p=>zP fun _ k=>zRk xu xa yH L p k
def zH3:Hint:=⟨[(0,0),(5,2)],[],[none,none,none,some ((bl 7170 24),(bl 16646123 24)),none,some ((bl 2 24),(bl 16646123 24)),none,none,some ((bl 4 24),(bl 16646125 24)),none],[],[],false,false,[]⟩
def cf_ref11_Fits:CF:=cfD zH3 38
def zqn:CC:=zE [1,1,0,1,0,0] cf_ref11_Fits.body
def zww:CC:=zE [1,1,1] cf_ref11_Fits.body
def zd6:Nat→Sh:=zl [(6,(.sl 4)),(10,(.sl 4))]
def zd4(xb:zw)(zD:za2)(L:Nat):CBC:=(xg 488 (zyi zD L) (xg 148 (zeN xb L) noC))
def zsn:St→St:=zQ 0 (bl 7170 24) (bl 16646123 24)
def zjo(p:Ls)(z A:Int)(C:List V):St:=⟨(jn 1 ((V.ptr 1 0)::(jn 8 ((V.sl 4 p)::((Qe z)::((Qe A)::(jn 11 []))))))),(gn 1 ((.live true C)::(gn 22 [])))⟩
def zst(p:Bool):St:=⟨(jn 2 ((V.sc (.bool p))::(jn 21 []))),(gn 24 [])⟩
def zuC(p:List V):St:=⟨(jn 1 ((V.ptr 1 0)::(jn 22 []))),(gn 1 ((.live true p)::(gn 22 [])))⟩
def zEc{β:Type}(xb:zw)(zD:za2)(L:Nat)(A:List V)(z:Bool→Ob β)(p:Ls→Int→Int→List V→Ob β):Ob β:=cLd 4 A 68 fun D=>ifb (decide (((XK D:Nat):Int)>(256:Int))) (z false) (cLd 4 A 68 fun C=>p C ((XK C:Nat):Int) (0:Int) A)
theorem zWa{β:Type}(xb:zw)(zD:za2)(L:Nat)(p:List V)(k:KK β):yj zd6 (zd4 xb zD L) L cf_ref11_Fits [(V.agg p)] [] k=zEc xb zD L p (fun p=>k (V.sc (.bool p)) []) (fun z A C D=>xw (ze zd6 (zd4 xb zD L) 0 L zqn) zsn L (zjo z A C D) (zg 0 (zu (ze zd6 (zd4 xb zD L) 0 L zww) (yz 0 (CF.res cf_ref11_Fits) k)))):=by kernel_rfl
def zsb{β:Type}(xb:zw)(zD:za2)(L:Nat)(C:Ls)(D z:Int)(F:List V)(A:Bool→Ob β)(p:Ls→Int→Int→List V→Ob β)(E:List V→Ob β):Ob β:=ifb (decide (z<D)) (idx C z fun G=>chk ((XK (XL 4 G))=4∧0+4≤4) (lt (zq [(Qc (0:Int)),(V.gs 35 ([]:Ls)),(V.gs 2 ([]:Ls)),(Qc (0:Int))] 0 (XL 4 G)) fun H=>chk (0+4≤(XK H)) (xb β L (Xv V.dem (XL 4 H)) (fun I=>ifb (!I) (A false) (lt (QG .i64 ((z:Int)+(1:Int))) fun J=>p C D J F))))) (E F)
theorem zLD{β:Type}(xb:zw)(zD:za2)(L:Nat)(p:Ls)(z A:Int)(C:List V)(X:St→Ob β)(K:KT β):ze zd6 (zd4 xb zD L) 0 L zqn (zjo p z A C) (yF zsn X K)=zsb xb zD L p z A C (fun D=>K .ret (zst D)) (fun p z A C=>X (zjo p z A C)) (fun C=>K (.exit 0) (zuC C)):=by kernel_rfl
def znX{β:Type}(xb:zw)(zD:za2)(L:Nat)(z:Bool)(p:Bool→Ob β):Ob β:=p z
theorem zGc{β:Type}(xb:zw)(zD:za2)(L:Nat)(p:Bool)(k:KK β):(zg 0 (zu (ze zd6 (zd4 xb zD L) 0 L zww) (yz 0 (CF.res cf_ref11_Fits) k))) .ret (zst p)=znX xb zD L p (fun z=>k (V.sc (.bool z)) []):=by kernel_rfl
def zoW{β:Type}(xb:zw)(zD:za2)(L:Nat)(z:List V)(p:Bool→Ob β):Ob β:=chk (0+69≤(XK z)) (zD β L (Xv V.dem (XL 69 z)) (fun A=>p (decide (((XK A:Nat):Int)≤(100000:Int)))))
theorem zID{β:Type}(xb:zw)(zD:za2)(L:Nat)(p:List V)(k:KK β):(zg 0 (zu (ze zd6 (zd4 xb zD L) 0 L zww) (yz 0 (CF.res cf_ref11_Fits) k))) (.exit 0) (zuC p)=zoW xb zD L p (fun z=>k (V.sc (.bool z)) []):=by kernel_rfl
def ziL{β:Type}(xb:zw)(zD:za2)(L:Nat)(p:Bool→Ob β)(z:List V→Ob β):Nat→Ls→Int→Int→List V→Ob β
 | 0,_,_,_,_=>none
 | n+1,A,C,D,E=>zsb xb zD L A C D E p (fun A C D E=>ziL xb zD L p z n A C D E) z
theorem zxm{β:Type}(xb:zw)(zD:za2)(L:Nat)(K:KT β):∀ (n:Nat) (z:Ls) (A C:Int) (p:List V),xw (ze zd6 (zd4 xb zD L) 0 L zqn) zsn n (zjo z A C p) K=ziL xb zD L (fun D=>K .ret (zst D)) (fun p=>K (.exit 0) (zuC p)) n z A C p:=by
 intro n; induction n <;> intros
 ·rfl
 ·exact (zLD ..).trans (by simp only [*]; rfl)
def zxb{β:Type}(xb:zw)(zD:za2)(L:Nat)(E:List V)(p:Bool→Ob β):Ob β:=zEc xb zD L E p (fun A C D z=>ziL xb zD L (fun F=>znX xb zD L F p) (fun z=>zoW xb zD L z p) L A C D z)
theorem zUR{β:Type}(xb:zw)(zD:za2)(L:Nat)(p:List V)(k:KK β):yj zd6 (zd4 xb zD L) L cf_ref11_Fits [(V.agg p)] [] k=zxb xb zD L p (fun p=>k (V.sc (.bool p)) []):=by
 refine (zWa xb zD L p k).trans ?_
 unfold zxb
 first
  | (simp only [zxm,zGc,zID]; done)
  | (simp only [zxm]; rfl)
abbrev yR:=∀ (β:Type),Nat→List V→(Bool→Ob β)→Ob β
def zj:yR:=fun β=>@zxb β xb zD
def zxo(zj:yR)(L:Nat):Dk:=dA AG fun p=>d0 fun β k=>zj β L p (fun p=>k (V.sc (.bool p)) [])
theorem zTR(L:Nat):DK (zxo zj L) (fun _=>yj zd6 (zd4 xb zD L) L cf_ref11_Fits):=zF zap fun p=>zP fun _ k=>zUR xb zD L p k
def zHP:Hint:=⟨[],[],[none],[],[],false,false,[]⟩
def zM1:CF:=cfD zHP 86
def zAN:Nat→Sh:=zl []
def zBH(L:Nat):CBC:=noC
def zEd{β:Type}(L:Nat)(z:List V)(p:Bool→Ob β):Ob β:=chk (0+33≤(XK z)) (eqC 33 (XL 33 z) (We 32 (Qa (0:Int))++[(Qc (4294967295:Int))]) fun A=>p A)
theorem zTU{β:Type}(L:Nat)(p:List V)(k:KK β):yj zAN (zBH L) L zM1 [(V.agg p)] [] k=zEd L p (fun p=>k (V.sc (.bool p)) []):=by kernel_rfl
abbrev xH:=∀ (β:Type),Nat→List V→(Bool→Ob β)→Ob β
def ye:xH:=fun β=>@zEd β
def zvW(ye:xH)(L:Nat):Dk:=dA AG fun p=>d0 fun β k=>ye β L p (fun p=>k (V.sc (.bool p)) [])
theorem zVa(L:Nat):DK (zvW ye L) (fun _=>yj zAN (zBH L) L zM1):=zF zap fun p=>zP fun _ k=>zTU L p k
def zx5:Hint:=⟨[(0,0)],[],[none],[],[],false,false,[]⟩
def zCb:CF:=cfD zx5 46
def zrS:Nat→Sh:=zl [(4,(.sl 35)),(9,(.sl 35))]
def zsr(ye:xH)(L:Nat):CBC:=(xg 152 (zvW ye L) noC)
def zt6{β:Type}(ye:xH)(L:Nat)(z:List V)(p:Bool→Ob β):Ob β:=cLd 35 z 1 fun A=>ifb ((((XK A:Nat):Int):Int)==(1:Int)) (cLd 35 z 1 fun C=>idx C (0:Int) fun D=>ye β L (XL 33 D) (fun E=>p E)) (p false)
theorem zN8{β:Type}(ye:xH)(L:Nat)(p:List V)(k:KK β):yj zrS (zsr ye L) L zCb [(V.agg p)] [] k=zt6 ye L p (fun p=>k (V.sc (.bool p)) []):=by kernel_rfl
abbrev yk:=∀ (β:Type),Nat→List V→(Bool→Ob β)→Ob β
def za:yk:=fun β=>@zt6 β ye
def zfh(za:yk)(L:Nat):Dk:=dA AG fun p=>d0 fun β k=>za β L p (fun p=>k (V.sc (.bool p)) [])
theorem zNS(L:Nat):DK (zfh za L) (fun _=>yj zrS (zsr ye L) L zCb):=zF zap fun p=>zP fun _ k=>zN8 ye L p k
def zD9:Hint:=⟨[(0,0),(8,2),(26,2)],[],[none,none,none,none,none,some ((bl 117440522 81),(bl 2417851639229258349411803 81)),none,some ((bl 10 81),(bl 2417851639229258349411803 81)),none,none,some ((bl 4 81),(bl 2417851639229258349411797 81)),none,none,none,some ((bl 13194139533314 81),(bl 2417851639229258349411611 81)),none,some ((bl 2 81),(bl 2417851639229258349411611 81)),none,none,some ((bl 13194139533506 81),(bl 2417851639229258349411803 81)),none,some ((bl 13194139533314 81),(bl 2417851639229258349411675 81)),none,none,some ((bl 4 81),(bl 2417851639229258349411613 81)),none,some ((bl 516508834063867445250 81),(bl 2247846445845951121718747 81)),none,some ((bl 0 81),(bl 2247846445845951121718745 81)),none,none,some ((bl 4 81),(bl 2247846445845951121718749 81)),none],[],[],false,false,[]⟩
def cf_ref09_Check:CF:=cfD zD9 47
def zfN:CC:=zE [1,1,1,1,1,1,0,1,0,0,1,1,0,0,1,1,0,0] cf_ref09_Check.body
def zio:CC:=zE [1,1,1,1,1,1,0,1,0,0,1,1,1] cf_ref09_Check.body
def zjL:CC:=zE [1,1,1,1,1,1,1,0,1,0,0] cf_ref09_Check.body
def zgQ:CC:=zE [1,1,1,1,1,1,0,1,0,0] cf_ref09_Check.body
def zmt:CC:=zE [1,1,1,1,1,1,1,1] cf_ref09_Check.body
def zl7:CC:=zE [1,1,1,1,0,1,0,0] cf_ref09_Check.body
def zjq:CC:=zE [1,1,1,1,1,1,1] cf_ref09_Check.body
def zkY:CC:=zE [1,1,1,1,1] cf_ref09_Check.body
def xP:Nat→Sh:=zl [(14,(.sl 35)),(19,(.sl 2)),(24,(.sl 2)),(31,(.int .i64)),(35,(.int .i64)),(41,(.sl 35)),(66,(.sl 35)),(52,(.sl 35)),(58,(.sl 35))]
def yP(xb:zw)(ye:xH)(za:yk)(L:Nat):CBC:=(xg 153 (zfh za L) (xg 152 (zvW ye L) (xg 148 (zeN xb L) noC)))
def zne:St→St:=zQ 0 (bl 117440522 81) (bl 2417851639229258349411803 81)
def zcb:St→St:=zQ 0 (bl 13194139533314 81) (bl 2417851639229258349411611 81)
def zgh:St→St:=zQ 0 (bl 13194139533506 81) (bl 2417851639229258349411803 81)
def zkm:St→St:=zQ 0 (bl 516508834063867445250 81) (bl 2247846445845951121718747 81)
def zg0(C:Int)(p:Ls)(z A:Int)(D:List V):St:=⟨(jn 1 ((V.ptr 1 0)::(jn 1 ((Qe C)::(jn 20 ((V.sl 2 p)::((Qe z)::((Qe A)::(jn 54 []))))))))),(gn 1 ((.live true D)::(gn 79 [])))⟩
def zaN(p:Int):St:=⟨(jn 2 ((Qe p)::(jn 78 []))),(gn 81 [])⟩
def zlP(p:Int)(z:List V):St:=⟨(jn 1 ((V.ptr 1 0)::(jn 1 ((Qe p)::(jn 77 []))))),(gn 1 ((.live true z)::(gn 79 [])))⟩
def zci(p z:Int)(A:List V):St:=⟨(jn 1 ((V.ptr 1 0)::(jn 40 ((Qe p)::((Qe z)::(jn 37 [])))))),(gn 1 ((.live true A)::(gn 79 [])))⟩
def zcE(A C p z:Int)(D:List V):St:=⟨(jn 1 ((V.ptr 1 0)::(jn 4 ((Qe A)::((Qe C)::(jn 34 ((Qe p)::((Qe z)::(jn 37 []))))))))),(gn 1 ((.live true D)::(gn 79 [])))⟩
def ziI(p:List V):St:=⟨(jn 1 ((V.ptr 1 0)::(jn 79 []))),(gn 1 ((.live true p)::(gn 79 [])))⟩
def ze6(p:Ls)(z A:Int)(C:List V):St:=⟨(jn 1 ((V.ptr 1 0)::(jn 64 ((V.sl 35 p)::((Qe z)::((Qe A)::(jn 12 []))))))),(gn 1 ((.live true C)::(gn 79 [])))⟩
def zr1(p z:Int)(A:List V):St:=⟨(jn 1 ((V.ptr 1 0)::(jn 40 ((Qe p)::((Qe z)::(jn 37 [])))))),(gn 1 ((.live true A)::(gn 79 [])))⟩
def zrQ:St:=⟨(jn 81 []),(gn 81 [])⟩
def zBu{β:Type}(xb:zw)(ye:xH)(za:yk)(L:Nat)(A:List V)(p:Int→Ob β)(z:Int→Ls→Int→Int→List V→Ob β):Ob β:=chk (0+4≤(XK A)) (xb β L (Xv V.dem (XL 4 A)) (fun D=>ifb (!D) (p (4:Int)) (cLd 35 A 1 fun E=>ifb ((((XK E:Nat):Int):Int)==(0:Int)) (p (93:Int)) (cLd 2 A 2 fun F=>ifb ((((XK F:Nat):Int):Int)==(0:Int)) (p (93:Int)) (cLd 2 A 2 fun C=>z (0:Int) C ((XK C:Nat):Int) (0:Int) A)))))
theorem zS5{β:Type}(xb:zw)(ye:xH)(za:yk)(L:Nat)(p:List V)(k:KK β):yj xP (yP xb ye za L) L cf_ref09_Check [(V.agg p)] [] k=zBu xb ye za L p (fun p=>k (Qe p) []) (fun D z A C E=>xw (ze xP (yP xb ye za L) 0 L zl7) zne L (zg0 D z A C E) (zg 0 (zu (ze xP (yP xb ye za L) 0 L zkY) (yz 0 (CF.res cf_ref09_Check) k)))):=by kernel_rfl
def znJ{β:Type}(xb:zw)(ye:xH)(za:yk)(L:Nat)(F:Int)(C:Ls)(D z:Int)(G:List V)(A:Int→Ob β)(p:Int→Ls→Int→Int→List V→Ob β)(E:Int→List V→Ob β):Ob β:=ifb (decide (z<D)) (idx C z fun H=>chk ((XK (XL 2 H))=2∧0+2≤2) (lt (zq [(Qe (0:Int)),(V.gs 1 ([]:Ls))] 0 (XL 2 H)) fun I=>cI .i64 I 0 fun J=>ifb (decide (J>(2100000000000000:Int))) (A (90:Int)) (cI .i64 I 0 fun M=>lt (QG .i64 ((F:Int)+M)) fun N=>lt (QG .i64 ((z:Int)+(1:Int))) fun O=>p N C D O G))) (E F G)
theorem zFR{β:Type}(xb:zw)(ye:xH)(za:yk)(L:Nat)(C:Int)(p:Ls)(z A:Int)(D:List V)(X:St→Ob β)(K:KT β):ze xP (yP xb ye za L) 0 L zl7 (zg0 C p z A D) (yF zne X K)=znJ xb ye za L C p z A D (fun E=>K .ret (zaN E)) (fun C p z A D=>X (zg0 C p z A D)) (fun C D=>K (.exit 0) (zlP C D)):=by kernel_rfl
def zgP{β:Type}(xb:zw)(ye:xH)(za:yk)(L:Nat)(z:Int)(p:Int→Ob β):Ob β:=p z
theorem zAK{β:Type}(xb:zw)(ye:xH)(za:yk)(L:Nat)(p:Int)(k:KK β):(zg 0 (zu (ze xP (yP xb ye za L) 0 L zkY) (yz 0 (CF.res cf_ref09_Check) k))) .ret (zaN p)=zgP xb ye za L p (fun z=>k (Qe z) []):=by kernel_rfl
def zlm{β:Type}(xb:zw)(ye:xH)(za:yk)(L:Nat)(D:Int)(A:List V)(z:Int→Ob β)(p:Int→Int→List V→Ob β):Ob β:=ifb (decide (D>(2100000000000000:Int))) (z (90:Int)) (cLd 35 A 1 fun C=>p ((XK C:Nat):Int) (0:Int) A)
theorem zCV{β:Type}(xb:zw)(ye:xH)(za:yk)(L:Nat)(z:Int)(p:List V)(k:KK β):(zg 0 (zu (ze xP (yP xb ye za L) 0 L zkY) (yz 0 (CF.res cf_ref09_Check) k))) (.exit 0) (zlP z p)=zlm xb ye za L z p (fun D=>k (Qe D) []) (fun A C p=>xw (ze xP (yP xb ye za L) 0 L zgQ) zcb L (zci A C p) (zg 2 (zu (ze xP (yP xb ye za L) 0 L zjq) (yz 0 (CF.res cf_ref09_Check) k)))):=by kernel_rfl
def zlx{β:Type}(xb:zw)(ye:xH)(za:yk)(L:Nat)(A z:Int)(D:List V)(p:Int→Int→Int→Int→List V→Ob β)(C:List V→Ob β):Ob β:=ifb (decide (z<A)) (p z (0:Int) A z D) (C D)
theorem zC8{β:Type}(xb:zw)(ye:xH)(za:yk)(L:Nat)(p z:Int)(A:List V)(X:St→Ob β)(K:KT β):ze xP (yP xb ye za L) 0 L zgQ (zci p z A) (yF zcb X K)=zlx xb ye za L p z A (fun C D p z A=>xw (ze xP (yP xb ye za L) 0 L zfN) zgh L (zcE C D p z A) (zg 4 (zg 3 (zu (ze xP (yP xb ye za L) 0 L zio) (yF zcb X K))))) (fun A=>K (.exit 2) (ziI A)):=by kernel_rfl
def zjR{β:Type}(xb:zw)(ye:xH)(za:yk)(L:Nat)(A:List V)(p:Ls→Int→Int→List V→Ob β):Ob β:=cLd 35 A 1 fun z=>p z ((XK z:Nat):Int) (0:Int) A
theorem zAB{β:Type}(xb:zw)(ye:xH)(za:yk)(L:Nat)(p:List V)(k:KK β):(zg 2 (zu (ze xP (yP xb ye za L) 0 L zjq) (yz 0 (CF.res cf_ref09_Check) k))) (.exit 2) (ziI p)=zjR xb ye za L p (fun z A C p=>xw (ze xP (yP xb ye za L) 0 L zjL) zkm L (ze6 z A C p) (zg 6 (zu (ze xP (yP xb ye za L) 0 L zmt) (yz 0 (CF.res cf_ref09_Check) k)))):=by kernel_rfl
def zf0{β:Type}(xb:zw)(ye:xH)(za:yk)(L:Nat)(E F C D:Int)(z:List V)(A:Int→Ob β)(p:Int→Int→Int→Int→List V→Ob β)(G:Int→Int→List V→Ob β):Ob β:=ifb (decide (F<E)) (cLd 35 z 1 fun H=>idx H E fun I=>cLd 35 z 1 fun J=>idx J F fun M=>eqC 33 (XL 33 I) (XL 33 M) fun N=>ifb N (A (91:Int)) (lt (QG .i64 ((F:Int)+(1:Int))) fun O=>p E O C D z)) (G C D z)
theorem zta{β:Type}(xb:zw)(ye:xH)(za:yk)(L:Nat)(C D p z:Int)(A:List V)(X:St→Ob β)(K:KT β):ze xP (yP xb ye za L) 0 L zfN (zcE C D p z A) (yF zgh X K)=zf0 xb ye za L C D p z A (fun E=>K .ret (zaN E)) (fun C D p z A=>X (zcE C D p z A)) (fun p z A=>K (.exit 4) (zr1 p z A)):=by kernel_rfl
def zkx{β:Type}(xb:zw)(ye:xH)(za:yk)(L:Nat)(A:Ls)(C z:Int)(D:List V)(E:Int→Ob β)(p:Ls→Int→Int→List V→Ob β)(H:Ob β):Ob β:=ifb (decide (z<C)) (idx A z fun F=>chk ((XK (XL 35 F))=35∧0+35≤35) (lt (zq (We 32 (Qa (0:Int))++[(Qc (0:Int)),(Qc (0:Int)),(V.gs 1 ([]:Ls))]) 0 (XL 35 F)) fun G=>chk (0+33≤(XK G)) (ye β L (XL 33 G) (fun I=>ifb I (chk (0+4≤(XK D)) (za β L (Xv V.dem (XL 4 D)) (fun J=>ifb (!J) (E (92:Int)) (lt (QG .i64 ((z:Int)+(1:Int))) fun M=>p A C M D)))) (lt (QG .i64 ((z:Int)+(1:Int))) fun N=>p A C N D))))) (H)
theorem zAF{β:Type}(xb:zw)(ye:xH)(za:yk)(L:Nat)(p:Ls)(z A:Int)(C:List V)(X:St→Ob β)(K:KT β):ze xP (yP xb ye za L) 0 L zjL (ze6 p z A C) (yF zkm X K)=zkx xb ye za L p z A C (fun D=>K .ret (zaN D)) (fun p z A C=>X (ze6 p z A C)) (K (.exit 6) (zrQ)):=by kernel_rfl
def ze2{β:Type}(xb:zw)(ye:xH)(za:yk)(L:Nat)(z:Int)(p:Int→Ob β):Ob β:=p z
theorem zp3{β:Type}(xb:zw)(ye:xH)(za:yk)(L:Nat)(p:Int)(X:St→Ob β)(K:KT β):(zg 4 (zg 3 (zu (ze xP (yP xb ye za L) 0 L zio) (yF zcb X K)))) .ret (zaN p)=ze2 xb ye za L p (fun p=>K .ret (zaN p)):=by kernel_rfl
def zfk{β:Type}(xb:zw)(ye:xH)(za:yk)(L:Nat)(z A:Int)(D:List V)(p:Int→Int→List V→Ob β):Ob β:=lt (QG .i64 ((A:Int)+(1:Int))) fun C=>p z C D
theorem zrt{β:Type}(xb:zw)(ye:xH)(za:yk)(L:Nat)(p z:Int)(A:List V)(X:St→Ob β)(K:KT β):(zg 4 (zg 3 (zu (ze xP (yP xb ye za L) 0 L zio) (yF zcb X K)))) (.exit 4) (zr1 p z A)=zfk xb ye za L p z A (fun p z A=>X (zci p z A)):=by kernel_rfl
def zip{β:Type}(xb:zw)(ye:xH)(za:yk)(L:Nat)(z:Int)(p:Int→Ob β):Ob β:=p z
theorem zxG{β:Type}(xb:zw)(ye:xH)(za:yk)(L:Nat)(p:Int)(k:KK β):(zg 6 (zu (ze xP (yP xb ye za L) 0 L zmt) (yz 0 (CF.res cf_ref09_Check) k))) .ret (zaN p)=zip xb ye za L p (fun z=>k (Qe z) []):=by kernel_rfl
def zjv{β:Type}(xb:zw)(ye:xH)(za:yk)(L:Nat)(p:Int→Ob β):Ob β:=p (0:Int)
theorem zyz{β:Type}(xb:zw)(ye:xH)(za:yk)(L:Nat)(k:KK β):(zg 6 (zu (ze xP (yP xb ye za L) 0 L zmt) (yz 0 (CF.res cf_ref09_Check) k))) (.exit 6) (zrQ)=zjv xb ye za L (fun p=>k (Qe p) []):=by kernel_rfl
def zi5{β:Type}(xb:zw)(ye:xH)(za:yk)(L:Nat)(z:Int)(p:Int→Ob β):Ob β:=p z
theorem zyf{β:Type}(xb:zw)(ye:xH)(za:yk)(L:Nat)(p:Int)(k:KK β):(zg 2 (zu (ze xP (yP xb ye za L) 0 L zjq) (yz 0 (CF.res cf_ref09_Check) k))) .ret (zaN p)=zi5 xb ye za L p (fun z=>k (Qe z) []):=by kernel_rfl
def zgi{β:Type}(xb:zw)(ye:xH)(za:yk)(L:Nat)(p:Int→Ob β)(z:Int→List V→Ob β):Nat→Int→Ls→Int→Int→List V→Ob β
 | 0,_,_,_,_,_=>none
 | n+1,E,A,C,D,F=>znJ xb ye za L E A C D F p (fun E A C D F=>zgi xb ye za L p z n E A C D F) z
theorem zrG{β:Type}(xb:zw)(ye:xH)(za:yk)(L:Nat)(K:KT β):∀ (n:Nat) (p:Int) (A:Ls) (C D:Int) (z:List V),xw (ze xP (yP xb ye za L) 0 L zl7) zne n (zg0 p A C D z) K=zgi xb ye za L (fun E=>K .ret (zaN E)) (fun p z=>K (.exit 0) (zlP p z)) n p A C D z:=by
 intro n; induction n <;> intros
 ·rfl
 ·exact (zFR ..).trans (by simp only [*]; rfl)
def zb6{β:Type}(xb:zw)(ye:xH)(za:yk)(L:Nat)(p:Int→Ob β)(z:Int→Int→List V→Ob β):Nat→Int→Int→Int→Int→List V→Ob β
 | 0,_,_,_,_,_=>none
 | n+1,D,E,A,C,F=>zf0 xb ye za L D E A C F p (fun D E A C F=>zb6 xb ye za L p z n D E A C F) z
theorem zjC{β:Type}(xb:zw)(ye:xH)(za:yk)(L:Nat)(K:KT β):∀ (n:Nat) (C D p z:Int) (A:List V),xw (ze xP (yP xb ye za L) 0 L zfN) zgh n (zcE C D p z A) K=zb6 xb ye za L (fun E=>K .ret (zaN E)) (fun p z A=>K (.exit 4) (zr1 p z A)) n C D p z A:=by
 intro n; induction n <;> intros
 ·rfl
 ·exact (zta ..).trans (by simp only [*]; rfl)
def zgS{β:Type}(xb:zw)(ye:xH)(za:yk)(L:Nat)(z A:Int)(C:List V)(E:List V→Ob β)(D:Int→Ob β)(p:Int→Int→List V→Ob β):Ob β:=zlx xb ye za L z A C (fun F G z A C=>zb6 xb ye za L (fun H=>ze2 xb ye za L H D) (fun z A C=>zfk xb ye za L z A C p) L F G z A C) E
theorem zAH{β:Type}(xb:zw)(ye:xH)(za:yk)(L:Nat)(p z:Int)(A:List V)(X:St→Ob β)(K:KT β):ze xP (yP xb ye za L) 0 L zgQ (zci p z A) (yF zcb X K)=zgS xb ye za L p z A (fun A=>K (.exit 2) (ziI A)) (fun C=>K .ret (zaN C)) (fun p z A=>X (zci p z A)):=by
 refine (zC8 xb ye za L p z A X K).trans ?_
 unfold zgS
 first
  | (simp only [zjC,zp3,zrt]; done)
  | (simp only [zjC]; rfl)
def ze0{β:Type}(xb:zw)(ye:xH)(za:yk)(L:Nat)(z:List V→Ob β)(p:Int→Ob β):Nat→Int→Int→List V→Ob β
 | 0,_,_,_=>none
 | n+1,A,C,D=>zgS xb ye za L A C D z p (fun A C D=>ze0 xb ye za L z p n A C D)
theorem zpN{β:Type}(xb:zw)(ye:xH)(za:yk)(L:Nat)(K:KT β):∀ (n:Nat) (z A:Int) (p:List V),xw (ze xP (yP xb ye za L) 0 L zgQ) zcb n (zci z A p) K=ze0 xb ye za L (fun p=>K (.exit 2) (ziI p)) (fun C=>K .ret (zaN C)) n z A p:=by
 intro n; induction n <;> intros
 ·rfl
 ·exact (zAH ..).trans (by simp only [*]; rfl)
def zen{β:Type}(xb:zw)(ye:xH)(za:yk)(L:Nat)(p:Int→Ob β)(z:Ob β):Nat→Ls→Int→Int→List V→Ob β
 | 0,_,_,_,_=>none
 | n+1,A,C,D,E=>zkx xb ye za L A C D E p (fun A C D E=>zen xb ye za L p z n A C D E) z
theorem zog{β:Type}(xb:zw)(ye:xH)(za:yk)(L:Nat)(K:KT β):∀ (n:Nat) (p:Ls) (z A:Int) (C:List V),xw (ze xP (yP xb ye za L) 0 L zjL) zkm n (ze6 p z A C) K=zen xb ye za L (fun D=>K .ret (zaN D)) (K (.exit 6) (zrQ)) n p z A C:=by
 intro n; induction n <;> intros
 ·rfl
 ·exact (zAF ..).trans (by simp only [*]; rfl)
def zfL{β:Type}(xb:zw)(ye:xH)(za:yk)(L:Nat)(z:List V)(p:Int→Ob β):Ob β:=zjR xb ye za L z (fun A C D z=>zen xb ye za L (fun E=>zip xb ye za L E p) (zjv xb ye za L p) L A C D z)
theorem zyJ{β:Type}(xb:zw)(ye:xH)(za:yk)(L:Nat)(p:List V)(k:KK β):(zg 2 (zu (ze xP (yP xb ye za L) 0 L zjq) (yz 0 (CF.res cf_ref09_Check) k))) (.exit 2) (ziI p)=zfL xb ye za L p (fun z=>k (Qe z) []):=by
 refine (zAB xb ye za L p k).trans ?_
 unfold zfL
 first
  | (simp only [zog,zxG,zyz]; done)
  | (simp only [zog]; rfl)
def zeo{β:Type}(xb:zw)(ye:xH)(za:yk)(L:Nat)(D:Int)(z:List V)(p:Int→Ob β):Ob β:=zlm xb ye za L D z p (fun A C z=>ze0 xb ye za L (fun z=>zfL xb ye za L z p) (fun E=>zi5 xb ye za L E p) L A C z)
theorem zA8{β:Type}(xb:zw)(ye:xH)(za:yk)(L:Nat)(p:Int)(z:List V)(k:KK β):(zg 0 (zu (ze xP (yP xb ye za L) 0 L zkY) (yz 0 (CF.res cf_ref09_Check) k))) (.exit 0) (zlP p z)=zeo xb ye za L p z (fun A=>k (Qe A) []):=by
 refine (zCV xb ye za L p z k).trans ?_
 unfold zeo
 first
  | (simp only [zpN,zyJ,zyf]; done)
  | (simp only [zpN]; rfl)
def ztI{β:Type}(xb:zw)(ye:xH)(za:yk)(L:Nat)(F:List V)(p:Int→Ob β):Ob β:=zBu xb ye za L F p (fun z C D E A=>zgi xb ye za L (fun G=>zgP xb ye za L G p) (fun z A=>zeo xb ye za L z A p) L z C D E A)
theorem zSn{β:Type}(xb:zw)(ye:xH)(za:yk)(L:Nat)(p:List V)(k:KK β):yj xP (yP xb ye za L) L cf_ref09_Check [(V.agg p)] [] k=ztI xb ye za L p (fun p=>k (Qe p) []):=by
 refine (zS5 xb ye za L p k).trans ?_
 unfold ztI
 first
  | (simp only [zrG,zAK,zA8]; done)
  | (simp only [zrG]; rfl)
abbrev zO:=∀ (β:Type),Nat→List V→(Int→Ob β)→Ob β
def yh:zO:=fun β=>@ztI β xb ye za
def zoc(yh:zO)(L:Nat):Dk:=dA AG fun p=>d0 fun β k=>yh β L p (fun p=>k (Qe p) [])
theorem zTj(L:Nat):DK (zoc yh L) (fun _=>yj xP (yP xb ye za L) L cf_ref09_Check):=zF zap fun p=>zP fun _ k=>zSn xb ye za L p k
def zNI:Hint:=⟨[(0,0)],[],[none,none,none],[],[],false,false,[]⟩
def zIi:CF:=cfD zNI 25
def zIa:Nat→Sh:=zl []
def zJa(xb:zw)(xd:yG)(yQ:zfx)(L:Nat):CBC:=(xg 454 (zmn yQ L) (xg 149 (zfn xd L) (xg 148 (zeN xb L) noC)))
def zMr{β:Type}(xb:zw)(xd:yG)(yQ:zfx)(L:Nat)(z:List V)(p:List V→Ob β):Ob β:=chk (0+4≤(XK z)) (xb β L (Xv V.dem (XL 4 z)) (fun E=>ifb (!E) (lt (We 32 (Qa (0:Int))) fun A=>chk (0=0∧(XK A)=32∧32≠0) (p A)) (chk (0+4≤(XK z)) (xd β L (Xv V.dem (XL 4 z)) false (fun F=>yQ β L F (fun C=>chk ((XK C)=32∧0+32≤32) (lt (zq (We 32 (Qa (0:Int))) 0 C) fun D=>chk (0=0∧(XK D)=32∧32≠0) (p D))))))))
theorem zZo{β:Type}(xb:zw)(xd:yG)(yQ:zfx)(L:Nat)(p:List V)(k:KK β):yj zIa (zJa xb xd yQ L) L zIi [(V.agg p)] [] k=zMr xb xd yQ L p (fun p=>k (V.agg p) []):=by kernel_rfl
abbrev zZ:=∀ (β:Type),Nat→List V→(List V→Ob β)→Ob β
def yn:zZ:=fun β=>@zMr β xb xd yQ
def zLt(yn:zZ)(L:Nat):Dk:=dA AG fun p=>d0 fun β k=>yn β L p (fun p=>k (V.agg p) [])
theorem zZj(L:Nat):DK (zLt yn L) (fun _=>yj zIa (zJa xb xd yQ L) L zIi):=zF zap fun p=>zP fun _ k=>zZo xb xd yQ L p k
def zE2:Hint:=⟨[],[],[none,some ((bl 393 19),(bl 524239 19)),none,some ((bl 0 19),(bl 524231 19)),none,none,some ((bl 16 19),(bl 524247 19)),none],[],[],false,false,[]⟩
def cf_ref11_place:CF:=cfD zE2 48
def zqJ:CC:=zE [1,0,1,0,0] cf_ref11_place.body
def zwn:CC:=zE [1,1] cf_ref11_place.body
def zc9:Nat→Sh:=zl []
def zdb(L:Nat):CBC:=noC
def zsl:St→St:=zQ 0 (bl 393 19) (bl 524239 19)
def zi0(p:Ls)(z A:Int)(C:List V):St:=⟨((V.sl 32 p)::(jn 2 ((V.ptr 3 0)::(jn 3 ((Qe z)::((Qe A)::(jn 10 []))))))),(gn 3 ((.live true C)::(gn 15 [])))⟩
def zq2(p:Int):St:=⟨(jn 4 ((Qe p)::(jn 14 []))),(gn 19 [])⟩
def zr6:St:=⟨(jn 19 []),(gn 19 [])⟩
def zBI{β:Type}(L:Nat)(z:Ls)(A:List V)(p:Ls→Int→Int→List V→Ob β):Ob β:=p z ((XK z:Nat):Int) (0:Int) A
theorem zTd{β:Type}(L:Nat)(p:Ls)(z:List V)(k:KK β):yj zc9 (zdb L) L cf_ref11_place [(V.sl 32 p),(V.agg z)] [] k=zBI L p z (fun p A C D=>xw (ze zc9 (zdb L) 0 L zqJ) zsl L (zi0 p A C D) (zg 0 (zu (ze zc9 (zdb L) 0 L zwn) (yz 0 (CF.res cf_ref11_place) k)))):=by kernel_rfl
def zss{β:Type}(L:Nat)(E:Ls)(F z:Int)(C:List V)(A:Int→Ob β)(p:Ls→Int→Int→List V→Ob β)(D:Ob β):Ob β:=ifb (decide (z<F)) (idx E z fun G=>chk (0+32≤(XK C)) (eqC 32 (XL 32 G) (XL 32 C) fun H=>ifb H (A z) (lt (QG .i64 ((z:Int)+(1:Int))) fun I=>p E F I C))) (D)
theorem zMH{β:Type}(L:Nat)(p:Ls)(z A:Int)(C:List V)(X:St→Ob β)(K:KT β):ze zc9 (zdb L) 0 L zqJ (zi0 p z A C) (yF zsl X K)=zss L p z A C (fun D=>K .ret (zq2 D)) (fun p z A C=>X (zi0 p z A C)) (K (.exit 0) (zr6)):=by kernel_rfl
def znl{β:Type}(L:Nat)(z:Int)(p:Int→Ob β):Ob β:=p z
theorem zGh{β:Type}(L:Nat)(p:Int)(k:KK β):(zg 0 (zu (ze zc9 (zdb L) 0 L zwn) (yz 0 (CF.res cf_ref11_place) k))) .ret (zq2 p)=znl L p (fun z=>k (Qe z) []):=by kernel_rfl
def zoz{β:Type}(L:Nat)(p:Int→Ob β):Ob β:=p (-1:Int)
theorem zIu{β:Type}(L:Nat)(k:KK β):(zg 0 (zu (ze zc9 (zdb L) 0 L zwn) (yz 0 (CF.res cf_ref11_place) k))) (.exit 0) (zr6)=zoz L (fun p=>k (Qe p) []):=by kernel_rfl
def ziN{β:Type}(L:Nat)(p:Int→Ob β)(z:Ob β):Nat→Ls→Int→Int→List V→Ob β
 | 0,_,_,_,_=>none
 | n+1,A,C,D,E=>zss L A C D E p (fun A C D E=>ziN L p z n A C D E) z
theorem zvl{β:Type}(L:Nat)(K:KT β):∀ (n:Nat) (p:Ls) (z A:Int) (C:List V),xw (ze zc9 (zdb L) 0 L zqJ) zsl n (zi0 p z A C) K=ziN L (fun D=>K .ret (zq2 D)) (K (.exit 0) (zr6)) n p z A C:=by
 intro n; induction n <;> intros
 ·rfl
 ·exact (zMH ..).trans (by simp only [*]; rfl)
def ztL{β:Type}(L:Nat)(z:Ls)(A:List V)(p:Int→Ob β):Ob β:=zBI L z A (fun z C D E=>ziN L (fun F=>znl L F p) (zoz L p) L z C D E)
theorem zSS{β:Type}(L:Nat)(p:Ls)(z:List V)(k:KK β):yj zc9 (zdb L) L cf_ref11_place [(V.sl 32 p),(V.agg z)] [] k=ztL L p z (fun p=>k (Qe p) []):=by
 refine (zTd L p z k).trans ?_
 unfold ztL
 first
  | (simp only [zvl,zGh,zIu]; done)
  | (simp only [zvl]; rfl)
abbrev zy:=∀ (β:Type),Nat→Ls→List V→(Int→Ob β)→Ob β
def xc:zy:=fun β=>@ztL β
def zon(xc:zy)(L:Nat):Dk:=dA (AL 32) fun p=>dA AG fun z=>d0 fun β k=>xc β L p z (fun p=>k (Qe p) [])
theorem zTp(L:Nat):DK (zon xc L) (fun _=>yj zc9 (zdb L) L cf_ref11_place):=zF zcd fun p=>zF zap fun z=>zP fun _ k=>zSS L p z k
def zzO:Hint:=⟨[(0,0),(3,3),(6,2)],[],[none,some ((bl 7170 33),(bl 8320974475 33)),none,some ((bl 0 33),(bl 8320974475 33)),none,none,some ((bl 1842210 33),(bl 8321498795 33)),none,some ((bl 7170 33),(bl 8321498795 33)),none,none,some ((bl 16 33),(bl 8320974491 33)),none],[],[],false,false,[]⟩
def cf_ref11_forward:CF:=cfD zzO 49
def zhj:CC:=zE [1,0,1,0,0,1,1,0,0,1,1,0,0] cf_ref11_forward.body
def zkj:CC:=zE [1,0,1,0,0,1,1,1] cf_ref11_forward.body
def zjl:CC:=zE [1,0,1,0,0] cf_ref11_forward.body
def zsd:CC:=zE [1,1] cf_ref11_forward.body
def zaw:Nat→Sh:=zl [(10,(.sl 4)),(18,(.sl 35))]
def zax(xc:zy)(L:Nat):CBC:=(xg 556 (zon xc L) noC)
def zdi:St→St:=zQ 0 (bl 7170 33) (bl 8320974475 33)
def zh6:St→St:=zQ 0 (bl 1842210 33) (bl 8321498795 33)
def zc1(C p:Ls)(z A:Int):St:=⟨(jn 1 ((V.sl 32 C)::(jn 8 ((V.sl 4 p)::((Qe z)::((Qe A)::(jn 20 []))))))),(gn 33 [])⟩
def zdq(F:Ls)(G:Int)(p:Ls)(z A:Int)(C:Ls)(D E:Int):St:=⟨(jn 1 ((V.sl 32 F)::(jn 3 ((Qe G)::(jn 4 ((V.sl 4 p)::((Qe z)::((Qe A)::(jn 5 ((V.sl 35 C)::((Qe D)::((Qe E)::(jn 12 []))))))))))))),(gn 33 [])⟩
def zj8:St:=⟨(jn 33 []),(gn 33 [])⟩
def zcS(p:Bool):St:=⟨(jn 4 ((V.sc (.bool p))::(jn 28 []))),(gn 33 [])⟩
def zpj(C p:Ls)(z A:Int):St:=⟨(jn 1 ((V.sl 32 C)::(jn 8 ((V.sl 4 p)::((Qe z)::((Qe A)::(jn 20 []))))))),(gn 33 [])⟩
abbrev zl9(β:Type):Type:=Ls→Int→Ls→Int→Int→Ls→Int→Int→Ob β
def zxe{β:Type}(xc:zy)(L:Nat)(A:List V)(C:Ls)(p:Ls→Ls→Int→Int→Ob β):Ob β:=cLd 4 A 68 fun z=>p C z ((XK z:Nat):Int) (0:Int)
theorem zPp{β:Type}(xc:zy)(L:Nat)(z:List V)(p:Ls)(k:KK β):yj zaw (zax xc L) L cf_ref11_forward [(V.agg z),(V.sl 32 p)] [] k=zxe xc L z p (fun p A C D=>xw (ze zaw (zax xc L) 0 L zjl) zdi L (zc1 p A C D) (zg 0 (zu (ze zaw (zax xc L) 0 L zsd) (yz 0 (CF.res cf_ref11_forward) k)))):=by kernel_rfl
def zoQ{β:Type}(xc:zy)(L:Nat)(G A:Ls)(C z:Int)(p:zl9 β)(D:Ob β):Ob β:=ifb (decide (z<C)) (idx A z fun E=>chk ((XK (XL 4 E))=4∧0+4≤4) (lt (zq [(Qc (0:Int)),(V.gs 35 ([]:Ls)),(V.gs 2 ([]:Ls)),(Qc (0:Int))] 0 (XL 4 E)) fun H=>cLd 35 H 1 fun F=>p G z A C z F ((XK F:Nat):Int) (0:Int))) (D)
theorem zIV{β:Type}(xc:zy)(L:Nat)(C p:Ls)(z A:Int)(X:St→Ob β)(K:KT β):ze zaw (zax xc L) 0 L zjl (zc1 C p z A) (yF zdi X K)=zoQ xc L C p z A (fun C G p z A D E F=>xw (ze zaw (zax xc L) 0 L zhj) zh6 L (zdq C G p z A D E F) (zg 2 (zg 1 (zu (ze zaw (zax xc L) 0 L zkj) (yF zdi X K))))) (K (.exit 0) (zj8)):=by kernel_rfl
def zu7{β:Type}(xc:zy)(L:Nat)(p:Bool→Ob β):Ob β:=p false
theorem zEm{β:Type}(xc:zy)(L:Nat)(k:KK β):(zg 0 (zu (ze zaw (zax xc L) 0 L zsd) (yz 0 (CF.res cf_ref11_forward) k))) (.exit 0) (zj8)=zu7 xc L (fun p=>k (V.sc (.bool p)) []):=by kernel_rfl
def zhS{β:Type}(xc:zy)(L:Nat)(H:Ls)(J:Int)(C:Ls)(D E:Int)(F:Ls)(G z:Int)(A:Bool→Ob β)(p:zl9 β)(I:Ls→Ls→Int→Int→Ob β):Ob β:=ifb (decide (z<G)) (idx F z fun M=>chk ((XK (XL 35 M))=35∧0+35≤35) (lt (zq (We 32 (Qa (0:Int))++[(Qc (0:Int)),(Qc (0:Int)),(V.gs 1 ([]:Ls))]) 0 (XL 35 M)) fun N=>chk (0+32≤(XK N)) (xc β L H (XL 32 N) (fun O=>ifb (decide (O≥J)) (A true) (lt (QG .i64 ((z:Int)+(1:Int))) fun P=>p H J C D E F G P))))) (I H C D E)
theorem zvK{β:Type}(xc:zy)(L:Nat)(F:Ls)(G:Int)(p:Ls)(z A:Int)(C:Ls)(D E:Int)(X:St→Ob β)(K:KT β):ze zaw (zax xc L) 0 L zhj (zdq F G p z A C D E) (yF zh6 X K)=zhS xc L F G p z A C D E (fun H=>K .ret (zcS H)) (fun F G p z A C D E=>X (zdq F G p z A C D E)) (fun F p z A=>K (.exit 2) (zpj F p z A)):=by kernel_rfl
def zgl{β:Type}(xc:zy)(L:Nat)(z:Bool)(p:Bool→Ob β):Ob β:=p z
theorem ztx{β:Type}(xc:zy)(L:Nat)(p:Bool)(X:St→Ob β)(K:KT β):(zg 2 (zg 1 (zu (ze zaw (zax xc L) 0 L zkj) (yF zdi X K)))) .ret (zcS p)=zgl xc L p (fun p=>K .ret (zcS p)):=by kernel_rfl
def zgK{β:Type}(xc:zy)(L:Nat)(D z:Ls)(A C:Int)(p:Ls→Ls→Int→Int→Ob β):Ob β:=lt (QG .i64 ((C:Int)+(1:Int))) fun E=>p D z A E
theorem zt2{β:Type}(xc:zy)(L:Nat)(C p:Ls)(z A:Int)(X:St→Ob β)(K:KT β):(zg 2 (zg 1 (zu (ze zaw (zax xc L) 0 L zkj) (yF zdi X K)))) (.exit 2) (zpj C p z A)=zgK xc L C p z A (fun C p z A=>X (zc1 C p z A)):=by kernel_rfl
def ztf{β:Type}(xc:zy)(L:Nat)(z:Bool)(p:Bool→Ob β):Ob β:=p z
theorem zDd{β:Type}(xc:zy)(L:Nat)(p:Bool)(k:KK β):(zg 0 (zu (ze zaw (zax xc L) 0 L zsd) (yz 0 (CF.res cf_ref11_forward) k))) .ret (zcS p)=ztf xc L p (fun z=>k (V.sc (.bool z)) []):=by kernel_rfl
def zcK{β:Type}(xc:zy)(L:Nat)(p:Bool→Ob β)(z:Ls→Ls→Int→Int→Ob β):Nat→Ls→Int→Ls→Int→Int→Ls→Int→Int→Ob β
 | 0,_,_,_,_,_,_,_,_=>none
 | n+1,H,I,A,C,D,E,F,G=>zhS xc L H I A C D E F G p (fun H I A C D E F G=>zcK xc L p z n H I A C D E F G) z
theorem zkP{β:Type}(xc:zy)(L:Nat)(K:KT β):∀ (n:Nat) (C:Ls) (G:Int) (p:Ls) (z A:Int) (D:Ls) (E F:Int),xw (ze zaw (zax xc L) 0 L zhj) zh6 n (zdq C G p z A D E F) K=zcK xc L (fun H=>K .ret (zcS H)) (fun C p z A=>K (.exit 2) (zpj C p z A)) n C G p z A D E F:=by
 intro n; induction n <;> intros
 ·rfl
 ·exact (zvK ..).trans (by simp only [*]; rfl)
def ziS{β:Type}(xc:zy)(L:Nat)(D p:Ls)(z A:Int)(F:Ob β)(E:Bool→Ob β)(C:Ls→Ls→Int→Int→Ob β):Ob β:=zoQ xc L D p z A (fun D J p z A G H I=>zcK xc L (fun M=>zgl xc L M E) (fun D p z A=>zgK xc L D p z A C) L D J p z A G H I) F
theorem zF7{β:Type}(xc:zy)(L:Nat)(C p:Ls)(z A:Int)(X:St→Ob β)(K:KT β):ze zaw (zax xc L) 0 L zjl (zc1 C p z A) (yF zdi X K)=ziS xc L C p z A (K (.exit 0) (zj8)) (fun D=>K .ret (zcS D)) (fun C p z A=>X (zc1 C p z A)):=by
 refine (zIV xc L C p z A X K).trans ?_
 unfold ziS
 first
  | (simp only [zkP,ztx,zt2]; done)
  | (simp only [zkP]; rfl)
def zg5{β:Type}(xc:zy)(L:Nat)(z:Ob β)(p:Bool→Ob β):Nat→Ls→Ls→Int→Int→Ob β
 | 0,_,_,_,_=>none
 | n+1,E,A,C,D=>ziS xc L E A C D z p (fun E A C D=>zg5 xc L z p n E A C D)
theorem ztp{β:Type}(xc:zy)(L:Nat)(K:KT β):∀ (n:Nat) (C p:Ls) (z A:Int),xw (ze zaw (zax xc L) 0 L zjl) zdi n (zc1 C p z A) K=zg5 xc L (K (.exit 0) (zj8)) (fun D=>K .ret (zcS D)) n C p z A:=by
 intro n; induction n <;> intros
 ·rfl
 ·exact (zF7 ..).trans (by simp only [*]; rfl)
def zpB{β:Type}(xc:zy)(L:Nat)(E:List V)(z:Ls)(p:Bool→Ob β):Ob β:=zxe xc L E z (fun z A C D=>zg5 xc L (zu7 xc L p) (fun F=>ztf xc L F p) L z A C D)
theorem zPD{β:Type}(xc:zy)(L:Nat)(p:List V)(z:Ls)(k:KK β):yj zaw (zax xc L) L cf_ref11_forward [(V.agg p),(V.sl 32 z)] [] k=zpB xc L p z (fun p=>k (V.sc (.bool p)) []):=by
 refine (zPp xc L p z k).trans ?_
 unfold zpB
 first
  | (simp only [ztp,zEm,zDd]; done)
  | (simp only [ztp]; rfl)
abbrev zK:=∀ (β:Type),Nat→List V→Ls→(Bool→Ob β)→Ob β
def xe:zK:=fun β=>@zpB β xc
def zps(xe:zK)(L:Nat):Dk:=dA AG fun p=>dA (AL 32) fun z=>d0 fun β k=>xe β L p z (fun p=>k (V.sc (.bool p)) [])
theorem zPv(L:Nat):DK (zps xe L) (fun _=>yj zaw (zax xc L) L cf_ref11_forward):=zF zap fun p=>zF zcd fun z=>zP fun _ k=>zPD xc L p z k
def zEK:Hint:=⟨[(0,0),(1,0),(4,2),(7,2),(14,0),(14,5)],[],[none,some ((bl 14344 42),(bl 3573378710873 42)),none,some ((bl 0 42),(bl 3573378710865 42)),none,none,some ((bl 1849352 42),(bl 3573379235161 42)),none,some ((bl 14344 42),(bl 3573379235161 42)),none,none,some ((bl 119289992 42),(bl 4398046510553 42)),none,some ((bl 1849480 42),(bl 4398046510553 42)),none,none,some ((bl 4 42),(bl 3573378710869 42)),none],[],[],false,false,[]⟩
def cf_ref11_twice:CF:=cfD zEK 50
def zdQ:CC:=zE [1,1,0,1,0,0,1,1,0,0,1,1,0,0,1,1,0,0,1,0,1,0,0] cf_ref11_twice.body
def zeZ:CC:=zE [1,1,0,1,0,0,1,1,0,0,1,1,0,0,1,1,0,0,1,1] cf_ref11_twice.body
def zf8:CC:=zE [1,1,0,1,0,0,1,1,0,0,1,1,0,0,1,1,1] cf_ref11_twice.body
def zeD:CC:=zE [1,1,0,1,0,0,1,1,0,0,1,1,0,0] cf_ref11_twice.body
def zlE:CC:=zE [1,1,0,1,0,0,1,1,1] cf_ref11_twice.body
def zj1:CC:=zE [1,1,0,1,0,0] cf_ref11_twice.body
def zuz:CC:=zE [1,1,1] cf_ref11_twice.body
def zW:Nat→Sh:=zl [(11,(.sl 4)),(18,(.sl 35))]
def xW(L:Nat):CBC:=noC
def zd2:St→St:=zQ 0 (bl 14344 42) (bl 3573378710873 42)
def zbs:St→St:=zQ 0 (bl 1849352 42) (bl 3573379235161 42)
def zeg:St→St:=zQ 0 (bl 119289992 42) (bl 4398046510553 42)
def zdF(C p:Ls)(z A:Int):St:=⟨(jn 3 ((V.gs 33 C)::(jn 7 ((V.sl 4 p)::((Qe z)::((Qe A)::(jn 28 []))))))),(gn 42 [])⟩
def zbA(F p:Ls)(z A:Int)(C:Ls)(D E:Int):St:=⟨(jn 3 ((V.gs 33 F)::(jn 7 ((V.sl 4 p)::((Qe z)::((Qe A)::(jn 4 ((V.sl 35 C)::((Qe D)::((Qe E)::(jn 21 []))))))))))),(gn 42 [])⟩
def zl2:St:=⟨(jn 42 []),(gn 42 [])⟩
def zbT(I p:Ls)(z A:Int)(C:Ls)(D E:Int)(F:Ls)(G H:Int)(J:List V):St:=⟨(jn 3 ((V.gs 33 I)::(jn 3 ((V.ptr 7 0)::(jn 3 ((V.sl 4 p)::((Qe z)::((Qe A)::(jn 4 ((V.sl 35 C)::((Qe D)::((Qe E)::(jn 3 ((V.sl 33 F)::((Qe G)::((Qe H)::(jn 15 []))))))))))))))))),(gn 7 ((.live true J)::(gn 34 [])))⟩
def zlY(C p:Ls)(z A:Int):St:=⟨(jn 3 ((V.gs 33 C)::(jn 7 ((V.sl 4 p)::((Qe z)::((Qe A)::(jn 28 []))))))),(gn 42 [])⟩
def zbk(p:Bool):St:=⟨(jn 2 ((V.sc (.bool p))::(jn 39 []))),(gn 42 [])⟩
def zrO(F p:Ls)(z A:Int)(C:Ls)(D E:Int)(G:List V):St:=⟨(jn 3 ((V.gs 33 F)::(jn 3 ((V.ptr 7 0)::(jn 3 ((V.sl 4 p)::((Qe z)::((Qe A)::(jn 4 ((V.sl 35 C)::((Qe D)::((Qe E)::(jn 21 []))))))))))))),(gn 7 ((.live true G)::(gn 34 [])))⟩
abbrev zhZ(β:Type):Type:=Ls→Ls→Int→Int→Ls→Int→Int→Ob β
abbrev zhQ(β:Type):Type:=Ls→Ls→Int→Int→Ls→Int→Int→Ls→Int→Int→List V→Ob β
abbrev zxt(β:Type):Type:=Ls→Ls→Int→Int→Ls→Int→Int→List V→Ob β
def zA0{β:Type}(L:Nat)(A:List V)(p:Ls→Ls→Int→Int→Ob β):Ob β:=cLd 4 A 68 fun z=>p ([]:Ls) z ((XK z:Nat):Int) (0:Int)
theorem zS9{β:Type}(L:Nat)(p:List V)(k:KK β):yj zW (xW L) L cf_ref11_twice [(V.agg p)] [] k=zA0 L p (fun D z A C=>xw (ze zW (xW L) 0 L zj1) zd2 L (zdF D z A C) (zg 0 (zu (ze zW (xW L) 0 L zuz) (yz 0 (CF.res cf_ref11_twice) k)))):=by kernel_rfl
def zqe{β:Type}(L:Nat)(G A:Ls)(C z:Int)(p:zhZ β)(D:Ob β):Ob β:=ifb (decide (z<C)) (idx A z fun E=>chk ((XK (XL 4 E))=4∧0+4≤4) (lt (zq [(Qc (0:Int)),(V.gs 35 ([]:Ls)),(V.gs 2 ([]:Ls)),(Qc (0:Int))] 0 (XL 4 E)) fun H=>cLd 35 H 1 fun F=>p G A C z F ((XK F:Nat):Int) (0:Int))) (D)
theorem zKJ{β:Type}(L:Nat)(C p:Ls)(z A:Int)(X:St→Ob β)(K:KT β):ze zW (xW L) 0 L zj1 (zdF C p z A) (yF zd2 X K)=zqe L C p z A (fun C p z A D E F=>xw (ze zW (xW L) 0 L zeD) zbs L (zbA C p z A D E F) (zg 2 (zg 1 (zu (ze zW (xW L) 0 L zlE) (yF zd2 X K))))) (K (.exit 0) (zl2)):=by kernel_rfl
def znt{β:Type}(L:Nat)(p:Bool→Ob β):Ob β:=p false
theorem zGi{β:Type}(L:Nat)(k:KK β):(zg 0 (zu (ze zW (xW L) 0 L zuz) (yz 0 (CF.res cf_ref11_twice) k))) (.exit 0) (zl2)=znt L (fun p=>k (V.sc (.bool p)) []):=by kernel_rfl
def zin{β:Type}(L:Nat)(A C:Ls)(D E:Int)(F:Ls)(G z:Int)(p:zhQ β)(H:Ls→Ls→Int→Int→Ob β):Ob β:=ifb (decide (z<G)) (idx F z fun I=>chk ((XK (XL 35 I))=35∧0+35≤35) (lt (zq (We 32 (Qa (0:Int))++[(Qc (0:Int)),(Qc (0:Int)),(V.gs 1 ([]:Ls))]) 0 (XL 35 I)) fun J=>p A C D E F G z A ((XK A:Nat):Int) (0:Int) J)) (H A C D E)
theorem zxF{β:Type}(L:Nat)(F p:Ls)(z A:Int)(C:Ls)(D E:Int)(X:St→Ob β)(K:KT β):ze zW (xW L) 0 L zeD (zbA F p z A C D E) (yF zbs X K)=zin L F p z A C D E (fun F p z A C D E G H I J=>xw (ze zW (xW L) 0 L zdQ) zeg L (zbT F p z A C D E G H I J) (zg 4 (zu (ze zW (xW L) 0 L zeZ) (zg 3 (zu (ze zW (xW L) 0 L zf8) (yF zbs X K)))))) (fun F p z A=>K (.exit 2) (zlY F p z A)):=by kernel_rfl
def zec{β:Type}(L:Nat)(D z:Ls)(A C:Int)(p:Ls→Ls→Int→Int→Ob β):Ob β:=lt (QG .i64 ((C:Int)+(1:Int))) fun E=>p D z A E
theorem zvh{β:Type}(L:Nat)(C p:Ls)(z A:Int)(X:St→Ob β)(K:KT β):(zg 2 (zg 1 (zu (ze zW (xW L) 0 L zlE) (yF zd2 X K)))) (.exit 2) (zlY C p z A)=zec L C p z A (fun C p z A=>X (zdF C p z A)):=by kernel_rfl
def zee{β:Type}(L:Nat)(O D:Ls)(E F:Int)(G:Ls)(H I:Int)(J:Ls)(M z:Int)(A:List V)(C:Bool→Ob β)(p:zhQ β)(N:zxt β):Ob β:=ifb (decide (z<M)) (idx J z fun P=>chk ((XK (XL 33 P))=33∧0+33≤33) (lt (zq (We 32 (Qa (0:Int))++[(Qc (0:Int))]) 0 (XL 33 P)) fun Q=>chk (0+33≤(XK Q)) (chk (0+33≤(XK A)) (eqC 33 (XL 33 Q) (XL 33 A) fun S=>ifb S (C true) (lt (QG .i64 ((z:Int)+(1:Int))) fun R=>p O D E F G H I J M R A))))) (N O D E F G H I A)
theorem zoE{β:Type}(L:Nat)(I p:Ls)(z A:Int)(C:Ls)(D E:Int)(F:Ls)(G H:Int)(J:List V)(X:St→Ob β)(K:KT β):ze zW (xW L) 0 L zdQ (zbT I p z A C D E F G H J) (yF zeg X K)=zee L I p z A C D E F G H J (fun M=>K .ret (zbk M)) (fun I p z A C D E F G H J=>X (zbT I p z A C D E F G H J)) (fun I p z A C D E J=>K (.exit 4) (zrO I p z A C D E J)):=by kernel_rfl
def zdg{β:Type}(L:Nat)(z:Bool)(p:Bool→Ob β):Ob β:=p z
theorem zm1{β:Type}(L:Nat)(p:Bool)(X:St→Ob β)(K:KT β):(zg 4 (zu (ze zW (xW L) 0 L zeZ) (zg 3 (zu (ze zW (xW L) 0 L zf8) (yF zbs X K))))) .ret (zbk p)=zdg L p (fun p=>K .ret (zbk p)):=by kernel_rfl
def zdA{β:Type}(L:Nat)(A C:Ls)(D E:Int)(F:Ls)(G H:Int)(z:List V)(p:zhZ β):Ob β:=chk (0+33≤(XK z)) (chk ((XK (XL 33 z))=33∧0+33≤33) (chk ((XK A+XK (xn 33 1 (zq (We 32 (Qa (0:Int))++[(Qc (0:Int))]) 0 (XL 33 z))))*36≤xo∧XK A+XK (xn 33 1 (zq (We 32 (Qa (0:Int))++[(Qc (0:Int))]) 0 (XL 33 z)))≤xo) (lt (A++(xn 33 1 (zq (We 32 (Qa (0:Int))++[(Qc (0:Int))]) 0 (XL 33 z)))) fun I=>lt (QG .i64 ((H:Int)+(1:Int))) fun J=>p I C D E F G J)))
theorem znu{β:Type}(L:Nat)(F p:Ls)(z A:Int)(C:Ls)(D E:Int)(G:List V)(X:St→Ob β)(K:KT β):(zg 4 (zu (ze zW (xW L) 0 L zeZ) (zg 3 (zu (ze zW (xW L) 0 L zf8) (yF zbs X K))))) (.exit 4) (zrO F p z A C D E G)=zdA L F p z A C D E G (fun F p z A C D E=>X (zbA F p z A C D E)):=by kernel_rfl
def zdL{β:Type}(L:Nat)(z:Bool)(p:Bool→Ob β):Ob β:=p z
theorem zun{β:Type}(L:Nat)(p:Bool)(X:St→Ob β)(K:KT β):(zg 2 (zg 1 (zu (ze zW (xW L) 0 L zlE) (yF zd2 X K)))) .ret (zbk p)=zdL L p (fun p=>K .ret (zbk p)):=by kernel_rfl
def zl8{β:Type}(L:Nat)(z:Bool)(p:Bool→Ob β):Ob β:=p z
theorem zEI{β:Type}(L:Nat)(p:Bool)(k:KK β):(zg 0 (zu (ze zW (xW L) 0 L zuz) (yz 0 (CF.res cf_ref11_twice) k))) .ret (zbk p)=zl8 L p (fun z=>k (V.sc (.bool z)) []):=by kernel_rfl
def zbl{β:Type}(L:Nat)(p:Bool→Ob β)(z:zxt β):Nat→Ls→Ls→Int→Int→Ls→Int→Int→Ls→Int→Int→List V→Ob β
 | 0,_,_,_,_,_,_,_,_,_,_,_=>none
 | n+1,M,A,C,D,E,F,G,H,I,J,N=>zee L M A C D E F G H I J N p (fun M A C D E F G H I J N=>zbl L p z n M A C D E F G H I J N) z
theorem zg2{β:Type}(L:Nat)(K:KT β):∀ (n:Nat) (F p:Ls) (z A:Int) (C:Ls) (D E:Int) (H:Ls) (I J:Int) (G:List V),xw (ze zW (xW L) 0 L zdQ) zeg n (zbT F p z A C D E H I J G) K=zbl L (fun M=>K .ret (zbk M)) (fun F p z A C D E G=>K (.exit 4) (zrO F p z A C D E G)) n F p z A C D E H I J G:=by
 intro n; induction n <;> intros
 ·rfl
 ·exact (zoE ..).trans (by simp only [*]; rfl)
def zeF{β:Type}(L:Nat)(G z:Ls)(A C:Int)(D:Ls)(E F:Int)(I:Ls→Ls→Int→Int→Ob β)(H:Bool→Ob β)(p:zhZ β):Ob β:=zin L G z A C D E F (fun G z A C D E F M N O J=>zbl L (fun P=>zdg L P H) (fun G z A C D E F J=>zdA L G z A C D E F J p) L G z A C D E F M N O J) I
theorem zwf{β:Type}(L:Nat)(F p:Ls)(z A:Int)(C:Ls)(D E:Int)(X:St→Ob β)(K:KT β):ze zW (xW L) 0 L zeD (zbA F p z A C D E) (yF zbs X K)=zeF L F p z A C D E (fun F p z A=>K (.exit 2) (zlY F p z A)) (fun G=>K .ret (zbk G)) (fun F p z A C D E=>X (zbA F p z A C D E)):=by
 refine (zxF L F p z A C D E X K).trans ?_
 unfold zeF
 first
  | (simp only [zg2,zm1,znu]; done)
  | (simp only [zg2]; rfl)
def zcV{β:Type}(L:Nat)(z:Ls→Ls→Int→Int→Ob β)(p:Bool→Ob β):Nat→Ls→Ls→Int→Int→Ls→Int→Int→Ob β
 | 0,_,_,_,_,_,_,_=>none
 | n+1,H,A,C,D,E,F,G=>zeF L H A C D E F G z p (fun H A C D E F G=>zcV L z p n H A C D E F G)
theorem zlL{β:Type}(L:Nat)(K:KT β):∀ (n:Nat) (C p:Ls) (z A:Int) (D:Ls) (E F:Int),xw (ze zW (xW L) 0 L zeD) zbs n (zbA C p z A D E F) K=zcV L (fun C p z A=>K (.exit 2) (zlY C p z A)) (fun G=>K .ret (zbk G)) n C p z A D E F:=by
 intro n; induction n <;> intros
 ·rfl
 ·exact (zwf ..).trans (by simp only [*]; rfl)
def zj7{β:Type}(L:Nat)(D p:Ls)(z A:Int)(F:Ob β)(C:Ls→Ls→Int→Int→Ob β)(E:Bool→Ob β):Ob β:=zqe L D p z A (fun D p z A G H I=>zcV L (fun D p z A=>zec L D p z A C) (fun J=>zdL L J E) L D p z A G H I) F
theorem zIE{β:Type}(L:Nat)(C p:Ls)(z A:Int)(X:St→Ob β)(K:KT β):ze zW (xW L) 0 L zj1 (zdF C p z A) (yF zd2 X K)=zj7 L C p z A (K (.exit 0) (zl2)) (fun C p z A=>X (zdF C p z A)) (fun D=>K .ret (zbk D)):=by
 refine (zKJ L C p z A X K).trans ?_
 unfold zj7
 first
  | (simp only [zlL,zvh,zun]; done)
  | (simp only [zlL]; rfl)
def zfp{β:Type}(L:Nat)(z:Ob β)(p:Bool→Ob β):Nat→Ls→Ls→Int→Int→Ob β
 | 0,_,_,_,_=>none
 | n+1,E,A,C,D=>zj7 L E A C D z (fun E A C D=>zfp L z p n E A C D) p
theorem zuQ{β:Type}(L:Nat)(K:KT β):∀ (n:Nat) (C p:Ls) (z A:Int),xw (ze zW (xW L) 0 L zj1) zd2 n (zdF C p z A) K=zfp L (K (.exit 0) (zl2)) (fun D=>K .ret (zbk D)) n C p z A:=by
 intro n; induction n <;> intros
 ·rfl
 ·exact (zIE ..).trans (by simp only [*]; rfl)
def ztW{β:Type}(L:Nat)(D:List V)(p:Bool→Ob β):Ob β:=zA0 L D (fun E z A C=>zfp L (znt L p) (fun F=>zl8 L F p) L E z A C)
theorem zSG{β:Type}(L:Nat)(p:List V)(k:KK β):yj zW (xW L) L cf_ref11_twice [(V.agg p)] [] k=ztW L p (fun p=>k (V.sc (.bool p)) []):=by
 refine (zS9 L p k).trans ?_
 unfold ztW
 first
  | (simp only [zuQ,zGi,zEI]; done)
  | (simp only [zuQ]; rfl)
abbrev yN:=∀ (β:Type),Nat→List V→(Bool→Ob β)→Ob β
def zi:yN:=fun β=>@ztW β
def ztF(zi:yN)(L:Nat):Dk:=dA AG fun p=>d0 fun β k=>zi β L p (fun p=>k (V.sc (.bool p)) [])
theorem zTr(L:Nat):DK (ztF zi L) (fun _=>yj zW (xW L) L cf_ref11_twice):=zF zap fun p=>zP fun _ k=>zSG L p k
end
end
end Go.Proofs.YtgmhijonllockaaGreatDoor
