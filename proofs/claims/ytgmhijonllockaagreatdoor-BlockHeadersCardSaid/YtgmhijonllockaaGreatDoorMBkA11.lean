/- Part 11 of the proof of BkA: an abstract machine over plain values, its soundness, and the functions of the program on plain values. -/
import Derived.Test.YtgmhijonllockaaGreatDoorMBkA10
namespace Go.Proofs.YtgmhijonllockaaGreatDoor
set_option maxRecDepth 100000
set_option linter.unusedVariables false
set_option linter.unusedSimpArgs false
open List renaming length->XK,take->XL,replicate->We,map->Xv
open IntKind renaming wrap->QG
open Option renaming getD->XP
section
noncomputable section
def zDt:Hint:=⟨[(4,3),(6,3),(13,3),(16,2),(17,5),(25,2),(28,2)],[],[none,some ((bl 14680073 94),(bl 19807040628566084346308848139 94)),none,some ((bl 9 94),(bl 19807040628566084346308848139 94)),none,none,some ((bl 4 94),(bl 19807040628566084346308848143 94)),none,some ((bl 15393162788873 94),(bl 19807040621647429470837377435 94)),none,some ((bl 1 94),(bl 19807040621647429470837377435 94)),none,none,some ((bl 3956042836738569 94),(bl 19807040621648555370744220571 94)),none,some ((bl 15393162788873 94),(bl 19807040621648555370744220571 94)),none,none,some ((bl 4 94),(bl 19807040621647429470837377439 94)),none,some ((bl 33056565380087516528640 94),(bl 19805831702746469769210620827 94)),none,some ((bl 0 94),(bl 19805831702746469769210620827 94)),none,none,some ((bl 4264296934031289628000256 94),(bl 19807040628566084398385327003 94)),none,some ((bl 33056565380087516528640 94),(bl 19807040628566084398385327003 94)),none,none,some ((bl 4 94),(bl 19805831702746469769210620831 94)),none],[],[],false,false,[]⟩
def cf_block_coins:CF:=cfD zDt 45
def zUx:CC:=xz [1,1,1,1,1,0,1,0,0,1,1,0,0,1,1,0,0] cf_block_coins.body
def zYc:CC:=xz [1,1,1,0,1,0,0,1,1,0,0,1,1,0,0] cf_block_coins.body
def z0B:CC:=xz [1,1,1,1,1,0,1,0,0,1,1,1] cf_block_coins.body
def z3b:CC:=xz [1,1,1,0,1,0,0,1,1,1] cf_block_coins.body
def z3g:CC:=xz [1,1,1,1,1,0,1,0,0] cf_block_coins.body
def z5J:CC:=xz [1,1,1,0,1,0,0] cf_block_coins.body
def z52:CC:=xz [1,1,0,1,0,0] cf_block_coins.body
def z55:CC:=xz [1,1,1,1,1,1] cf_block_coins.body
def z7T:CC:=xz [1,1,1,1] cf_block_coins.body
def z8e:CC:=xz [1,1,1] cf_block_coins.body
def yao:Nat→Sh:=zj [(33,(.int .i64)),(49,(.sl 35)),(60,(.int .i64)),(79,(.sl 35)),(88,.bool)]
def yaP(xN:zbo)(L:Nat):CBC:=(xe 548 (yaI xN L) noC)
def z6S:St→St:=yM 0 (bl 14680073 94) (bl 19807040628566084346308848139 94)
def z57:St→St:=yM 0 (bl 15393162788873 94) (bl 19807040621647429470837377435 94)
def zY5:St→St:=yM 0 (bl 3956042836738569 94) (bl 19807040621648555370744220571 94)
def z3X:St→St:=yM 0 (bl 33056565380087516528640 94) (bl 19805831702746469769210620827 94)
def zWU:St→St:=yM 0 (bl 4264296934031289628000256 94) (bl 19807040628566084398385327003 94)
def z4d(E z:Ls)(A C:Int)(D:Lm):St:=⟨((V.sl 4 E)::(jn 2 ((V.mp 20)::(jn 17 ((V.sl 4 z)::((Qe A)::((Qe C)::(jn 70 [])))))))),(gn 20 ((.mp D)::(gn 73 [])))⟩
def z6E(A:Int)(z:Lm):St:=⟨(jn 2 ((Qe A)::(jn 91 []))),(gn 20 ((.mp z)::(gn 73 [])))⟩
def z70(A:Ls)(z:Lm):St:=⟨((V.sl 4 A)::(jn 2 ((V.mp 20)::(jn 90 [])))),(gn 20 ((.mp z)::(gn 73 [])))⟩
def z3e(E z:Ls)(A C:Int)(D:Lm):St:=⟨((V.sl 4 E)::(jn 2 ((V.mp 20)::(jn 37 ((V.sl 4 z)::((Qe A)::((Qe C)::(jn 50 [])))))))),(gn 20 ((.mp D)::(gn 73 [])))⟩
def zV0(H:Ls)(I:Int)(z:Ls)(A C:Int)(D:Ls)(E F:Int)(G:Lm):St:=⟨((V.sl 4 H)::(jn 2 ((V.mp 20)::(jn 5 ((Qe I)::(jn 31 ((V.sl 4 z)::((Qe A)::((Qe C)::(jn 5 ((V.sl 35 D)::((Qe E)::((Qe F)::(jn 42 [])))))))))))))),(gn 20 ((.mp G)::(gn 73 [])))⟩
def z7S(A:Ls)(z:Lm):St:=⟨((V.sl 4 A)::(jn 93 [])),(gn 20 ((.mp z)::(gn 73 [])))⟩
def z14(z:Ls)(A C:Int)(D E:Lm):St:=⟨(jn 15 ((V.mp 71)::(jn 56 ((V.sl 4 z)::((Qe A)::((Qe C)::(jn 19 []))))))),(gn 20 ((.mp D)::(gn 50 ((.mp E)::(gn 22 [])))))⟩
def z7Y(E z:Ls)(A C:Int)(D:Lm):St:=⟨((V.sl 4 E)::(jn 2 ((V.mp 20)::(jn 37 ((V.sl 4 z)::((Qe A)::((Qe C)::(jn 50 [])))))))),(gn 20 ((.mp D)::(gn 73 [])))⟩
def zS8(z:Ls)(A C:Int)(D:Ls)(E F:Int)(G H:Lm):St:=⟨(jn 15 ((V.mp 71)::(jn 56 ((V.sl 4 z)::((Qe A)::((Qe C)::(jn 4 ((V.sl 35 D)::((Qe E)::((Qe F)::(jn 12 []))))))))))),(gn 20 ((.mp G)::(gn 50 ((.mp H)::(gn 22 [])))))⟩
def z7X(z A:Lm):St:=⟨(jn 94 []),(gn 20 ((.mp z)::(gn 50 ((.mp A)::(gn 22 [])))))⟩
def z5p(C:Int)(z A:Lm):St:=⟨(jn 2 ((Qe C)::(jn 91 []))),(gn 20 ((.mp z)::(gn 50 ((.mp A)::(gn 22 [])))))⟩
def z7Z(z:Ls)(A C:Int)(D E:Lm):St:=⟨(jn 15 ((V.mp 71)::(jn 56 ((V.sl 4 z)::((Qe A)::((Qe C)::(jn 19 []))))))),(gn 20 ((.mp D)::(gn 50 ((.mp E)::(gn 22 [])))))⟩
abbrev zwW(β:Type):Type:=Ls→Ls→Int→Int→Lm→Ob β
abbrev zmy(β:Type):Type:=Ls→Ls→Int→Int→Lm→Ob β
abbrev zlt(β:Type):Type:=Ls→Int→Ls→Int→Int→Ls→Int→Int→Lm→Ob β
abbrev zkf(β:Type):Type:=Ls→Int→Int→Lm→Lm→Ob β
abbrev zGo(β:Type):Type:=Ls→Ls→Int→Int→Lm→Ob β
abbrev zj8(β:Type):Type:=Ls→Int→Int→Ls→Int→Int→Lm→Lm→Ob β
abbrev zFQ(β:Type):Type:=Ls→Int→Int→Lm→Lm→Ob β
def zZ4{β:Type}(xN:zbo)(L:Nat)(A:Ls)(z:zwW β):Ob β:=z A A ((XK A:Nat):Int) (0:Int) ([]:Lm)
def zPo{β:Type}(xN:zbo)(L:Nat)(I F:Ls)(G A:Int)(C:Lm)(D:Int→Lm→Ob β)(z:zwW β)(H:Ls→Lm→Ob β):Ob β:=ifb (decide (A<G)) (idx F A fun J=>chk ((XK (XL 4 J))=4∧0+4≤4) (lt (zk [(Qc (0:Int)),(V.gs 35 ([]:Ls)),(V.gs 2 ([]:Ls)),(Qc (0:Int))] 0 (XL 4 J)) fun M=>chk (0+4≤(XK M)) (xN β L (Xv V.dem (XL 4 M)) (fun N=>chk ((XK N)=32∧0+32≤32) (lt (zk (We 32 (Qa (0:Int))) 0 N) fun E=>chk (0+32≤(XK E)) (mAt 34 (V.agg (XL 32 E)) C fun O=>aI .i64 (XP O (Qe (0:Int))) fun R=>ifb (Option.isSome O) (D (91:Int) C) (chk (0+32≤(XK E)) (z03 34 (V.agg (XL 32 E)) (Qe A) C fun P=>lt (QG .i64 ((A:Int)+(1:Int))) fun Q=>z I F G Q P)))))))) (H I C)
def zK6{β:Type}(xN:zbo)(L:Nat)(A:Int)(C:Lm)(z:Int→Ob β):Ob β:=z A
def zMD{β:Type}(xN:zbo)(L:Nat)(A:Ls)(C:Lm)(z:zmy β):Ob β:=z A A ((XK A:Nat):Int) (0:Int) C
def zN6{β:Type}(xN:zbo)(L:Nat)(H C:Ls)(D A:Int)(E:Lm)(z:zlt β)(G:Ls→Lm→Ob β):Ob β:=ifb (decide (A<D)) (idx C A fun I=>chk ((XK (XL 4 I))=4∧0+4≤4) (lt (zk [(Qc (0:Int)),(V.gs 35 ([]:Ls)),(V.gs 2 ([]:Ls)),(Qc (0:Int))] 0 (XL 4 I)) fun J=>cLd 35 J 1 fun F=>z H A C D A F ((XK F:Nat):Int) (0:Int) E)) (G H E)
def zJR{β:Type}(xN:zbo)(L:Nat)(A:Ls)(C:Lm)(z:zkf β):Ob β:=z A ((XK A:Nat):Int) (0:Int) C ([]:Lm)
def zzv{β:Type}(xN:zbo)(L:Nat)(O:Ls)(P:Int)(D:Ls)(E F:Int)(G:Ls)(H C:Int)(A:Lm)(I:Int→Lm→Ob β)(z:zlt β)(Q:zGo β):Ob β:=ifb (decide (C<H)) (idx G C fun J=>chk ((XK (XL 35 J))=35∧0+35≤35) (lt (zk (We 32 (Qa (0:Int))++[(Qc (0:Int)),(Qc (0:Int)),(V.gs 1 ([]:Ls))]) 0 (XL 35 J)) fun M=>chk (0+32≤(XK M)) (mAt 34 (V.agg (XL 32 M)) A fun N=>aI .i64 (XP N (Qe (0:Int))) fun R=>ifb (Option.isSome N) (ifb (decide (R≥P)) (I (101:Int) A) (lt (QG .i64 ((C:Int)+(1:Int))) fun S=>z O P D E F G H S A)) (lt (QG .i64 ((C:Int)+(1:Int))) fun T=>z O P D E F G H T A)))) (Q O D E F A)
def zJN{β:Type}(xN:zbo)(L:Nat)(C:Ls)(D A:Int)(E F:Lm)(z:zj8 β)(I:Lm→Lm→Ob β):Ob β:=ifb (decide (A<D)) (idx C A fun G=>chk ((XK (XL 4 G))=4∧0+4≤4) (lt (zk [(Qc (0:Int)),(V.gs 35 ([]:Ls)),(V.gs 2 ([]:Ls)),(Qc (0:Int))] 0 (XL 4 G)) fun J=>cLd 35 J 1 fun H=>z C D A H ((XK H:Nat):Int) (0:Int) E F)) (I E F)
def zt3{β:Type}(xN:zbo)(L:Nat)(C:Int)(A:Lm)(z:Int→Lm→Ob β):Ob β:=z C A
def zwv{β:Type}(xN:zbo)(L:Nat)(G A:Ls)(C D:Int)(E:Lm)(z:zmy β):Ob β:=lt (QG .i64 ((D:Int)+(1:Int))) fun F=>z G A C F E
def zFz{β:Type}(xN:zbo)(L:Nat)(A C:Lm)(z:Int→Ob β):Ob β:=z (0:Int)
def zww{β:Type}(xN:zbo)(L:Nat)(G:Ls)(H I:Int)(J:Ls)(M E:Int)(F A:Lm)(D:Int→Lm→Lm→Ob β)(z:zj8 β)(O:zFQ β):Ob β:=ifb (decide (E<M)) (idx J E fun N=>chk ((XK (XL 35 N))=35∧0+35≤35) (lt (zk (We 32 (Qa (0:Int))++[(Qc (0:Int)),(Qc (0:Int)),(V.gs 1 ([]:Ls))]) 0 (XL 35 N)) fun C=>chk (0+33≤(XK C)) (mAt 35 (V.agg (XL 33 C)) A fun P=>aB (XP P (V.sc (.bool false))) fun Q=>ifb Q (D (91:Int) F A) (chk (0+33≤(XK C)) (z03 35 (V.agg (XL 33 C)) (V.sc (.bool true)) A fun R=>lt (QG .i64 ((E:Int)+(1:Int))) fun S=>z G H I J M S F R))))) (O G H I F A)
def zIb{β:Type}(xN:zbo)(L:Nat)(A:Int)(C:Lm)(z:Int→Ob β):Ob β:=z A
def zqS{β:Type}(xN:zbo)(L:Nat)(D:Int)(A C:Lm)(z:Int→Lm→Lm→Ob β):Ob β:=z D A C
def zt0{β:Type}(xN:zbo)(L:Nat)(A:Ls)(C D:Int)(E F:Lm)(z:zkf β):Ob β:=lt (QG .i64 ((D:Int)+(1:Int))) fun G=>z A C G E F
def zzO{β:Type}(xN:zbo)(L:Nat)(A:Int)(C D:Lm)(z:Int→Ob β):Ob β:=z A
def zyA{β:Type}(xN:zbo)(L:Nat)(z:Int→Lm→Ob β)(A:Ls→Lm→Ob β):Nat→Ls→Ls→Int→Int→Lm→Ob β
 | 0,_,_,_,_,_=>none
 | n+1,G,C,D,E,F=>zPo xN L G C D E F z (fun G C D E F=>zyA xN L z A n G C D E F) A
def zlQ{β:Type}(xN:zbo)(L:Nat)(z:Int→Lm→Ob β)(A:zGo β):Nat→Ls→Int→Ls→Int→Int→Ls→Int→Int→Lm→Ob β
 | 0,_,_,_,_,_,_,_,_,_=>none
 | n+1,J,M,C,D,E,F,G,H,I=>zzv xN L J M C D E F G H I z (fun J M C D E F G H I=>zlQ xN L z A n J M C D E F G H I) A
def zMN{β:Type}(xN:zbo)(L:Nat)(F A:Ls)(C D:Int)(z:Lm)(H:Ls→Lm→Ob β)(G:Int→Lm→Ob β)(E:zmy β):Ob β:=zN6 xN L F A C D z (fun F N A C D I J M z=>zlQ xN L (fun O z=>zt3 xN L O z G) (fun F A C D z=>zwv xN L F A C D z E) L F N A C D I J M z) H
def zwE{β:Type}(xN:zbo)(L:Nat)(A:Ls→Lm→Ob β)(z:Int→Lm→Ob β):Nat→Ls→Ls→Int→Int→Lm→Ob β
 | 0,_,_,_,_,_=>none
 | n+1,G,C,D,E,F=>zMN xN L G C D E F A z (fun G C D E F=>zwE xN L A z n G C D E F)
def zkG{β:Type}(xN:zbo)(L:Nat)(z:Int→Lm→Lm→Ob β)(A:zFQ β):Nat→Ls→Int→Int→Ls→Int→Int→Lm→Lm→Ob β
 | 0,_,_,_,_,_,_,_,_=>none
 | n+1,C,D,E,F,G,H,I,J=>zww xN L C D E F G H I J z (fun C D E F G H I J=>zkG xN L z A n C D E F G H I J) A
def zIG{β:Type}(xN:zbo)(L:Nat)(D:Ls)(E F:Int)(z A:Lm)(H:Lm→Lm→Ob β)(G:Int→Lm→Lm→Ob β)(C:zkf β):Ob β:=zJN xN L D E F z A (fun D E F I J M z A=>zkG xN L (fun N z A=>zqS xN L N z A G) (fun D E F z A=>zt0 xN L D E F z A C) L D E F I J M z A) H
def ztn{β:Type}(xN:zbo)(L:Nat)(A:Lm→Lm→Ob β)(z:Int→Lm→Lm→Ob β):Nat→Ls→Int→Int→Lm→Lm→Ob β
 | 0,_,_,_,_,_=>none
 | n+1,C,D,E,F,G=>zIG xN L C D E F G A z (fun C D E F G=>ztn xN L A z n C D E F G)
def zIH{β:Type}(xN:zbo)(L:Nat)(G:Ls)(z:Lm)(C:Int→Ob β):Ob β:=zJR xN L G z (fun D E F z A=>ztn xN L (fun z A=>zFz xN L z A C) (fun H z A=>zzO xN L H z A C) L D E F z A)
def zKM{β:Type}(xN:zbo)(L:Nat)(C:Ls)(z:Lm)(A:Int→Ob β):Ob β:=zMD xN L C z (fun C D E F z=>zwE xN L (fun C z=>zIH xN L C z A) (fun G z=>zIb xN L G z A) L C D E F z)
def zZT{β:Type}(xN:zbo)(L:Nat)(C:Ls)(A:Int→Ob β):Ob β:=zZ4 xN L C (fun C D E F z=>zyA xN L (fun G z=>zK6 xN L G z A) (fun C z=>zKM xN L C z A) L C D E F z)
abbrev zbO:=∀ (β:Type),Nat→Ls→(Int→Ob β)→Ob β
def zV:zbO:=fun β=>@zZT β xN
def zZR(zV:zbO)(L:Nat):Dk:=dA (AL 4) fun z=>d0 fun β k=>zV β L z (fun z=>k (Qe z) [])
def zQc:Hint:=⟨[(0,0)],[],[none],[],[],false,false,[]⟩
def zLS:CF:=cfD zQc 40
def zLM:Nat→Sh:=zj []
def zMw(zaJ:zkl)(L:Nat):CBC:=(xe 583 (zyu zaJ L) noC)
def zO0{β:Type}(zaJ:zkl)(L:Nat)(A:List V)(z:List V→Ob β):Ob β:=chk (0+4≤(XK A)) (zaJ β L (Xv V.dem (XL 4 A)) true (fun C=>chk ((XK C)=32∧0+32≤32) (lt (zk (We 32 (Qa (0:Int))) 0 C) fun D=>chk (0=0∧(XK D)=32∧32≠0) (z D))))
theorem z2Y{β:Type}(zaJ:zkl)(L:Nat)(z:List V)(k:KK β):zh zLM (zMw zaJ L) L zLS [(V.agg z)] [] k=zO0 zaJ L z (fun z=>k (V.agg z) []):=by kernel_rfl
abbrev zeT:=∀ (β:Type),Nat→List V→(List V→Ob β)→Ob β
def xT:zeT:=fun β=>@zO0 β zaJ
def zOz(xT:zeT)(L:Nat):Dk:=dA AG fun z=>d0 fun β k=>xT β L z (fun z=>k (V.agg z) [])
theorem z0M(L:Nat):DK (zOz xT L) (fun _=>zh zLM (zMw zaJ L) L zLS):=xv zak fun z=>yK fun _ k=>z2Y zaJ L z k
def zDz:Hint:=⟨[(1,1),(2,0),(2,3),(3,0),(3,3)],[],[none],[],[],false,false,[]⟩
def zxF:CF:=cfD zDz 128
def zxt:Nat→Sh:=zj []
def zxB(zam:zlU)(L:Nat):CBC:=(xe 458 (zyE zam L) noC)
def zAw{β:Type}(zam:zlU)(L:Nat)(z A:List V)(C:List V→Ob β):Ob β:=chk (0+32*1≤(XK z)) (chk ((XK (yl 1 1 [(Qa (1:Int))])+XK (yl 1 32 z))*1≤xm∧XK (yl 1 1 [(Qa (1:Int))])+XK (yl 1 32 z)≤xm) (lt ((yl 1 1 [(Qa (1:Int))])++(yl 1 32 z)) fun D=>chk (0+32*1≤(XK A)) (chk ((XK D+XK (yl 1 32 A))*1≤xm∧XK D+XK (yl 1 32 A)≤xm) (lt (D++(yl 1 32 A)) fun G=>zam β L G (fun E=>chk ((XK E)=32∧0+32≤32) (lt (zk (We 32 (Qa (0:Int))) 0 E) fun F=>chk (0=0∧(XK F)=32∧32≠0) (C F)))))))
theorem zSQ{β:Type}(zam:zlU)(L:Nat)(z A:List V)(k:KK β):zh zxt (zxB zam L) L zxF [(V.agg z),(V.agg A)] [] k=zAw zam L z A (fun z=>k (V.agg z) []):=by kernel_rfl
abbrev zat:=∀ (β:Type),Nat→List V→List V→(List V→Ob β)→Ob β
def yp:zat:=fun β=>@zAw β zam
def zzM(yp:zat)(L:Nat):Dk:=dA AG fun z=>dA AG fun A=>d0 fun β k=>yp β L z A (fun z=>k (V.agg z) [])
theorem zTK(L:Nat):DK (zzM yp L) (fun _=>zh zxt (zxB zam L) L zxF):=xv zak fun z=>xv zak fun A=>yK fun _ k=>zSQ zam L z A k
def zzg:Hint:=⟨[(0,0),(1,2),(3,0),(8,0),(8,13),(9,0),(9,7),(10,0),(10,4),(12,0),(12,1)],[],[none,some ((bl 9 48),(bl 225369817865679 48)),none,some ((bl 8 48),(bl 225369817865678 48)),none,none,some ((bl 57 48),(bl 278146375999487 48)),none,some ((bl 24 48),(bl 278146375999455 48)),none,none,none],[],[],false,false,[]⟩
def cf_merkle_levels:CF:=cfD zzg 82
def zg9:CC:=xz [1,1,0,0,0,1,0,1,0,1,0,0] cf_merkle_levels.body
def zoJ:CC:=xz [1,1,0,0,0,1,0,1,1] cf_merkle_levels.body
def zh1:CC:=xz [1,1,0,0,0] cf_merkle_levels.body
def zzt:CC:=xz [1,1,1] cf_merkle_levels.body
def zaG:Nat→Sh:=zj []
def zaH(yp:zat)(L:Nat):CBC:=(xe 617 (zzM yp L) noC)
def zeo:St→St:=yM 0 (bl 9 48) (bl 225369817865679 48)
def zhz:St→St:=yM 0 (bl 57 48) (bl 278146375999487 48)
def zcU(z A:Ls):St:=⟨((V.sl 32 z)::(jn 2 ((V.gs 1 A)::(jn 44 [])))),(gn 48 [])⟩
def zdw(z A C:Ls)(D:Int):St:=⟨((V.sl 32 z)::(jn 2 ((V.gs 1 A)::((V.gs 32 C)::((Qe D)::(jn 42 [])))))),(gn 48 [])⟩
def zjd(z:Ls):St:=⟨(jn 3 ((V.gs 1 z)::(jn 44 []))),(gn 48 [])⟩
def znD(z A:Ls):St:=⟨(jn 3 ((V.gs 1 z)::((V.gs 32 A)::(jn 43 [])))),(gn 48 [])⟩
abbrev zlP(β:Type):Type:=Ls→Ls→Ls→Int→Ob β
def zv3{β:Type}(yp:zat)(L:Nat)(A:Ls)(z:Ls→Ls→Ob β):Ob β:=z A (yl 1 1 [(V.sl 32 A)])
theorem zPL{β:Type}(yp:zat)(L:Nat)(z:Ls)(k:KK β):zh zaG (zaH yp L) L cf_merkle_levels [(V.sl 32 z)] [] k=zv3 yp L z (fun z A=>zx (ze zaG (zaH yp L) 0 L zh1) zeo L (zcU z A) (xi 0 (yv (ze zaG (zaH yp L) 0 L zzt) (zD 0 (CF.res cf_merkle_levels) k)))):=by kernel_rfl
def zi3{β:Type}(yp:zat)(L:Nat)(C D:Ls)(z:zlP β)(A:Ls→Ob β):Ob β:=ifb (decide (((XK C:Nat):Int)>(1:Int))) (z C D ([]:Ls) (0:Int)) (A D)
theorem zIy{β:Type}(yp:zat)(L:Nat)(A z:Ls)(X:St→Ob β)(K:KT β):ze zaG (zaH yp L) 0 L zh1 (zcU A z) (yH zeo X K)=zi3 yp L A z (fun A z C D=>zx (ze zaG (zaH yp L) 0 L zg9) zhz L (zdw A z C D) (xi 2 (yv (ze zaG (zaH yp L) 0 L zoJ) (xi 1 (yH zeo X K))))) (fun z=>K (.exit 0) (zjd z)):=by kernel_rfl
def zll{β:Type}(yp:zat)(L:Nat)(A:Ls)(z:Ls→Ob β):Ob β:=z A
theorem zEP{β:Type}(yp:zat)(L:Nat)(z:Ls)(k:KK β):(xi 0 (yv (ze zaG (zaH yp L) 0 L zzt) (zD 0 (CF.res cf_merkle_levels) k))) (.exit 0) (zjd z)=zll yp L z (fun A=>k (V.gs 1 A) []):=by kernel_rfl
def zht{β:Type}(yp:zat)(L:Nat)(A G C:Ls)(D:Int)(z:zlP β)(H:Ls→Ls→Ob β):Ob β:=ifb (decide (D<((XK A:Nat):Int))) (lt (QG .i64 ((D:Int)+(1:Int))) fun I=>ifb (decide (I<((XK A:Nat):Int))) (idx A D fun J=>lt (QG .i64 ((D:Int)+(1:Int))) fun M=>idx A M fun N=>yp β L (XL 32 J) (XL 32 N) (fun E=>chk ((XK E)=32∧0+32≤32) (chk ((XK C+XK (yl 32 1 (zk (We 32 (Qa (0:Int))) 0 E)))*32≤xm∧XK C+XK (yl 32 1 (zk (We 32 (Qa (0:Int))) 0 E))≤xm) (lt (C++(yl 32 1 (zk (We 32 (Qa (0:Int))) 0 E))) fun O=>lt (QG .i64 ((D:Int)+(2:Int))) fun P=>z A G O P)))) (idx A D fun F=>chk ((XK (XL 32 F))=32∧0+32≤32) (chk ((XK C+XK (yl 32 1 (zk (We 32 (Qa (0:Int))) 0 (XL 32 F))))*32≤xm∧XK C+XK (yl 32 1 (zk (We 32 (Qa (0:Int))) 0 (XL 32 F)))≤xm) (lt (C++(yl 32 1 (zk (We 32 (Qa (0:Int))) 0 (XL 32 F)))) fun Q=>lt (QG .i64 ((D:Int)+(2:Int))) fun R=>z A G Q R)))) (H G C)
theorem zwt{β:Type}(yp:zat)(L:Nat)(C z A:Ls)(D:Int)(X:St→Ob β)(K:KT β):ze zaG (zaH yp L) 0 L zg9 (zdw C z A D) (yH zhz X K)=zht yp L C z A D (fun C z A D=>X (zdw C z A D)) (fun z A=>K (.exit 2) (znD z A)):=by kernel_rfl
def zd8{β:Type}(yp:zat)(L:Nat)(C A:Ls)(z:Ls→Ls→Ob β):Ob β:=chk ((XK C+XK (yl 1 1 [(V.sl 32 A)]))*24≤xm∧XK C+XK (yl 1 1 [(V.sl 32 A)])≤xm) (lt (C++(yl 1 1 [(V.sl 32 A)])) fun D=>z A D)
theorem ztY{β:Type}(yp:zat)(L:Nat)(z A:Ls)(X:St→Ob β)(K:KT β):(xi 2 (yv (ze zaG (zaH yp L) 0 L zoJ) (xi 1 (yH zeo X K)))) (.exit 2) (znD z A)=zd8 yp L z A (fun C z=>X (zcU C z)):=by kernel_rfl
def zcL{β:Type}(yp:zat)(L:Nat)(z:Ls→Ls→Ob β):Nat→Ls→Ls→Ls→Int→Ob β
 | 0,_,_,_,_=>none
 | n+1,A,C,D,E=>zht yp L A C D E (fun A C D E=>zcL yp L z n A C D E) z
theorem zkJ{β:Type}(yp:zat)(L:Nat)(K:KT β):∀ (n:Nat) (C z A:Ls) (D:Int),zx (ze zaG (zaH yp L) 0 L zg9) zhz n (zdw C z A D) K=zcL yp L (fun z A=>K (.exit 2) (znD z A)) n C z A D:=by
 intro n; induction n <;> intros
 ·rfl
 ·exact (zwt ..).trans (by simp only [*]; rfl)
def zfj{β:Type}(yp:zat)(L:Nat)(C A:Ls)(D:Ls→Ob β)(z:Ls→Ls→Ob β):Ob β:=zi3 yp L C A (fun C A E F=>zcL yp L (fun A E=>zd8 yp L A E z) L C A E F) D
theorem zFv{β:Type}(yp:zat)(L:Nat)(A z:Ls)(X:St→Ob β)(K:KT β):ze zaG (zaH yp L) 0 L zh1 (zcU A z) (yH zeo X K)=zfj yp L A z (fun z=>K (.exit 0) (zjd z)) (fun A z=>X (zcU A z)):=by
 refine (zIy yp L A z X K).trans ?_
 unfold zfj
 first
  | (simp only [zkJ,ztY]; done)
  | (simp only [zkJ]; rfl)
def zc6{β:Type}(yp:zat)(L:Nat)(z:Ls→Ob β):Nat→Ls→Ls→Ob β
 | 0,_,_=>none
 | n+1,A,C=>zfj yp L A C z (fun A C=>zc6 yp L z n A C)
theorem zrR{β:Type}(yp:zat)(L:Nat)(K:KT β):∀ (n:Nat) (A z:Ls),zx (ze zaG (zaH yp L) 0 L zh1) zeo n (zcU A z) K=zc6 yp L (fun z=>K (.exit 0) (zjd z)) n A z:=by
 intro n; induction n <;> intros
 ·rfl
 ·exact (zFv ..).trans (by simp only [*]; rfl)
def zoi{β:Type}(yp:zat)(L:Nat)(A:Ls)(z:Ls→Ob β):Ob β:=zv3 yp L A (fun A C=>zc6 yp L (fun C=>zll yp L C z) L A C)
theorem zOJ{β:Type}(yp:zat)(L:Nat)(z:Ls)(k:KK β):zh zaG (zaH yp L) L cf_merkle_levels [(V.sl 32 z)] [] k=zoi yp L z (fun z=>k (V.gs 1 z) []):=by
 refine (zPL yp L z k).trans ?_
 unfold zoi
 first
  | (simp only [zrR,zEP]; done)
  | (simp only [zrR]; rfl)
abbrev zjC:=∀ (β:Type),Nat→Ls→(Ls→Ob β)→Ob β
def zaI:zjC:=fun β=>@zoi β yp
def zuu(zaI:zjC)(L:Nat):Dk:=dA (AL 32) fun z=>d0 fun β k=>zaI β L z (fun z=>k (V.gs 1 z) [])
theorem zQA(L:Nat):DK (zuu zaI L) (fun _=>zh zaG (zaH yp L) L cf_merkle_levels):=xv zaZ fun z=>yK fun _ k=>zOJ yp L z k
def zEY:Hint:=⟨[],[],[none,none,none],[],[],false,false,[]⟩
def zxG:CF:=cfD zEY 41
def zx2:Nat→Sh:=zj [(20,(.sl 32))]
def zxJ(zaI:zjC)(L:Nat):CBC:=(xe 608 (zuu zaI L) noC)
def zzT{β:Type}(zaI:zjC)(L:Nat)(A:Ls)(z:List V→Ob β):Ob β:=ifb ((((XK A:Nat):Int):Int)==(0:Int)) (lt (We 32 (Qa (0:Int))) fun C=>chk (0=0∧(XK C)=32∧32≠0) (z C)) (ifb (decide (((XK A:Nat):Int)>(1024:Int))) (lt (We 32 (Qa (0:Int))) fun D=>chk (0=0∧(XK D)=32∧32≠0) (z D)) (zaI β L A (fun E=>lt (QG .i64 ((((XK E:Nat):Int):Int)-(1:Int))) fun H=>idx E H fun I=>cL 32 I 0 fun J=>idx J (0:Int) fun F=>chk ((XK (XL 32 F))=32∧0+32≤32) (lt (zk (We 32 (Qa (0:Int))) 0 (XL 32 F)) fun G=>chk (0=0∧(XK G)=32∧32≠0) (z G)))))
theorem zSX{β:Type}(zaI:zjC)(L:Nat)(z:Ls)(k:KK β):zh zx2 (zxJ zaI L) L zxG [(V.sl 32 z)] [] k=zzT zaI L z (fun z=>k (V.agg z) []):=by kernel_rfl
abbrev zb2:=∀ (β:Type),Nat→Ls→(List V→Ob β)→Ob β
def yF:zb2:=fun β=>@zzT β zaI
def zz4(yF:zb2)(L:Nat):Dk:=dA (AL 32) fun z=>d0 fun β k=>yF β L z (fun z=>k (V.agg z) [])
theorem zTu(L:Nat):DK (zz4 yF L) (fun _=>zh zx2 (zxJ zaI L) L zxG):=xv zaZ fun z=>yK fun _ k=>zSX zaI L z k
def zF2:Hint:=⟨[(1,0),(4,2),(5,0),(5,5)],[],[none,some ((bl 460 20),(bl 933855 20)),none,some ((bl 12 20),(bl 933855 20)),none,none],[],[],false,false,[]⟩
def cf_block_Root:CF:=cfD zF2 16
def zpJ:CC:=xz [1,1,0,1,0,0] cf_block_Root.body
def zHf:CC:=xz [1,1,1] cf_block_Root.body
def zeI:Nat→Sh:=zj []
def zeF(xT:zeT)(yF:zb2)(L:Nat):CBC:=(xe 597 (zz4 yF L) (xe 596 (zOz xT L) noC))
def zrl:St→St:=yM 0 (bl 460 20) (bl 933855 20)
def zh6(z A:Ls)(C D:Int)(E:List V):St:=⟨(jn 2 ((V.ptr 2 0)::((V.gs 32 z)::(jn 2 ((V.sl 4 A)::((Qe C)::((Qe D)::(jn 11 [])))))))),(gn 2 ((.live true E)::(gn 17 [])))⟩
def ztk(z:Ls)(A:List V):St:=⟨(jn 2 ((V.ptr 2 0)::((V.gs 32 z)::(jn 16 [])))),(gn 2 ((.live true A)::(gn 17 [])))⟩
abbrev zzF(β:Type):Type:=Ls→Ls→Int→Int→List V→Ob β
def zDK{β:Type}(xT:zeT)(yF:zb2)(L:Nat)(A:Ls)(z:zzF β):Ob β:=z ([]:Ls) A ((XK A:Nat):Int) (0:Int) (We 32 (Qa (0:Int)))
theorem zWH{β:Type}(xT:zeT)(yF:zb2)(L:Nat)(z:Ls)(k:KK β):zh zeI (zeF xT yF L) L cf_block_Root [(V.sl 4 z)] [] k=zDK xT yF L z (fun A C D E F=>zx (ze zeI (zeF xT yF L) 0 L zpJ) zrl L (zh6 A C D E F) (xi 0 (yv (ze zeI (zeF xT yF L) 0 L zHf) (zD 0 (CF.res cf_block_Root) k)))):=by kernel_rfl
def zq5{β:Type}(xT:zeT)(yF:zb2)(L:Nat)(A F:Ls)(G D:Int)(H:List V)(z:zzF β)(E:Ls→List V→Ob β):Ob β:=ifb (decide (D<G)) (idx F D fun I=>chk ((XK (XL 4 I))=4∧0+4≤4) (lt (zk [(Qc (0:Int)),(V.gs 35 ([]:Ls)),(V.gs 2 ([]:Ls)),(Qc (0:Int))] 0 (XL 4 I)) fun J=>chk (0+4≤(XK J)) (xT β L (Xv V.dem (XL 4 J)) (fun C=>chk ((XK C)=32∧0+32≤32) (chk ((XK A+XK (yl 32 1 (zk (We 32 (Qa (0:Int))) 0 C)))*32≤xm∧XK A+XK (yl 32 1 (zk (We 32 (Qa (0:Int))) 0 C))≤xm) (lt (A++(yl 32 1 (zk (We 32 (Qa (0:Int))) 0 C))) fun M=>lt (QG .i64 ((D:Int)+(1:Int))) fun N=>z M F G N H)))))) (E A H)
theorem zMl{β:Type}(xT:zeT)(yF:zb2)(L:Nat)(z C:Ls)(D E:Int)(A:List V)(X:St→Ob β)(K:KT β):ze zeI (zeF xT yF L) 0 L zpJ (zh6 z C D E A) (yH zrl X K)=zq5 xT yF L z C D E A (fun z C D E A=>X (zh6 z C D E A)) (fun z A=>K (.exit 0) (ztk z A)):=by kernel_rfl
def zi2{β:Type}(xT:zeT)(yF:zb2)(L:Nat)(E:Ls)(A:List V)(z:List V→Ob β):Ob β:=yF β L E (fun C=>chk ((XK C)=32∧0+32≤(XK A)) (lt (zk A 0 C) fun D=>chk (0=0∧(XK D)=32∧32≠0) (z D)))
theorem zIV{β:Type}(xT:zeT)(yF:zb2)(L:Nat)(z:Ls)(A:List V)(k:KK β):(xi 0 (yv (ze zeI (zeF xT yF L) 0 L zHf) (zD 0 (CF.res cf_block_Root) k))) (.exit 0) (ztk z A)=zi2 xT yF L z A (fun C=>k (V.agg C) []):=by kernel_rfl
def zhQ{β:Type}(xT:zeT)(yF:zb2)(L:Nat)(z:Ls→List V→Ob β):Nat→Ls→Ls→Int→Int→List V→Ob β
 | 0,_,_,_,_,_=>none
 | n+1,A,C,D,E,F=>zq5 xT yF L A C D E F (fun A C D E F=>zhQ xT yF L z n A C D E F) z
theorem zv7{β:Type}(xT:zeT)(yF:zb2)(L:Nat)(K:KT β):∀ (n:Nat) (z C:Ls) (D E:Int) (A:List V),zx (ze zeI (zeF xT yF L) 0 L zpJ) zrl n (zh6 z C D E A) K=zhQ xT yF L (fun z A=>K (.exit 0) (ztk z A)) n z C D E A:=by
 intro n; induction n <;> intros
 ·rfl
 ·exact (zMl ..).trans (by simp only [*]; rfl)
def zt2{β:Type}(xT:zeT)(yF:zb2)(L:Nat)(D:Ls)(z:List V→Ob β):Ob β:=zDK xT yF L D (fun A E F G C=>zhQ xT yF L (fun A C=>zi2 xT yF L A C z) L A E F G C)
theorem zUP{β:Type}(xT:zeT)(yF:zb2)(L:Nat)(z:Ls)(k:KK β):zh zeI (zeF xT yF L) L cf_block_Root [(V.sl 4 z)] [] k=zt2 xT yF L z (fun z=>k (V.agg z) []):=by
 refine (zWH xT yF L z k).trans ?_
 unfold zt2
 first
  | (simp only [zv7,zIV]; done)
  | (simp only [zv7]; rfl)
abbrev zbg:=∀ (β:Type),Nat→Ls→(List V→Ob β)→Ob β
def xH:zbg:=fun β=>@zt2 β xT yF
def zu5(xH:zbg)(L:Nat):Dk:=dA (AL 4) fun z=>d0 fun β k=>xH β L z (fun z=>k (V.agg z) [])
theorem zUp(L:Nat):DK (zu5 xH L) (fun _=>zh zeI (zeF xT yF L) L cf_block_Root):=xv zaZ fun z=>yK fun _ k=>zUP xT yF L z k
def zC2:Hint:=⟨[(0,0),(1,2),(1,3),(8,3),(14,2)],[],[none,none,none,none,none,some ((bl 117440514 63),(bl 9223372032559808155 63)),none,some ((bl 2 63),(bl 9223372032559808155 63)),none,none,some ((bl 4 63),(bl 9223372032559808157 63)),none,some ((bl 1924145348610 63),(bl 9223336852482686139 63)),none,some ((bl 2 63),(bl 9223336852482686139 63)),none,none,some ((bl 4 63),(bl 9223336852482686141 63)),none,none,none,none,none],[],[],false,false,[]⟩
def cf_block_Check:CF:=cfD zC2 18
def z4n:CC:=xz [1,1,1,1,0,1,0,0] cf_block_Check.body
def z5w:CC:=xz [1,1,1,0,1,0,0] cf_block_Check.body
def z6z:CC:=xz [1,1,1,1,1] cf_block_Check.body
def z7R:CC:=xz [1,1,1,1] cf_block_Check.body
def yay:Nat→Sh:=zj [(20,(.sl 4)),(24,(.sl 4)),(38,(.sl 4)),(51,(.sl 4)),(57,(.sl 4))]
def yaE(zB:zaL)(yo:zY)(y5:zc8)(zV:zbO)(xH:zbg)(L:Nat):CBC:=(xe 579 (zu5 xH L) (xe 578 (zZR zV L) (xe 131 (zCv y5 L) (xe 151 (zmX yo L) (xe 577 (zls zB L) noC)))))
def z56:St→St:=yM 0 (bl 117440514 63) (bl 9223372032559808155 63)
def z41:St→St:=yM 0 (bl 1924145348610 63) (bl 9223336852482686139 63)
def z3B(z:Ls)(A C:Int)(D:List V):St:=⟨(jn 1 ((V.ptr 1 0)::(jn 22 ((V.sl 4 z)::((Qe A)::((Qe C)::(jn 36 []))))))),(gn 1 ((.live true D)::(gn 61 [])))⟩
def z6m(z:Int):St:=⟨(jn 2 ((Qe z)::(jn 60 []))),(gn 63 [])⟩
def z7V(z:List V):St:=⟨(jn 1 ((V.ptr 1 0)::(jn 61 []))),(gn 1 ((.live true z)::(gn 61 [])))⟩
def z3c(z:Ls)(A C:Int)(D:List V):St:=⟨(jn 1 ((V.ptr 1 0)::(jn 36 ((V.sl 4 z)::((Qe A)::((Qe C)::(jn 22 []))))))),(gn 1 ((.live true D)::(gn 61 [])))⟩
def z7U(z:List V):St:=⟨(jn 1 ((V.ptr 1 0)::(jn 61 []))),(gn 1 ((.live true z)::(gn 61 [])))⟩
def zZP{β:Type}(zB:zaL)(yo:zY)(y5:zc8)(zV:zbO)(xH:zbg)(L:Nat)(C:List V)(A:Int→Ob β)(z:Ls→Int→Int→List V→Ob β):Ob β:=chk (0+69≤(XK C)) (zB β L (Xv V.dem (XL 69 C)) (fun G D=>ifb ((D:Int) != (0:Int)) (A D) (cLd 4 C 68 fun F=>ifb ((((XK F:Nat):Int):Int)==(0:Int)) (A (93:Int)) (cLd 4 C 68 fun E=>z E ((XK E:Nat):Int) (0:Int) C))))
def zOj{β:Type}(zB:zaL)(yo:zY)(y5:zc8)(zV:zbO)(xH:zbg)(L:Nat)(D:Ls)(E A:Int)(G:List V)(C:Int→Ob β)(z:Ls→Int→Int→List V→Ob β)(F:List V→Ob β):Ob β:=ifb (decide (A<E)) (idx D A fun H=>chk ((XK (XL 4 H))=4∧0+4≤4) (lt (zk [(Qc (0:Int)),(V.gs 35 ([]:Ls)),(V.gs 2 ([]:Ls)),(Qc (0:Int))] 0 (XL 4 H)) fun I=>chk (0+4≤(XK I)) (yo β L (Xv V.dem (XL 4 I)) (fun J=>ifb (!(J==((A:Int)==(0:Int)))) (C (111:Int)) (lt (QG .i64 ((A:Int)+(1:Int))) fun M=>z D E M G))))) (F G)
def zIB{β:Type}(zB:zaL)(yo:zY)(y5:zc8)(zV:zbO)(xH:zbg)(L:Nat)(A:Int)(z:Int→Ob β):Ob β:=z A
def zKb{β:Type}(zB:zaL)(yo:zY)(y5:zc8)(zV:zbO)(xH:zbg)(L:Nat)(A:List V)(z:Ls→Int→Int→List V→Ob β):Ob β:=cLd 4 A 68 fun C=>z C ((XK C:Nat):Int) (0:Int) A
def zMy{β:Type}(zB:zaL)(yo:zY)(y5:zc8)(zV:zbO)(xH:zbg)(L:Nat)(D:Ls)(E A:Int)(I:List V)(C:Int→Ob β)(z:Ls→Int→Int→List V→Ob β)(H:List V→Ob β):Ob β:=ifb (decide (A<E)) (idx D A fun J=>chk ((XK (XL 4 J))=4∧0+4≤4) (lt (zk [(Qc (0:Int)),(V.gs 35 ([]:Ls)),(V.gs 2 ([]:Ls)),(Qc (0:Int))] 0 (XL 4 J)) fun F=>chk (0+4≤(XK F)) (y5 β L (Xv V.dem (XL 4 F)) (fun G=>ifb ((G:Int) != (0:Int)) (C G) (lt (QG .i64 ((A:Int)+(1:Int))) fun M=>z D E M I))))) (H I)
def zFm{β:Type}(zB:zaL)(yo:zY)(y5:zc8)(zV:zbO)(xH:zbg)(L:Nat)(A:Int)(z:Int→Ob β):Ob β:=z A
def zIt{β:Type}(zB:zaL)(yo:zY)(y5:zc8)(zV:zbO)(xH:zbg)(L:Nat)(A:List V)(z:Int→Ob β):Ob β:=cLd 4 A 68 fun D=>zV β L D (fun C=>ifb ((C:Int) != (0:Int)) (z C) (cLd 4 A 68 fun E=>xH β L E (fun F=>chk (33+32≤(XK A)) (eqC 32 F (XL 32 (List.drop 33 A)) fun G=>ifb (!G) (z (110:Int)) (z (0:Int))))))
def zwS{β:Type}(zB:zaL)(yo:zY)(y5:zc8)(zV:zbO)(xH:zbg)(L:Nat)(z:Int→Ob β)(A:List V→Ob β):Nat→Ls→Int→Int→List V→Ob β
 | 0,_,_,_,_=>none
 | n+1,C,D,E,F=>zOj zB yo y5 zV xH L C D E F z (fun C D E F=>zwS zB yo y5 zV xH L z A n C D E F) A
def zwj{β:Type}(zB:zaL)(yo:zY)(y5:zc8)(zV:zbO)(xH:zbg)(L:Nat)(z:Int→Ob β)(A:List V→Ob β):Nat→Ls→Int→Int→List V→Ob β
 | 0,_,_,_,_=>none
 | n+1,C,D,E,F=>zMy zB yo y5 zV xH L C D E F z (fun C D E F=>zwj zB yo y5 zV xH L z A n C D E F) A
def zIS{β:Type}(zB:zaL)(yo:zY)(y5:zc8)(zV:zbO)(xH:zbg)(L:Nat)(A:List V)(z:Int→Ob β):Ob β:=zKb zB yo y5 zV xH L A (fun C D E A=>zwj zB yo y5 zV xH L (fun F=>zFm zB yo y5 zV xH L F z) (fun A=>zIt zB yo y5 zV xH L A z) L C D E A)
def z0p{β:Type}(zB:zaL)(yo:zY)(y5:zc8)(zV:zbO)(xH:zbg)(L:Nat)(F:List V)(z:Int→Ob β):Ob β:=zZP zB yo y5 zV xH L F z (fun C D E A=>zwS zB yo y5 zV xH L (fun G=>zIB zB yo y5 zV xH L G z) (fun A=>zIS zB yo y5 zV xH L A z) L C D E A)
abbrev zsj:=∀ (β:Type),Nat→List V→(Int→Ob β)→Ob β
def zfR:zsj:=fun β=>@z0p β zB yo y5 zV xH
def zZU(zfR:zsj)(L:Nat):Dk:=dA AG fun z=>d0 fun β k=>zfR β L z (fun z=>k (Qe z) [])
def zqo:Hint:=⟨[(0,1),(1,3),(2,7),(6,3),(8,0),(8,1)],[],[none,some ((bl 29360136 33),(bl 7516192733 33)),none,some ((bl 8 33),(bl 7516192733 33)),none,none],[],[],false,false,[]⟩
def cf_ref11_EncodeHeader:CF:=cfD zqo 31
def zg1:CC:=xz [1,1,1,0,1,0,0] cf_ref11_EncodeHeader.body
def zoX:CC:=xz [1,1,1,1] cf_ref11_EncodeHeader.body
def zbm:Nat→Sh:=zj [(7,(.int .u32)),(17,(.int .u32)),(19,(.int .u32)),(21,(.int .u32)),(27,(.int .u32))]
def zbl(xa:zq)(yn:zaf)(L:Nat):CBC:=(xe 160 (zhc yn L) (xe 159 (zfN xa L) noC))
def zhu:St→St:=yM 0 (bl 29360136 33) (bl 7516192733 33)
def zdy(D z:Ls)(A C:Int):St:=⟨(jn 3 ((V.gs 1 D)::(jn 18 ((V.gs 1 z)::((Qe A)::((Qe C)::(jn 8 []))))))),(gn 33 [])⟩
def ziX(z:Ls):St:=⟨(jn 3 ((V.gs 1 z)::(jn 29 []))),(gn 33 [])⟩
def zl9{β:Type}(xa:zq)(yn:zaf)(L:Nat)(z:List V)(A:Ls→Ls→Int→Int→Ob β):Ob β:=cI .u32 z 0 fun F=>xa β L ([]:Ls) F (fun G=>chk (1+32≤(XK z)) (yn β L G (XL 32 (List.drop 1 z)) (fun H=>chk (33+32≤(XK z)) (yn β L H (XL 32 (List.drop 33 z)) (fun I=>cI .u32 z 65 fun C=>cI .u32 z 66 fun D=>cI .u32 z 67 fun E=>A I (yl 1 3 [(Qc C),(Qc D),(Qc E)]) ((XK (yl 1 3 [(Qc C),(Qc D),(Qc E)]):Nat):Int) (0:Int))))))
theorem zFu{β:Type}(xa:zq)(yn:zaf)(L:Nat)(z:List V)(k:KK β):zh zbm (zbl xa yn L) L cf_ref11_EncodeHeader [(V.agg z)] [] k=zl9 xa yn L z (fun E A C D=>zx (ze zbm (zbl xa yn L) 0 L zg1) zhu L (zdy E A C D) (xi 0 (yv (ze zbm (zbl xa yn L) 0 L zoX) (zD 0 (CF.res cf_ref11_EncodeHeader) k)))):=by kernel_rfl
def zb1{β:Type}(xa:zq)(yn:zaf)(L:Nat)(F C:Ls)(D A:Int)(z:Ls→Ls→Int→Int→Ob β)(E:Ls→Ob β):Ob β:=ifb (decide (A<D)) (idx C A fun H=>cI .u32 H 0 fun I=>xa β L F I (fun J=>lt (QG .i64 ((A:Int)+(1:Int))) fun G=>z J C D G)) (E F)
theorem zwz{β:Type}(xa:zq)(yn:zaf)(L:Nat)(D z:Ls)(A C:Int)(X:St→Ob β)(K:KT β):ze zbm (zbl xa yn L) 0 L zg1 (zdy D z A C) (yH zhu X K)=zb1 xa yn L D z A C (fun D z A C=>X (zdy D z A C)) (fun D=>K (.exit 0) (ziX D)):=by kernel_rfl
def zlA{β:Type}(xa:zq)(yn:zaf)(L:Nat)(A:Ls)(z:Ls→Ob β):Ob β:=z A
theorem ztZ{β:Type}(xa:zq)(yn:zaf)(L:Nat)(z:Ls)(k:KK β):(xi 0 (yv (ze zbm (zbl xa yn L) 0 L zoX) (zD 0 (CF.res cf_ref11_EncodeHeader) k))) (.exit 0) (ziX z)=zlA xa yn L z (fun A=>k (V.gs 1 A) []):=by kernel_rfl
def zbv{β:Type}(xa:zq)(yn:zaf)(L:Nat)(z:Ls→Ob β):Nat→Ls→Ls→Int→Int→Ob β
 | 0,_,_,_,_=>none
 | n+1,E,A,C,D=>zb1 xa yn L E A C D (fun E A C D=>zbv xa yn L z n E A C D) z
theorem zkF{β:Type}(xa:zq)(yn:zaf)(L:Nat)(K:KT β):∀ (n:Nat) (z A:Ls) (C D:Int),zx (ze zbm (zbl xa yn L) 0 L zg1) zhu n (zdy z A C D) K=zbv xa yn L (fun z=>K (.exit 0) (ziX z)) n z A C D:=by
 intro n; induction n <;> intros
 ·rfl
 ·exact (zwz ..).trans (by simp only [*]; rfl)
def zh5{β:Type}(xa:zq)(yn:zaf)(L:Nat)(F:List V)(z:Ls→Ob β):Ob β:=zl9 xa yn L F (fun A C D E=>zbv xa yn L (fun A=>zlA xa yn L A z) L A C D E)
theorem zFn{β:Type}(xa:zq)(yn:zaf)(L:Nat)(z:List V)(k:KK β):zh zbm (zbl xa yn L) L cf_ref11_EncodeHeader [(V.agg z)] [] k=zh5 xa yn L z (fun z=>k (V.gs 1 z) []):=by
 refine (zFu xa yn L z k).trans ?_
 unfold zh5
 first
  | (simp only [zkF,ztZ]; done)
  | (simp only [zkF]; rfl)
abbrev zT:=∀ (β:Type),Nat→List V→(Ls→Ob β)→Ob β
def xh:zT:=fun β=>@zh5 β xa yn
def zdX(xh:zT)(L:Nat):Dk:=dA AG fun z=>d0 fun β k=>xh β L z (fun z=>k (V.gs 1 z) [])
theorem zFo(L:Nat):DK (zdX xh L) (fun _=>zh zbm (zbl xa yn L) L cf_ref11_EncodeHeader):=xv zak fun z=>yK fun _ k=>zFn xa yn L z k
def zBi:Hint:=⟨[(0,0),(0,1),(2,0),(3,3)],[],[none,none,none],[],[],false,false,[]⟩
def zG7:CF:=cfD zBi 80
def zu2:Nat→Sh:=zj []
def zvj(yc:zt)(yd:yD)(L:Nat):CBC:=(xe 149 (zeS yd L) (xe 148 (zeC yc L) noC))
def zxp{β:Type}(yc:zt)(yd:yD)(L:Nat)(A:List V)(C:Bool)(z:Ls→Int→Ob β):Ob β:=chk (0+4≤(XK A)) (yc β L (Xv V.dem (XL 4 A)) (fun D=>ifb (!D) (z ([]:Ls) (4:Int)) (chk (0+4≤(XK A)) (yd β L (Xv V.dem (XL 4 A)) C (fun E=>z E (0:Int))))))
theorem zRK{β:Type}(yc:zt)(yd:yD)(L:Nat)(C:List V)(D:Bool)(k:KK β):zh zu2 (zvj yc yd L) L zG7 [(V.agg C),(V.sc (.bool D))] [] k=zxp yc yd L C D (fun z A=>k (V.tup [(V.gs 1 z),(Qe A)]) []):=by kernel_rfl
abbrev zbM:=∀ (β:Type),Nat→List V→Bool→(Ls→Int→Ob β)→Ob β
def zE:zbM:=fun β=>@zxp β yc yd
def zxw(zE:zbM)(L:Nat):Dk:=dA AG fun C=>dA AB fun D=>d0 fun β k=>zE β L C D (fun z A=>k (V.tup [(V.gs 1 z),(Qe A)]) [])
theorem zRp(L:Nat):DK (zxw zE L) (fun _=>zh zu2 (zvj yc yd L) L zG7):=xv zak fun z=>xv zUm fun A=>yK fun _ k=>zRK yc yd L z A k
def zBv:Hint:=⟨[(0,0),(0,1),(1,8),(4,2),(5,2),(5,3),(6,0),(6,3),(8,0),(8,1)],[],[none,some ((bl 917512 33),(bl 7281311517 33)),none,some ((bl 8 33),(bl 7281311517 33)),none,none],[],[],false,false,[]⟩
def cf_ref11_encode:CF:=cfD zBv 39
def zmO:CC:=xz [1,1,0,1,0,0] cf_ref11_encode.body
def zBy:CC:=xz [1,1,1] cf_ref11_encode.body
def zdf:Nat→Sh:=zj [(12,(.sl 4)),(17,(.sl 4))]
def zdd(xh:zT)(ya:xo)(zE:zbM)(L:Nat):CBC:=(xe 129 (zxw zE L) (xe 185 (zgV ya L) (xe 455 (zdX xh L) noC)))
def znK:St→St:=yM 0 (bl 917512 33) (bl 7281311517 33)
def zgQ(D z:Ls)(A C:Int):St:=⟨(jn 3 ((V.gs 1 D)::(jn 13 ((V.sl 4 z)::((Qe A)::((Qe C)::(jn 13 []))))))),(gn 33 [])⟩
def zpN(z:Ls):St:=⟨(jn 3 ((V.gs 1 z)::(jn 29 []))),(gn 33 [])⟩
def zxi{β:Type}(xh:zT)(ya:xo)(zE:zbM)(L:Nat)(A:List V)(z:Ls→Ls→Int→Int→Ob β):Ob β:=chk (0+68≤(XK A)) (xh β L (XL 68 A) (fun D=>cLd 4 A 68 fun E=>lt (QG .u64 ((XK E:Nat):Int)) fun F=>ya β L D F (fun G=>cLd 4 A 68 fun C=>z G C ((XK C:Nat):Int) (0:Int))))
theorem zRe{β:Type}(xh:zT)(ya:xo)(zE:zbM)(L:Nat)(z:List V)(k:KK β):zh zdf (zdd xh ya zE L) L cf_ref11_encode [(V.agg z)] [] k=zxi xh ya zE L z (fun E A C D=>zx (ze zdf (zdd xh ya zE L) 0 L zmO) znK L (zgQ E A C D) (xi 0 (yv (ze zdf (zdd xh ya zE L) 0 L zBy) (zD 0 (CF.res cf_ref11_encode) k)))):=by kernel_rfl
def zn0{β:Type}(xh:zT)(ya:xo)(zE:zbM)(L:Nat)(C D:Ls)(E A:Int)(z:Ls→Ls→Int→Int→Ob β)(F:Ls→Ob β):Ob β:=ifb (decide (A<E)) (idx D A fun H=>chk ((XK (XL 4 H))=4∧0+4≤4) (lt (zk [(Qc (0:Int)),(V.gs 35 ([]:Ls)),(V.gs 2 ([]:Ls)),(Qc (0:Int))] 0 (XL 4 H)) fun I=>chk (0+4≤(XK I)) (zE β L (Xv V.dem (XL 4 I)) true (fun G N=>chk ((XK C+XK G)*1≤xm∧XK C+XK G≤xm) (lt (C++G) fun M=>lt (QG .i64 ((A:Int)+(1:Int))) fun J=>z M D E J))))) (F C)
theorem zHX{β:Type}(xh:zT)(ya:xo)(zE:zbM)(L:Nat)(D z:Ls)(A C:Int)(X:St→Ob β)(K:KT β):ze zdf (zdd xh ya zE L) 0 L zmO (zgQ D z A C) (yH znK X K)=zn0 xh ya zE L D z A C (fun D z A C=>X (zgQ D z A C)) (fun D=>K (.exit 0) (zpN D)):=by kernel_rfl
def ztH{β:Type}(xh:zT)(ya:xo)(zE:zbM)(L:Nat)(A:Ls)(z:Ls→Ob β):Ob β:=z A
theorem zE3{β:Type}(xh:zT)(ya:xo)(zE:zbM)(L:Nat)(z:Ls)(k:KK β):(xi 0 (yv (ze zdf (zdd xh ya zE L) 0 L zBy) (zD 0 (CF.res cf_ref11_encode) k))) (.exit 0) (zpN z)=ztH xh ya zE L z (fun A=>k (V.gs 1 A) []):=by kernel_rfl
def zf9{β:Type}(xh:zT)(ya:xo)(zE:zbM)(L:Nat)(z:Ls→Ob β):Nat→Ls→Ls→Int→Int→Ob β
 | 0,_,_,_,_=>none
 | n+1,E,A,C,D=>zn0 xh ya zE L E A C D (fun E A C D=>zf9 xh ya zE L z n E A C D) z
theorem zrP{β:Type}(xh:zT)(ya:xo)(zE:zbM)(L:Nat)(K:KT β):∀ (n:Nat) (z A:Ls) (C D:Int),zx (ze zdf (zdd xh ya zE L) 0 L zmO) znK n (zgQ z A C D) K=zf9 xh ya zE L (fun z=>K (.exit 0) (zpN z)) n z A C D:=by
 intro n; induction n <;> intros
 ·rfl
 ·exact (zHX ..).trans (by simp only [*]; rfl)
def zp8{β:Type}(xh:zT)(ya:xo)(zE:zbM)(L:Nat)(F:List V)(z:Ls→Ob β):Ob β:=zxi xh ya zE L F (fun A C D E=>zf9 xh ya zE L (fun A=>ztH xh ya zE L A z) L A C D E)
theorem zR3{β:Type}(xh:zT)(ya:xo)(zE:zbM)(L:Nat)(z:List V)(k:KK β):zh zdf (zdd xh ya zE L) L cf_ref11_encode [(V.agg z)] [] k=zp8 xh ya zE L z (fun z=>k (V.gs 1 z) []):=by
 refine (zRe xh ya zE L z k).trans ?_
 unfold zp8
 first
  | (simp only [zrP,zE3]; done)
  | (simp only [zrP]; rfl)
abbrev zaB:=∀ (β:Type),Nat→List V→(Ls→Ob β)→Ob β
def yr:zaB:=fun β=>@zp8 β xh ya zE
def zqf(yr:zaB)(L:Nat):Dk:=dA AG fun z=>d0 fun β k=>yr β L z (fun z=>k (V.gs 1 z) [])
theorem zRi(L:Nat):DK (zqf yr L) (fun _=>zh zdf (zdd xh ya zE L) L cf_ref11_encode):=xv zak fun z=>yK fun _ k=>zR3 xh ya zE L z k
def zFO:Hint:=⟨[(0,0),(5,2)],[],[none,none,none,some ((bl 7170 24),(bl 16646123 24)),none,some ((bl 2 24),(bl 16646123 24)),none,none,some ((bl 4 24),(bl 16646125 24)),none],[],[],false,false,[]⟩
def cf_ref11_Fits:CF:=cfD zFO 38
def zo9:CC:=xz [1,1,0,1,0,0] cf_ref11_Fits.body
def zvt:CC:=xz [1,1,1] cf_ref11_Fits.body
def zdR:Nat→Sh:=zj [(6,(.sl 4)),(10,(.sl 4))]
def zdQ(yc:zt)(yr:zaB)(L:Nat):CBC:=(xe 488 (zqf yr L) (xe 148 (zeC yc L) noC))
def zrr:St→St:=yM 0 (bl 7170 24) (bl 16646123 24)
def zif(z:Ls)(A C:Int)(D:List V):St:=⟨(jn 1 ((V.ptr 1 0)::(jn 8 ((V.sl 4 z)::((Qe A)::((Qe C)::(jn 11 []))))))),(gn 1 ((.live true D)::(gn 22 [])))⟩
def zqL(z:Bool):St:=⟨(jn 2 ((V.sc (.bool z))::(jn 21 []))),(gn 24 [])⟩
def zsH(z:List V):St:=⟨(jn 1 ((V.ptr 1 0)::(jn 22 []))),(gn 1 ((.live true z)::(gn 22 [])))⟩
def zDh{β:Type}(yc:zt)(yr:zaB)(L:Nat)(C:List V)(A:Bool→Ob β)(z:Ls→Int→Int→List V→Ob β):Ob β:=cLd 4 C 68 fun E=>ifb (decide (((XK E:Nat):Int)>(256:Int))) (A false) (cLd 4 C 68 fun D=>z D ((XK D:Nat):Int) (0:Int) C)
theorem zVE{β:Type}(yc:zt)(yr:zaB)(L:Nat)(z:List V)(k:KK β):zh zdR (zdQ yc yr L) L cf_ref11_Fits [(V.agg z)] [] k=zDh yc yr L z (fun z=>k (V.sc (.bool z)) []) (fun A C D E=>zx (ze zdR (zdQ yc yr L) 0 L zo9) zrr L (zif A C D E) (xi 0 (yv (ze zdR (zdQ yc yr L) 0 L zvt) (zD 0 (CF.res cf_ref11_Fits) k)))):=by kernel_rfl
def zrx{β:Type}(yc:zt)(yr:zaB)(L:Nat)(D:Ls)(E A:Int)(G:List V)(C:Bool→Ob β)(z:Ls→Int→Int→List V→Ob β)(F:List V→Ob β):Ob β:=ifb (decide (A<E)) (idx D A fun H=>chk ((XK (XL 4 H))=4∧0+4≤4) (lt (zk [(Qc (0:Int)),(V.gs 35 ([]:Ls)),(V.gs 2 ([]:Ls)),(Qc (0:Int))] 0 (XL 4 H)) fun I=>chk (0+4≤(XK I)) (yc β L (Xv V.dem (XL 4 I)) (fun J=>ifb (!J) (C false) (lt (QG .i64 ((A:Int)+(1:Int))) fun M=>z D E M G))))) (F G)
theorem zMJ{β:Type}(yc:zt)(yr:zaB)(L:Nat)(z:Ls)(A C:Int)(D:List V)(X:St→Ob β)(K:KT β):ze zdR (zdQ yc yr L) 0 L zo9 (zif z A C D) (yH zrr X K)=zrx yc yr L z A C D (fun E=>K .ret (zqL E)) (fun z A C D=>X (zif z A C D)) (fun D=>K (.exit 0) (zsH D)):=by kernel_rfl
def zmF{β:Type}(yc:zt)(yr:zaB)(L:Nat)(A:Bool)(z:Bool→Ob β):Ob β:=z A
theorem zFl{β:Type}(yc:zt)(yr:zaB)(L:Nat)(z:Bool)(k:KK β):(xi 0 (yv (ze zdR (zdQ yc yr L) 0 L zvt) (zD 0 (CF.res cf_ref11_Fits) k))) .ret (zqL z)=zmF yc yr L z (fun A=>k (V.sc (.bool A)) []):=by kernel_rfl
def znn{β:Type}(yc:zt)(yr:zaB)(L:Nat)(A:List V)(z:Bool→Ob β):Ob β:=chk (0+69≤(XK A)) (yr β L (Xv V.dem (XL 69 A)) (fun C=>z (decide (((XK C:Nat):Int)≤(100000:Int)))))
theorem zI5{β:Type}(yc:zt)(yr:zaB)(L:Nat)(z:List V)(k:KK β):(xi 0 (yv (ze zdR (zdQ yc yr L) 0 L zvt) (zD 0 (CF.res cf_ref11_Fits) k))) (.exit 0) (zsH z)=znn yc yr L z (fun A=>k (V.sc (.bool A)) []):=by kernel_rfl
def zhI{β:Type}(yc:zt)(yr:zaB)(L:Nat)(z:Bool→Ob β)(A:List V→Ob β):Nat→Ls→Int→Int→List V→Ob β
 | 0,_,_,_,_=>none
 | n+1,C,D,E,F=>zrx yc yr L C D E F z (fun C D E F=>zhI yc yr L z A n C D E F) A
theorem zvC{β:Type}(yc:zt)(yr:zaB)(L:Nat)(K:KT β):∀ (n:Nat) (A:Ls) (C D:Int) (z:List V),zx (ze zdR (zdQ yc yr L) 0 L zo9) zrr n (zif A C D z) K=zhI yc yr L (fun E=>K .ret (zqL E)) (fun z=>K (.exit 0) (zsH z)) n A C D z:=by
 intro n; induction n <;> intros
 ·rfl
 ·exact (zMJ ..).trans (by simp only [*]; rfl)
def zvO{β:Type}(yc:zt)(yr:zaB)(L:Nat)(F:List V)(z:Bool→Ob β):Ob β:=zDh yc yr L F z (fun C D E A=>zhI yc yr L (fun G=>zmF yc yr L G z) (fun A=>znn yc yr L A z) L C D E A)
theorem zWk{β:Type}(yc:zt)(yr:zaB)(L:Nat)(z:List V)(k:KK β):zh zdR (zdQ yc yr L) L cf_ref11_Fits [(V.agg z)] [] k=zvO yc yr L z (fun z=>k (V.sc (.bool z)) []):=by
 refine (zVE yc yr L z k).trans ?_
 unfold zvO
 first
  | (simp only [zvC,zFl,zI5]; done)
  | (simp only [zvC]; rfl)
abbrev zau:=∀ (β:Type),Nat→List V→(Bool→Ob β)→Ob β
def zz:zau:=fun β=>@zvO β yc yr
def zoN(zz:zau)(L:Nat):Dk:=dA AG fun z=>d0 fun β k=>zz β L z (fun z=>k (V.sc (.bool z)) [])
theorem zUg(L:Nat):DK (zoN zz L) (fun _=>zh zdR (zdQ yc yr L) L cf_ref11_Fits):=xv zak fun z=>yK fun _ k=>zWk yc yr L z k
def zHN:Hint:=⟨[],[],[none],[],[],false,false,[]⟩
def zNq:CF:=cfD zHN 86
def zAx:Nat→Sh:=zj []
def zzP(L:Nat):CBC:=noC
def zPx{β:Type}(L:Nat)(A:List V)(z:Bool→Ob β):Ob β:=chk (0+33≤(XK A)) (eqC 33 (XL 33 A) (We 32 (Qa (0:Int))++[(Qc (4294967295:Int))]) fun C=>z C)
theorem zV6{β:Type}(L:Nat)(z:List V)(k:KK β):zh zAx (zzP L) L zNq [(V.agg z)] [] k=zPx L z (fun z=>k (V.sc (.bool z)) []):=by kernel_rfl
abbrev yE:=∀ (β:Type),Nat→List V→(Bool→Ob β)→Ob β
def xd:yE:=fun β=>@zPx β
def zuS(xd:yE)(L:Nat):Dk:=dA AG fun z=>d0 fun β k=>xd β L z (fun z=>k (V.sc (.bool z)) [])
theorem zVP(L:Nat):DK (zuS xd L) (fun _=>zh zAx (zzP L) L zNq):=xv zak fun z=>yK fun _ k=>zV6 L z k
def zwV:Hint:=⟨[(0,0)],[],[none],[],[],false,false,[]⟩
def zBp:CF:=cfD zwV 46
def zrj:Nat→Sh:=zj [(4,(.sl 35)),(9,(.sl 35))]
def zrq(xd:yE)(L:Nat):CBC:=(xe 152 (zuS xd L) noC)
def zDx{β:Type}(xd:yE)(L:Nat)(A:List V)(z:Bool→Ob β):Ob β:=cLd 35 A 1 fun C=>ifb ((((XK C:Nat):Int):Int)==(1:Int)) (cLd 35 A 1 fun D=>idx D (0:Int) fun E=>xd β L (XL 33 E) (fun F=>z F)) (z false)
theorem zN7{β:Type}(xd:yE)(L:Nat)(z:List V)(k:KK β):zh zrj (zrq xd L) L zBp [(V.agg z)] [] k=zDx xd L z (fun z=>k (V.sc (.bool z)) []):=by kernel_rfl
abbrev zn:=∀ (β:Type),Nat→List V→(Bool→Ob β)→Ob β
def zb:zn:=fun β=>@zDx β xd
def zeQ(zb:zn)(L:Nat):Dk:=dA AG fun z=>d0 fun β k=>zb β L z (fun z=>k (V.sc (.bool z)) [])
theorem zOe(L:Nat):DK (zeQ zb L) (fun _=>zh zrj (zrq xd L) L zBp):=xv zak fun z=>yK fun _ k=>zN7 xd L z k
def zDm:Hint:=⟨[(0,0),(8,2),(26,2)],[],[none,none,none,none,none,some ((bl 117440522 81),(bl 2417851639229258349411803 81)),none,some ((bl 10 81),(bl 2417851639229258349411803 81)),none,none,some ((bl 4 81),(bl 2417851639229258349411797 81)),none,none,none,some ((bl 13194139533314 81),(bl 2417851639229258349411611 81)),none,some ((bl 2 81),(bl 2417851639229258349411611 81)),none,none,some ((bl 13194139533506 81),(bl 2417851639229258349411803 81)),none,some ((bl 13194139533314 81),(bl 2417851639229258349411675 81)),none,none,some ((bl 4 81),(bl 2417851639229258349411613 81)),none,some ((bl 516508834063867445250 81),(bl 2247846445845951121718747 81)),none,some ((bl 0 81),(bl 2247846445845951121718745 81)),none,none,some ((bl 4 81),(bl 2247846445845951121718749 81)),none],[],[],false,false,[]⟩
def cf_ref09_Check:CF:=cfD zDm 47
def zfa:CC:=xz [1,1,1,1,1,1,0,1,0,0,1,1,0,0,1,1,0,0] cf_ref09_Check.body
def zhw:CC:=xz [1,1,1,1,1,1,0,1,0,0,1,1,1] cf_ref09_Check.body
def ziV:CC:=xz [1,1,1,1,1,1,1,0,1,0,0] cf_ref09_Check.body
def zf1:CC:=xz [1,1,1,1,1,1,0,1,0,0] cf_ref09_Check.body
def zkW:CC:=xz [1,1,1,1,1,1,1,1] cf_ref09_Check.body
def zlw:CC:=xz [1,1,1,1,0,1,0,0] cf_ref09_Check.body
def zid:CC:=xz [1,1,1,1,1,1,1] cf_ref09_Check.body
def zjU:CC:=xz [1,1,1,1,1] cf_ref09_Check.body
def zN:Nat→Sh:=zj [(14,(.sl 35)),(19,(.sl 2)),(24,(.sl 2)),(31,(.int .i64)),(35,(.int .i64)),(41,(.sl 35)),(66,(.sl 35)),(52,(.sl 35)),(58,(.sl 35))]
def yN(yc:zt)(xd:yE)(zb:zn)(L:Nat):CBC:=(xe 153 (zeQ zb L) (xe 152 (zuS xd L) (xe 148 (zeC yc L) noC)))
def zmI:St→St:=yM 0 (bl 117440522 81) (bl 2417851639229258349411803 81)
def zca:St→St:=yM 0 (bl 13194139533314 81) (bl 2417851639229258349411611 81)
def zfH:St→St:=yM 0 (bl 13194139533506 81) (bl 2417851639229258349411803 81)
def zjm:St→St:=yM 0 (bl 516508834063867445250 81) (bl 2247846445845951121718747 81)
def zf5(D:Int)(z:Ls)(A C:Int)(E:List V):St:=⟨(jn 1 ((V.ptr 1 0)::(jn 1 ((Qe D)::(jn 20 ((V.sl 2 z)::((Qe A)::((Qe C)::(jn 54 []))))))))),(gn 1 ((.live true E)::(gn 79 [])))⟩
def zaK(z:Int):St:=⟨(jn 2 ((Qe z)::(jn 78 []))),(gn 81 [])⟩
def zkQ(z:Int)(A:List V):St:=⟨(jn 1 ((V.ptr 1 0)::(jn 1 ((Qe z)::(jn 77 []))))),(gn 1 ((.live true A)::(gn 79 [])))⟩
def zch(z A:Int)(C:List V):St:=⟨(jn 1 ((V.ptr 1 0)::(jn 40 ((Qe z)::((Qe A)::(jn 37 [])))))),(gn 1 ((.live true C)::(gn 79 [])))⟩
def zcz(C D z A:Int)(E:List V):St:=⟨(jn 1 ((V.ptr 1 0)::(jn 4 ((Qe C)::((Qe D)::(jn 34 ((Qe z)::((Qe A)::(jn 37 []))))))))),(gn 1 ((.live true E)::(gn 79 [])))⟩
def zhU(z:List V):St:=⟨(jn 1 ((V.ptr 1 0)::(jn 79 []))),(gn 1 ((.live true z)::(gn 79 [])))⟩
def zeN(z:Ls)(A C:Int)(D:List V):St:=⟨(jn 1 ((V.ptr 1 0)::(jn 64 ((V.sl 35 z)::((Qe A)::((Qe C)::(jn 12 []))))))),(gn 1 ((.live true D)::(gn 79 [])))⟩
def zq6(z A:Int)(C:List V):St:=⟨(jn 1 ((V.ptr 1 0)::(jn 40 ((Qe z)::((Qe A)::(jn 37 [])))))),(gn 1 ((.live true C)::(gn 79 [])))⟩
def zqI:St:=⟨(jn 81 []),(gn 81 [])⟩
def zNT{β:Type}(yc:zt)(xd:yE)(zb:zn)(L:Nat)(C:List V)(z:Int→Ob β)(A:Int→Ls→Int→Int→List V→Ob β):Ob β:=chk (0+4≤(XK C)) (yc β L (Xv V.dem (XL 4 C)) (fun E=>ifb (!E) (z (4:Int)) (cLd 35 C 1 fun F=>ifb ((((XK F:Nat):Int):Int)==(0:Int)) (z (93:Int)) (cLd 2 C 2 fun G=>ifb ((((XK G:Nat):Int):Int)==(0:Int)) (z (93:Int)) (cLd 2 C 2 fun D=>A (0:Int) D ((XK D:Nat):Int) (0:Int) C)))))
theorem zTr{β:Type}(yc:zt)(xd:yE)(zb:zn)(L:Nat)(z:List V)(k:KK β):zh zN (yN yc xd zb L) L cf_ref09_Check [(V.agg z)] [] k=zNT yc xd zb L z (fun z=>k (Qe z) []) (fun E A C D F=>zx (ze zN (yN yc xd zb L) 0 L zlw) zmI L (zf5 E A C D F) (xi 0 (yv (ze zN (yN yc xd zb L) 0 L zjU) (zD 0 (CF.res cf_ref09_Check) k)))):=by kernel_rfl
def zuI{β:Type}(yc:zt)(xd:yE)(zb:zn)(L:Nat)(G:Int)(D:Ls)(E A:Int)(H:List V)(C:Int→Ob β)(z:Int→Ls→Int→Int→List V→Ob β)(F:Int→List V→Ob β):Ob β:=ifb (decide (A<E)) (idx D A fun I=>chk ((XK (XL 2 I))=2∧0+2≤2) (lt (zk [(Qe (0:Int)),(V.gs 1 ([]:Ls))] 0 (XL 2 I)) fun J=>cI .i64 J 0 fun M=>ifb (decide (M>(2100000000000000:Int))) (C (90:Int)) (cI .i64 J 0 fun N=>lt (QG .i64 ((G:Int)+N)) fun O=>lt (QG .i64 ((A:Int)+(1:Int))) fun P=>z O D E P H))) (F G H)
theorem zFg{β:Type}(yc:zt)(xd:yE)(zb:zn)(L:Nat)(D:Int)(z:Ls)(A C:Int)(E:List V)(X:St→Ob β)(K:KT β):ze zN (yN yc xd zb L) 0 L zlw (zf5 D z A C E) (yH zmI X K)=zuI yc xd zb L D z A C E (fun F=>K .ret (zaK F)) (fun D z A C E=>X (zf5 D z A C E)) (fun D E=>K (.exit 0) (zkQ D E)):=by kernel_rfl
def zqr{β:Type}(yc:zt)(xd:yE)(zb:zn)(L:Nat)(A:Int)(z:Int→Ob β):Ob β:=z A
theorem zAy{β:Type}(yc:zt)(xd:yE)(zb:zn)(L:Nat)(z:Int)(k:KK β):(xi 0 (yv (ze zN (yN yc xd zb L) 0 L zjU) (zD 0 (CF.res cf_ref09_Check) k))) .ret (zaK z)=zqr yc xd zb L z (fun A=>k (Qe A) []):=by kernel_rfl
def zrV{β:Type}(yc:zt)(xd:yE)(zb:zn)(L:Nat)(E:Int)(C:List V)(A:Int→Ob β)(z:Int→Int→List V→Ob β):Ob β:=ifb (decide (E>(2100000000000000:Int))) (A (90:Int)) (cLd 35 C 1 fun D=>z ((XK D:Nat):Int) (0:Int) C)
theorem zCo{β:Type}(yc:zt)(xd:yE)(zb:zn)(L:Nat)(A:Int)(z:List V)(k:KK β):(xi 0 (yv (ze zN (yN yc xd zb L) 0 L zjU) (zD 0 (CF.res cf_ref09_Check) k))) (.exit 0) (zkQ A z)=zrV yc xd zb L A z (fun E=>k (Qe E) []) (fun C D z=>zx (ze zN (yN yc xd zb L) 0 L zf1) zca L (zch C D z) (xi 2 (yv (ze zN (yN yc xd zb L) 0 L zid) (zD 0 (CF.res cf_ref09_Check) k)))):=by kernel_rfl
def zsb{β:Type}(yc:zt)(xd:yE)(zb:zn)(L:Nat)(C A:Int)(E:List V)(z:Int→Int→Int→Int→List V→Ob β)(D:List V→Ob β):Ob β:=ifb (decide (A<C)) (z A (0:Int) C A E) (D E)
theorem zCw{β:Type}(yc:zt)(xd:yE)(zb:zn)(L:Nat)(z A:Int)(C:List V)(X:St→Ob β)(K:KT β):ze zN (yN yc xd zb L) 0 L zf1 (zch z A C) (yH zca X K)=zsb yc xd zb L z A C (fun D E z A C=>zx (ze zN (yN yc xd zb L) 0 L zfa) zfH L (zcz D E z A C) (xi 4 (xi 3 (yv (ze zN (yN yc xd zb L) 0 L zhw) (yH zca X K))))) (fun C=>K (.exit 2) (zhU C)):=by kernel_rfl
def zpG{β:Type}(yc:zt)(xd:yE)(zb:zn)(L:Nat)(C:List V)(z:Ls→Int→Int→List V→Ob β):Ob β:=cLd 35 C 1 fun A=>z A ((XK A:Nat):Int) (0:Int) C
theorem zy6{β:Type}(yc:zt)(xd:yE)(zb:zn)(L:Nat)(z:List V)(k:KK β):(xi 2 (yv (ze zN (yN yc xd zb L) 0 L zid) (zD 0 (CF.res cf_ref09_Check) k))) (.exit 2) (zhU z)=zpG yc xd zb L z (fun A C D z=>zx (ze zN (yN yc xd zb L) 0 L ziV) zjm L (zeN A C D z) (xi 6 (yv (ze zN (yN yc xd zb L) 0 L zkW) (zD 0 (CF.res cf_ref09_Check) k)))):=by kernel_rfl
def zj9{β:Type}(yc:zt)(xd:yE)(zb:zn)(L:Nat)(F G D E:Int)(A:List V)(C:Int→Ob β)(z:Int→Int→Int→Int→List V→Ob β)(H:Int→Int→List V→Ob β):Ob β:=ifb (decide (G<F)) (cLd 35 A 1 fun I=>idx I F fun J=>cLd 35 A 1 fun M=>idx M G fun N=>eqC 33 (XL 33 J) (XL 33 N) fun O=>ifb O (C (91:Int)) (lt (QG .i64 ((G:Int)+(1:Int))) fun P=>z F P D E A)) (H D E A)
theorem zrH{β:Type}(yc:zt)(xd:yE)(zb:zn)(L:Nat)(D E z A:Int)(C:List V)(X:St→Ob β)(K:KT β):ze zN (yN yc xd zb L) 0 L zfa (zcz D E z A C) (yH zfH X K)=zj9 yc xd zb L D E z A C (fun F=>K .ret (zaK F)) (fun D E z A C=>X (zcz D E z A C)) (fun z A C=>K (.exit 4) (zq6 z A C)):=by kernel_rfl
def zqm{β:Type}(yc:zt)(xd:yE)(zb:zn)(L:Nat)(C:Ls)(D A:Int)(E:List V)(F:Int→Ob β)(z:Ls→Int→Int→List V→Ob β)(I:Ob β):Ob β:=ifb (decide (A<D)) (idx C A fun G=>chk ((XK (XL 35 G))=35∧0+35≤35) (lt (zk (We 32 (Qa (0:Int))++[(Qc (0:Int)),(Qc (0:Int)),(V.gs 1 ([]:Ls))]) 0 (XL 35 G)) fun H=>chk (0+33≤(XK H)) (xd β L (XL 33 H) (fun J=>ifb J (chk (0+4≤(XK E)) (zb β L (Xv V.dem (XL 4 E)) (fun M=>ifb (!M) (F (92:Int)) (lt (QG .i64 ((A:Int)+(1:Int))) fun N=>z C D N E)))) (lt (QG .i64 ((A:Int)+(1:Int))) fun O=>z C D O E))))) (I)
theorem zAY{β:Type}(yc:zt)(xd:yE)(zb:zn)(L:Nat)(z:Ls)(A C:Int)(D:List V)(X:St→Ob β)(K:KT β):ze zN (yN yc xd zb L) 0 L ziV (zeN z A C D) (yH zjm X K)=zqm yc xd zb L z A C D (fun E=>K .ret (zaK E)) (fun z A C D=>X (zeN z A C D)) (K (.exit 6) (zqI)):=by kernel_rfl
def ziy{β:Type}(yc:zt)(xd:yE)(zb:zn)(L:Nat)(A:Int)(z:Int→Ob β):Ob β:=z A
theorem zph{β:Type}(yc:zt)(xd:yE)(zb:zn)(L:Nat)(z:Int)(X:St→Ob β)(K:KT β):(xi 4 (xi 3 (yv (ze zN (yN yc xd zb L) 0 L zhw) (yH zca X K)))) .ret (zaK z)=ziy yc xd zb L z (fun z=>K .ret (zaK z)):=by kernel_rfl
def ziO{β:Type}(yc:zt)(xd:yE)(zb:zn)(L:Nat)(A C:Int)(E:List V)(z:Int→Int→List V→Ob β):Ob β:=lt (QG .i64 ((C:Int)+(1:Int))) fun D=>z A D E
theorem zqe{β:Type}(yc:zt)(xd:yE)(zb:zn)(L:Nat)(z A:Int)(C:List V)(X:St→Ob β)(K:KT β):(xi 4 (xi 3 (yv (ze zN (yN yc xd zb L) 0 L zhw) (yH zca X K)))) (.exit 4) (zq6 z A C)=ziO yc xd zb L z A C (fun z A C=>X (zch z A C)):=by kernel_rfl
def zm8{β:Type}(yc:zt)(xd:yE)(zb:zn)(L:Nat)(A:Int)(z:Int→Ob β):Ob β:=z A
theorem zwA{β:Type}(yc:zt)(xd:yE)(zb:zn)(L:Nat)(z:Int)(k:KK β):(xi 6 (yv (ze zN (yN yc xd zb L) 0 L zkW) (zD 0 (CF.res cf_ref09_Check) k))) .ret (zaK z)=zm8 yc xd zb L z (fun A=>k (Qe A) []):=by kernel_rfl
def zoj{β:Type}(yc:zt)(xd:yE)(zb:zn)(L:Nat)(z:Int→Ob β):Ob β:=z (0:Int)
theorem zyh{β:Type}(yc:zt)(xd:yE)(zb:zn)(L:Nat)(k:KK β):(xi 6 (yv (ze zN (yN yc xd zb L) 0 L zkW) (zD 0 (CF.res cf_ref09_Check) k))) (.exit 6) (zqI)=zoj yc xd zb L (fun z=>k (Qe z) []):=by kernel_rfl
def zoh{β:Type}(yc:zt)(xd:yE)(zb:zn)(L:Nat)(A:Int)(z:Int→Ob β):Ob β:=z A
theorem zw7{β:Type}(yc:zt)(xd:yE)(zb:zn)(L:Nat)(z:Int)(k:KK β):(xi 2 (yv (ze zN (yN yc xd zb L) 0 L zid) (zD 0 (CF.res cf_ref09_Check) k))) .ret (zaK z)=zoh yc xd zb L z (fun A=>k (Qe A) []):=by kernel_rfl
def zmi{β:Type}(yc:zt)(xd:yE)(zb:zn)(L:Nat)(z:Int→Ob β)(A:Int→List V→Ob β):Nat→Int→Ls→Int→Int→List V→Ob β
 | 0,_,_,_,_,_=>none
 | n+1,F,C,D,E,G=>zuI yc xd zb L F C D E G z (fun F C D E G=>zmi yc xd zb L z A n F C D E G) A
theorem zql{β:Type}(yc:zt)(xd:yE)(zb:zn)(L:Nat)(K:KT β):∀ (n:Nat) (z:Int) (C:Ls) (D E:Int) (A:List V),zx (ze zN (yN yc xd zb L) 0 L zlw) zmI n (zf5 z C D E A) K=zmi yc xd zb L (fun F=>K .ret (zaK F)) (fun z A=>K (.exit 0) (zkQ z A)) n z C D E A:=by
 intro n; induction n <;> intros
 ·rfl
 ·exact (zFg ..).trans (by simp only [*]; rfl)
def zfw{β:Type}(yc:zt)(xd:yE)(zb:zn)(L:Nat)(z:Int→Ob β)(A:Int→Int→List V→Ob β):Nat→Int→Int→Int→Int→List V→Ob β
 | 0,_,_,_,_,_=>none
 | n+1,E,F,C,D,G=>zj9 yc xd zb L E F C D G z (fun E F C D G=>zfw yc xd zb L z A n E F C D G) A
theorem ziB{β:Type}(yc:zt)(xd:yE)(zb:zn)(L:Nat)(K:KT β):∀ (n:Nat) (D E z A:Int) (C:List V),zx (ze zN (yN yc xd zb L) 0 L zfa) zfH n (zcz D E z A C) K=zfw yc xd zb L (fun F=>K .ret (zaK F)) (fun z A C=>K (.exit 4) (zq6 z A C)) n D E z A C:=by
 intro n; induction n <;> intros
 ·rfl
 ·exact (zrH ..).trans (by simp only [*]; rfl)
def zjv{β:Type}(yc:zt)(xd:yE)(zb:zn)(L:Nat)(A C:Int)(D:List V)(F:List V→Ob β)(E:Int→Ob β)(z:Int→Int→List V→Ob β):Ob β:=zsb yc xd zb L A C D (fun G H A C D=>zfw yc xd zb L (fun I=>ziy yc xd zb L I E) (fun A C D=>ziO yc xd zb L A C D z) L G H A C D) F
theorem zAl{β:Type}(yc:zt)(xd:yE)(zb:zn)(L:Nat)(z A:Int)(C:List V)(X:St→Ob β)(K:KT β):ze zN (yN yc xd zb L) 0 L zf1 (zch z A C) (yH zca X K)=zjv yc xd zb L z A C (fun C=>K (.exit 2) (zhU C)) (fun D=>K .ret (zaK D)) (fun z A C=>X (zch z A C)):=by
 refine (zCw yc xd zb L z A C X K).trans ?_
 unfold zjv
 first
  | (simp only [ziB,zph,zqe]; done)
  | (simp only [ziB]; rfl)
def zkB{β:Type}(yc:zt)(xd:yE)(zb:zn)(L:Nat)(A:List V→Ob β)(z:Int→Ob β):Nat→Int→Int→List V→Ob β
 | 0,_,_,_=>none
 | n+1,C,D,E=>zjv yc xd zb L C D E A z (fun C D E=>zkB yc xd zb L A z n C D E)
theorem zos{β:Type}(yc:zt)(xd:yE)(zb:zn)(L:Nat)(K:KT β):∀ (n:Nat) (A C:Int) (z:List V),zx (ze zN (yN yc xd zb L) 0 L zf1) zca n (zch A C z) K=zkB yc xd zb L (fun z=>K (.exit 2) (zhU z)) (fun D=>K .ret (zaK D)) n A C z:=by
 intro n; induction n <;> intros
 ·rfl
 ·exact (zAl ..).trans (by simp only [*]; rfl)
def zjs{β:Type}(yc:zt)(xd:yE)(zb:zn)(L:Nat)(z:Int→Ob β)(A:Ob β):Nat→Ls→Int→Int→List V→Ob β
 | 0,_,_,_,_=>none
 | n+1,C,D,E,F=>zqm yc xd zb L C D E F z (fun C D E F=>zjs yc xd zb L z A n C D E F) A
theorem zm2{β:Type}(yc:zt)(xd:yE)(zb:zn)(L:Nat)(K:KT β):∀ (n:Nat) (z:Ls) (A C:Int) (D:List V),zx (ze zN (yN yc xd zb L) 0 L ziV) zjm n (zeN z A C D) K=zjs yc xd zb L (fun E=>K .ret (zaK E)) (K (.exit 6) (zqI)) n z A C D:=by
 intro n; induction n <;> intros
 ·rfl
 ·exact (zAY ..).trans (by simp only [*]; rfl)
def zie{β:Type}(yc:zt)(xd:yE)(zb:zn)(L:Nat)(A:List V)(z:Int→Ob β):Ob β:=zpG yc xd zb L A (fun C D E A=>zjs yc xd zb L (fun F=>zm8 yc xd zb L F z) (zoj yc xd zb L z) L C D E A)
theorem zxq{β:Type}(yc:zt)(xd:yE)(zb:zn)(L:Nat)(z:List V)(k:KK β):(xi 2 (yv (ze zN (yN yc xd zb L) 0 L zid) (zD 0 (CF.res cf_ref09_Check) k))) (.exit 2) (zhU z)=zie yc xd zb L z (fun A=>k (Qe A) []):=by
 refine (zy6 yc xd zb L z k).trans ?_
 unfold zie
 first
  | (simp only [zm2,zwA,zyh]; done)
  | (simp only [zm2]; rfl)
def zjq{β:Type}(yc:zt)(xd:yE)(zb:zn)(L:Nat)(E:Int)(A:List V)(z:Int→Ob β):Ob β:=zrV yc xd zb L E A z (fun C D A=>zkB yc xd zb L (fun A=>zie yc xd zb L A z) (fun F=>zoh yc xd zb L F z) L C D A)
theorem zzZ{β:Type}(yc:zt)(xd:yE)(zb:zn)(L:Nat)(z:Int)(A:List V)(k:KK β):(xi 0 (yv (ze zN (yN yc xd zb L) 0 L zjU) (zD 0 (CF.res cf_ref09_Check) k))) (.exit 0) (zkQ z A)=zjq yc xd zb L z A (fun C=>k (Qe C) []):=by
 refine (zCo yc xd zb L z A k).trans ?_
 unfold zjq
 first
  | (simp only [zos,zxq,zw7]; done)
  | (simp only [zos]; rfl)
def zAI{β:Type}(yc:zt)(xd:yE)(zb:zn)(L:Nat)(G:List V)(z:Int→Ob β):Ob β:=zNT yc xd zb L G z (fun A D E F C=>zmi yc xd zb L (fun H=>zqr yc xd zb L H z) (fun A C=>zjq yc xd zb L A C z) L A D E F C)
theorem zTx{β:Type}(yc:zt)(xd:yE)(zb:zn)(L:Nat)(z:List V)(k:KK β):zh zN (yN yc xd zb L) L cf_ref09_Check [(V.agg z)] [] k=zAI yc xd zb L z (fun z=>k (Qe z) []):=by
 refine (zTr yc xd zb L z k).trans ?_
 unfold zAI
 first
  | (simp only [zql,zAy,zzZ]; done)
  | (simp only [zql]; rfl)
abbrev zaF:=∀ (β:Type),Nat→List V→(Int→Ob β)→Ob β
def xE:zaF:=fun β=>@zAI β yc xd zb
def zm6(xE:zaF)(L:Nat):Dk:=dA AG fun z=>d0 fun β k=>xE β L z (fun z=>k (Qe z) [])
theorem zS9(L:Nat):DK (zm6 xE L) (fun _=>zh zN (yN yc xd zb L) L cf_ref09_Check):=xv zak fun z=>yK fun _ k=>zTx yc xd zb L z k
def zNe:Hint:=⟨[(0,0)],[],[none,none,none],[],[],false,false,[]⟩
def z3p:CF:=cfD zNe 25
def yb0:Nat→Sh:=zj []
def ybZ(yc:zt)(yd:yD)(xJ:zcQ)(L:Nat):CBC:=(xe 454 (ziC xJ L) (xe 149 (zeS yd L) (xe 148 (zeC yc L) noC)))
def z5K{β:Type}(yc:zt)(yd:yD)(xJ:zcQ)(L:Nat)(A:List V)(z:List V→Ob β):Ob β:=chk (0+4≤(XK A)) (yc β L (Xv V.dem (XL 4 A)) (fun F=>ifb (!F) (lt (We 32 (Qa (0:Int))) fun C=>chk (0=0∧(XK C)=32∧32≠0) (z C)) (chk (0+4≤(XK A)) (yd β L (Xv V.dem (XL 4 A)) false (fun G=>xJ β L G (fun D=>chk ((XK D)=32∧0+32≤32) (lt (zk (We 32 (Qa (0:Int))) 0 D) fun E=>chk (0=0∧(XK E)=32∧32≠0) (z E))))))))
abbrev zbG:=∀ (β:Type),Nat→List V→(List V→Ob β)→Ob β
def zR:zbG:=fun β=>@z5K β yc yd xJ
def z5Q(zR:zbG)(L:Nat):Dk:=dA AG fun z=>d0 fun β k=>zR β L z (fun z=>k (V.agg z) [])
def zDJ:Hint:=⟨[],[],[none,some ((bl 393 19),(bl 524239 19)),none,some ((bl 0 19),(bl 524231 19)),none,none,some ((bl 16 19),(bl 524247 19)),none],[],[],false,false,[]⟩
def cf_ref11_place:CF:=cfD zDJ 48
def zpv:CC:=xz [1,0,1,0,0] cf_ref11_place.body
def zwa:CC:=xz [1,1] cf_ref11_place.body
def zcP:Nat→Sh:=zj []
def zc2(L:Nat):CBC:=noC
def zq9:St→St:=yM 0 (bl 393 19) (bl 524239 19)
def zip(z:Ls)(A C:Int)(D:List V):St:=⟨((V.sl 32 z)::(jn 2 ((V.ptr 3 0)::(jn 3 ((Qe A)::((Qe C)::(jn 10 []))))))),(gn 3 ((.live true D)::(gn 15 [])))⟩
def zoO(z:Int):St:=⟨(jn 4 ((Qe z)::(jn 14 []))),(gn 19 [])⟩
def zry:St:=⟨(jn 19 []),(gn 19 [])⟩
def zNa{β:Type}(L:Nat)(A:Ls)(C:List V)(z:Ls→Int→Int→List V→Ob β):Ob β:=z A ((XK A:Nat):Int) (0:Int) C
theorem zTH{β:Type}(L:Nat)(z:Ls)(A:List V)(k:KK β):zh zcP (zc2 L) L cf_ref11_place [(V.sl 32 z),(V.agg A)] [] k=zNa L z A (fun z C D E=>zx (ze zcP (zc2 L) 0 L zpv) zq9 L (zip z C D E) (xi 0 (yv (ze zcP (zc2 L) 0 L zwa) (zD 0 (CF.res cf_ref11_place) k)))):=by kernel_rfl
def zBh{β:Type}(L:Nat)(F:Ls)(G A:Int)(D:List V)(C:Int→Ob β)(z:Ls→Int→Int→List V→Ob β)(E:Ob β):Ob β:=ifb (decide (A<G)) (idx F A fun H=>chk (0+32≤(XK D)) (eqC 32 (XL 32 H) (XL 32 D) fun I=>ifb I (C A) (lt (QG .i64 ((A:Int)+(1:Int))) fun J=>z F G J D))) (E)
theorem zLx{β:Type}(L:Nat)(z:Ls)(A C:Int)(D:List V)(X:St→Ob β)(K:KT β):ze zcP (zc2 L) 0 L zpv (zip z A C D) (yH zq9 X K)=zBh L z A C D (fun E=>K .ret (zoO E)) (fun z A C D=>X (zip z A C D)) (K (.exit 0) (zry)):=by kernel_rfl
def zuT{β:Type}(L:Nat)(A:Int)(z:Int→Ob β):Ob β:=z A
theorem zFj{β:Type}(L:Nat)(z:Int)(k:KK β):(xi 0 (yv (ze zcP (zc2 L) 0 L zwa) (zD 0 (CF.res cf_ref11_place) k))) .ret (zoO z)=zuT L z (fun A=>k (Qe A) []):=by kernel_rfl
def zwJ{β:Type}(L:Nat)(z:Int→Ob β):Ob β:=z (-1:Int)
theorem zI6{β:Type}(L:Nat)(k:KK β):(xi 0 (yv (ze zcP (zc2 L) 0 L zwa) (zD 0 (CF.res cf_ref11_place) k))) (.exit 0) (zry)=zwJ L (fun z=>k (Qe z) []):=by kernel_rfl
def zrw{β:Type}(L:Nat)(z:Int→Ob β)(A:Ob β):Nat→Ls→Int→Int→List V→Ob β
 | 0,_,_,_,_=>none
 | n+1,C,D,E,F=>zBh L C D E F z (fun C D E F=>zrw L z A n C D E F) A
theorem zuw{β:Type}(L:Nat)(K:KT β):∀ (n:Nat) (z:Ls) (A C:Int) (D:List V),zx (ze zcP (zc2 L) 0 L zpv) zq9 n (zip z A C D) K=zrw L (fun E=>K .ret (zoO E)) (K (.exit 0) (zry)) n z A C D:=by
 intro n; induction n <;> intros
 ·rfl
 ·exact (zLx ..).trans (by simp only [*]; rfl)
def zz6{β:Type}(L:Nat)(A:Ls)(C:List V)(z:Int→Ob β):Ob β:=zNa L A C (fun A D E F=>zrw L (fun G=>zuT L G z) (zwJ L z) L A D E F)
theorem zSY{β:Type}(L:Nat)(z:Ls)(A:List V)(k:KK β):zh zcP (zc2 L) L cf_ref11_place [(V.sl 32 z),(V.agg A)] [] k=zz6 L z A (fun z=>k (Qe z) []):=by
 refine (zTH L z A k).trans ?_
 unfold zz6
 first
  | (simp only [zuw,zFj,zI6]; done)
  | (simp only [zuw]; rfl)
abbrev xG:=∀ (β:Type),Nat→Ls→List V→(Int→Ob β)→Ob β
def xg:xG:=fun β=>@zz6 β
def zmZ(xg:xG)(L:Nat):Dk:=dA (AL 32) fun z=>dA AG fun A=>d0 fun β k=>xg β L z A (fun z=>k (Qe z) [])
theorem zTn(L:Nat):DK (zmZ xg L) (fun _=>zh zcP (zc2 L) L cf_ref11_place):=xv zaZ fun z=>xv zak fun A=>yK fun _ k=>zSY L z A k
def zzk:Hint:=⟨[(0,0),(3,3),(6,2)],[],[none,some ((bl 7170 33),(bl 8320974475 33)),none,some ((bl 0 33),(bl 8320974475 33)),none,none,some ((bl 1842210 33),(bl 8321498795 33)),none,some ((bl 7170 33),(bl 8321498795 33)),none,none,some ((bl 16 33),(bl 8320974491 33)),none],[],[],false,false,[]⟩
def cf_ref11_forward:CF:=cfD zzk 49
def zgi:CC:=xz [1,0,1,0,0,1,1,0,0,1,1,0,0] cf_ref11_forward.body
def zjw:CC:=xz [1,0,1,0,0,1,1,1] cf_ref11_forward.body
def zih:CC:=xz [1,0,1,0,0] cf_ref11_forward.body
def zqO:CC:=xz [1,1] cf_ref11_forward.body
def zaq:Nat→Sh:=zj [(10,(.sl 4)),(18,(.sl 35))]
def zar(xg:xG)(L:Nat):CBC:=(xe 556 (zmZ xg L) noC)
def zc4:St→St:=yM 0 (bl 7170 33) (bl 8320974475 33)
def zg2:St→St:=yM 0 (bl 1842210 33) (bl 8321498795 33)
def zc1(D z:Ls)(A C:Int):St:=⟨(jn 1 ((V.sl 32 D)::(jn 8 ((V.sl 4 z)::((Qe A)::((Qe C)::(jn 20 []))))))),(gn 33 [])⟩
def zda(G:Ls)(H:Int)(z:Ls)(A C:Int)(D:Ls)(E F:Int):St:=⟨(jn 1 ((V.sl 32 G)::(jn 3 ((Qe H)::(jn 4 ((V.sl 4 z)::((Qe A)::((Qe C)::(jn 5 ((V.sl 35 D)::((Qe E)::((Qe F)::(jn 12 []))))))))))))),(gn 33 [])⟩
def zjb:St:=⟨(jn 33 []),(gn 33 [])⟩
def zcJ(z:Bool):St:=⟨(jn 4 ((V.sc (.bool z))::(jn 28 []))),(gn 33 [])⟩
def zn2(D z:Ls)(A C:Int):St:=⟨(jn 1 ((V.sl 32 D)::(jn 8 ((V.sl 4 z)::((Qe A)::((Qe C)::(jn 20 []))))))),(gn 33 [])⟩
abbrev zlv(β:Type):Type:=Ls→Int→Ls→Int→Int→Ls→Int→Int→Ob β
def zHi{β:Type}(xg:xG)(L:Nat)(C:List V)(D:Ls)(z:Ls→Ls→Int→Int→Ob β):Ob β:=cLd 4 C 68 fun A=>z D A ((XK A:Nat):Int) (0:Int)
theorem zPt{β:Type}(xg:xG)(L:Nat)(A:List V)(z:Ls)(k:KK β):zh zaq (zar xg L) L cf_ref11_forward [(V.agg A),(V.sl 32 z)] [] k=zHi xg L A z (fun z C D E=>zx (ze zaq (zar xg L) 0 L zih) zc4 L (zc1 z C D E) (xi 0 (yv (ze zaq (zar xg L) 0 L zqO) (zD 0 (CF.res cf_ref11_forward) k)))):=by kernel_rfl
def zwO{β:Type}(xg:xG)(L:Nat)(H C:Ls)(D A:Int)(z:zlv β)(E:Ob β):Ob β:=ifb (decide (A<D)) (idx C A fun F=>chk ((XK (XL 4 F))=4∧0+4≤4) (lt (zk [(Qc (0:Int)),(V.gs 35 ([]:Ls)),(V.gs 2 ([]:Ls)),(Qc (0:Int))] 0 (XL 4 F)) fun I=>cLd 35 I 1 fun G=>z H A C D A G ((XK G:Nat):Int) (0:Int))) (E)
theorem zHV{β:Type}(xg:xG)(L:Nat)(D z:Ls)(A C:Int)(X:St→Ob β)(K:KT β):ze zaq (zar xg L) 0 L zih (zc1 D z A C) (yH zc4 X K)=zwO xg L D z A C (fun D H z A C E F G=>zx (ze zaq (zar xg L) 0 L zgi) zg2 L (zda D H z A C E F G) (xi 2 (xi 1 (yv (ze zaq (zar xg L) 0 L zjw) (yH zc4 X K))))) (K (.exit 0) (zjb)):=by kernel_rfl
def ztF{β:Type}(xg:xG)(L:Nat)(z:Bool→Ob β):Ob β:=z false
theorem zCK{β:Type}(xg:xG)(L:Nat)(k:KK β):(xi 0 (yv (ze zaq (zar xg L) 0 L zqO) (zD 0 (CF.res cf_ref11_forward) k))) (.exit 0) (zjb)=ztF xg L (fun z=>k (V.sc (.bool z)) []):=by kernel_rfl
def zlX{β:Type}(xg:xG)(L:Nat)(I:Ls)(M:Int)(D:Ls)(E F:Int)(G:Ls)(H A:Int)(C:Bool→Ob β)(z:zlv β)(J:Ls→Ls→Int→Int→Ob β):Ob β:=ifb (decide (A<H)) (idx G A fun N=>chk ((XK (XL 35 N))=35∧0+35≤35) (lt (zk (We 32 (Qa (0:Int))++[(Qc (0:Int)),(Qc (0:Int)),(V.gs 1 ([]:Ls))]) 0 (XL 35 N)) fun O=>chk (0+32≤(XK O)) (xg β L I (XL 32 O) (fun P=>ifb (decide (P≥M)) (C true) (lt (QG .i64 ((A:Int)+(1:Int))) fun Q=>z I M D E F G H Q))))) (J I D E F)
theorem zwi{β:Type}(xg:xG)(L:Nat)(G:Ls)(H:Int)(z:Ls)(A C:Int)(D:Ls)(E F:Int)(X:St→Ob β)(K:KT β):ze zaq (zar xg L) 0 L zgi (zda G H z A C D E F) (yH zg2 X K)=zlX xg L G H z A C D E F (fun I=>K .ret (zcJ I)) (fun G H z A C D E F=>X (zda G H z A C D E F)) (fun G z A C=>K (.exit 2) (zn2 G z A C)):=by kernel_rfl
def zjW{β:Type}(xg:xG)(L:Nat)(A:Bool)(z:Bool→Ob β):Ob β:=z A
theorem zrZ{β:Type}(xg:xG)(L:Nat)(z:Bool)(X:St→Ob β)(K:KT β):(xi 2 (xi 1 (yv (ze zaq (zar xg L) 0 L zjw) (yH zc4 X K)))) .ret (zcJ z)=zjW xg L z (fun z=>K .ret (zcJ z)):=by kernel_rfl
def zkI{β:Type}(xg:xG)(L:Nat)(E A:Ls)(C D:Int)(z:Ls→Ls→Int→Int→Ob β):Ob β:=lt (QG .i64 ((D:Int)+(1:Int))) fun F=>z E A C F
theorem zsP{β:Type}(xg:xG)(L:Nat)(D z:Ls)(A C:Int)(X:St→Ob β)(K:KT β):(xi 2 (xi 1 (yv (ze zaq (zar xg L) 0 L zjw) (yH zc4 X K)))) (.exit 2) (zn2 D z A C)=zkI xg L D z A C (fun D z A C=>X (zc1 D z A C)):=by kernel_rfl
def zse{β:Type}(xg:xG)(L:Nat)(A:Bool)(z:Bool→Ob β):Ob β:=z A
theorem zCe{β:Type}(xg:xG)(L:Nat)(z:Bool)(k:KK β):(xi 0 (yv (ze zaq (zar xg L) 0 L zqO) (zD 0 (CF.res cf_ref11_forward) k))) .ret (zcJ z)=zse xg L z (fun A=>k (V.sc (.bool A)) []):=by kernel_rfl
def zgT{β:Type}(xg:xG)(L:Nat)(z:Bool→Ob β)(A:Ls→Ls→Int→Int→Ob β):Nat→Ls→Int→Ls→Int→Int→Ls→Int→Int→Ob β
 | 0,_,_,_,_,_,_,_,_=>none
 | n+1,I,J,C,D,E,F,G,H=>zlX xg L I J C D E F G H z (fun I J C D E F G H=>zgT xg L z A n I J C D E F G H) A
theorem zjI{β:Type}(xg:xG)(L:Nat)(K:KT β):∀ (n:Nat) (D:Ls) (H:Int) (z:Ls) (A C:Int) (E:Ls) (F G:Int),zx (ze zaq (zar xg L) 0 L zgi) zg2 n (zda D H z A C E F G) K=zgT xg L (fun I=>K .ret (zcJ I)) (fun D z A C=>K (.exit 2) (zn2 D z A C)) n D H z A C E F G:=by
 intro n; induction n <;> intros
 ·rfl
 ·exact (zwi ..).trans (by simp only [*]; rfl)
def zmU{β:Type}(xg:xG)(L:Nat)(E z:Ls)(A C:Int)(G:Ob β)(F:Bool→Ob β)(D:Ls→Ls→Int→Int→Ob β):Ob β:=zwO xg L E z A C (fun E M z A C H I J=>zgT xg L (fun N=>zjW xg L N F) (fun E z A C=>zkI xg L E z A C D) L E M z A C H I J) G
theorem zFC{β:Type}(xg:xG)(L:Nat)(D z:Ls)(A C:Int)(X:St→Ob β)(K:KT β):ze zaq (zar xg L) 0 L zih (zc1 D z A C) (yH zc4 X K)=zmU xg L D z A C (K (.exit 0) (zjb)) (fun E=>K .ret (zcJ E)) (fun D z A C=>X (zc1 D z A C)):=by
 refine (zHV xg L D z A C X K).trans ?_
 unfold zmU
 first
  | (simp only [zjI,zrZ,zsP]; done)
  | (simp only [zjI]; rfl)
def znX{β:Type}(xg:xG)(L:Nat)(A:Ob β)(z:Bool→Ob β):Nat→Ls→Ls→Int→Int→Ob β
 | 0,_,_,_,_=>none
 | n+1,F,C,D,E=>zmU xg L F C D E A z (fun F C D E=>znX xg L A z n F C D E)
theorem zr2{β:Type}(xg:xG)(L:Nat)(K:KT β):∀ (n:Nat) (D z:Ls) (A C:Int),zx (ze zaq (zar xg L) 0 L zih) zc4 n (zc1 D z A C) K=znX xg L (K (.exit 0) (zjb)) (fun E=>K .ret (zcJ E)) n D z A C:=by
 intro n; induction n <;> intros
 ·rfl
 ·exact (zFC ..).trans (by simp only [*]; rfl)
def zuO{β:Type}(xg:xG)(L:Nat)(F:List V)(A:Ls)(z:Bool→Ob β):Ob β:=zHi xg L F A (fun A C D E=>znX xg L (ztF xg L z) (fun G=>zse xg L G z) L A C D E)
theorem zQv{β:Type}(xg:xG)(L:Nat)(z:List V)(A:Ls)(k:KK β):zh zaq (zar xg L) L cf_ref11_forward [(V.agg z),(V.sl 32 A)] [] k=zuO xg L z A (fun z=>k (V.sc (.bool z)) []):=by
 refine (zPt xg L z A k).trans ?_
 unfold zuO
 first
  | (simp only [zr2,zCK,zCe]; done)
  | (simp only [zr2]; rfl)
abbrev zaj:=∀ (β:Type),Nat→List V→Ls→(Bool→Ob β)→Ob β
def zA:zaj:=fun β=>@zuO β xg
def zn9(zA:zaj)(L:Nat):Dk:=dA AG fun z=>dA (AL 32) fun A=>d0 fun β k=>zA β L z A (fun z=>k (V.sc (.bool z)) [])
theorem zOw(L:Nat):DK (zn9 zA L) (fun _=>zh zaq (zar xg L) L cf_ref11_forward):=xv zak fun z=>xv zaZ fun A=>yK fun _ k=>zQv xg L z A k
def zDs:Hint:=⟨[(0,0),(1,0),(4,2),(7,2),(14,0),(14,5)],[],[none,some ((bl 14344 42),(bl 3573378710873 42)),none,some ((bl 0 42),(bl 3573378710865 42)),none,none,some ((bl 1849352 42),(bl 3573379235161 42)),none,some ((bl 14344 42),(bl 3573379235161 42)),none,none,some ((bl 119289992 42),(bl 4398046510553 42)),none,some ((bl 1849480 42),(bl 4398046510553 42)),none,none,some ((bl 4 42),(bl 3573378710869 42)),none],[],[],false,false,[]⟩
def cf_ref11_twice:CF:=cfD zDs 50
def zdC:CC:=xz [1,1,0,1,0,0,1,1,0,0,1,1,0,0,1,1,0,0,1,0,1,0,0] cf_ref11_twice.body
def zey:CC:=xz [1,1,0,1,0,0,1,1,0,0,1,1,0,0,1,1,0,0,1,1] cf_ref11_twice.body
def zfp:CC:=xz [1,1,0,1,0,0,1,1,0,0,1,1,0,0,1,1,1] cf_ref11_twice.body
def zei:CC:=xz [1,1,0,1,0,0,1,1,0,0,1,1,0,0] cf_ref11_twice.body
def zky:CC:=xz [1,1,0,1,0,0,1,1,1] cf_ref11_twice.body
def zi4:CC:=xz [1,1,0,1,0,0] cf_ref11_twice.body
def zsI:CC:=xz [1,1,1] cf_ref11_twice.body
def zU:Nat→Sh:=zj [(11,(.sl 4)),(18,(.sl 35))]
def xU(L:Nat):CBC:=noC
def zdG:St→St:=yM 0 (bl 14344 42) (bl 3573378710873 42)
def zbt:St→St:=yM 0 (bl 1849352 42) (bl 3573379235161 42)
def zdZ:St→St:=yM 0 (bl 119289992 42) (bl 4398046510553 42)
def zdt(D z:Ls)(A C:Int):St:=⟨(jn 3 ((V.gs 33 D)::(jn 7 ((V.sl 4 z)::((Qe A)::((Qe C)::(jn 28 []))))))),(gn 42 [])⟩
def zbz(G z:Ls)(A C:Int)(D:Ls)(E F:Int):St:=⟨(jn 3 ((V.gs 33 G)::(jn 7 ((V.sl 4 z)::((Qe A)::((Qe C)::(jn 4 ((V.sl 35 D)::((Qe E)::((Qe F)::(jn 21 []))))))))))),(gn 42 [])⟩
def zkO:St:=⟨(jn 42 []),(gn 42 [])⟩
def zbW(J z:Ls)(A C:Int)(D:Ls)(E F:Int)(G:Ls)(H I:Int)(M:List V):St:=⟨(jn 3 ((V.gs 33 J)::(jn 3 ((V.ptr 7 0)::(jn 3 ((V.sl 4 z)::((Qe A)::((Qe C)::(jn 4 ((V.sl 35 D)::((Qe E)::((Qe F)::(jn 3 ((V.sl 33 G)::((Qe H)::((Qe I)::(jn 15 []))))))))))))))))),(gn 7 ((.live true M)::(gn 34 [])))⟩
def zkT(D z:Ls)(A C:Int):St:=⟨(jn 3 ((V.gs 33 D)::(jn 7 ((V.sl 4 z)::((Qe A)::((Qe C)::(jn 28 []))))))),(gn 42 [])⟩
def zbe(z:Bool):St:=⟨(jn 2 ((V.sc (.bool z))::(jn 39 []))),(gn 42 [])⟩
def zra(G z:Ls)(A C:Int)(D:Ls)(E F:Int)(H:List V):St:=⟨(jn 3 ((V.gs 33 G)::(jn 3 ((V.ptr 7 0)::(jn 3 ((V.sl 4 z)::((Qe A)::((Qe C)::(jn 4 ((V.sl 35 D)::((Qe E)::((Qe F)::(jn 21 []))))))))))))),(gn 7 ((.live true H)::(gn 34 [])))⟩
abbrev zhd(β:Type):Type:=Ls→Ls→Int→Int→Ls→Int→Int→Ob β
abbrev zgS(β:Type):Type:=Ls→Ls→Int→Int→Ls→Int→Int→Ls→Int→Int→List V→Ob β
abbrev zGx(β:Type):Type:=Ls→Ls→Int→Int→Ls→Int→Int→List V→Ob β
def zNC{β:Type}(L:Nat)(C:List V)(z:Ls→Ls→Int→Int→Ob β):Ob β:=cLd 4 C 68 fun A=>z ([]:Ls) A ((XK A:Nat):Int) (0:Int)
theorem zT0{β:Type}(L:Nat)(z:List V)(k:KK β):zh zU (xU L) L cf_ref11_twice [(V.agg z)] [] k=zNC L z (fun E A C D=>zx (ze zU (xU L) 0 L zi4) zdG L (zdt E A C D) (xi 0 (yv (ze zU (xU L) 0 L zsI) (zD 0 (CF.res cf_ref11_twice) k)))):=by kernel_rfl
def zyJ{β:Type}(L:Nat)(H C:Ls)(D A:Int)(z:zhd β)(E:Ob β):Ob β:=ifb (decide (A<D)) (idx C A fun F=>chk ((XK (XL 4 F))=4∧0+4≤4) (lt (zk [(Qc (0:Int)),(V.gs 35 ([]:Ls)),(V.gs 2 ([]:Ls)),(Qc (0:Int))] 0 (XL 4 F)) fun I=>cLd 35 I 1 fun G=>z H C D A G ((XK G:Nat):Int) (0:Int))) (E)
theorem zKr{β:Type}(L:Nat)(D z:Ls)(A C:Int)(X:St→Ob β)(K:KT β):ze zU (xU L) 0 L zi4 (zdt D z A C) (yH zdG X K)=zyJ L D z A C (fun D z A C E F G=>zx (ze zU (xU L) 0 L zei) zbt L (zbz D z A C E F G) (xi 2 (xi 1 (yv (ze zU (xU L) 0 L zky) (yH zdG X K))))) (K (.exit 0) (zkO)):=by kernel_rfl
def zuo{β:Type}(L:Nat)(z:Bool→Ob β):Ob β:=z false
theorem zFk{β:Type}(L:Nat)(k:KK β):(xi 0 (yv (ze zU (xU L) 0 L zsI) (zD 0 (CF.res cf_ref11_twice) k))) (.exit 0) (zkO)=zuo L (fun z=>k (V.sc (.bool z)) []):=by kernel_rfl
def zm1{β:Type}(L:Nat)(C D:Ls)(E F:Int)(G:Ls)(H A:Int)(z:zgS β)(I:Ls→Ls→Int→Int→Ob β):Ob β:=ifb (decide (A<H)) (idx G A fun J=>chk ((XK (XL 35 J))=35∧0+35≤35) (lt (zk (We 32 (Qa (0:Int))++[(Qc (0:Int)),(Qc (0:Int)),(V.gs 1 ([]:Ls))]) 0 (XL 35 J)) fun M=>z C D E F G H A C ((XK C:Nat):Int) (0:Int) M)) (I C D E F)
theorem zwu{β:Type}(L:Nat)(G z:Ls)(A C:Int)(D:Ls)(E F:Int)(X:St→Ob β)(K:KT β):ze zU (xU L) 0 L zei (zbz G z A C D E F) (yH zbt X K)=zm1 L G z A C D E F (fun G z A C D E F H I J M=>zx (ze zU (xU L) 0 L zdC) zdZ L (zbW G z A C D E F H I J M) (xi 4 (yv (ze zU (xU L) 0 L zey) (xi 3 (yv (ze zU (xU L) 0 L zfp) (yH zbt X K)))))) (fun G z A C=>K (.exit 2) (zkT G z A C)):=by kernel_rfl
def zln{β:Type}(L:Nat)(E A:Ls)(C D:Int)(z:Ls→Ls→Int→Int→Ob β):Ob β:=lt (QG .i64 ((D:Int)+(1:Int))) fun F=>z E A C F
theorem zt1{β:Type}(L:Nat)(D z:Ls)(A C:Int)(X:St→Ob β)(K:KT β):(xi 2 (xi 1 (yv (ze zU (xU L) 0 L zky) (yH zdG X K)))) (.exit 2) (zkT D z A C)=zln L D z A C (fun D z A C=>X (zdt D z A C)):=by kernel_rfl
def zhq{β:Type}(L:Nat)(P E:Ls)(F G:Int)(H:Ls)(I J:Int)(M:Ls)(N A:Int)(C:List V)(D:Bool→Ob β)(z:zgS β)(O:zGx β):Ob β:=ifb (decide (A<N)) (idx M A fun Q=>chk ((XK (XL 33 Q))=33∧0+33≤33) (lt (zk (We 32 (Qa (0:Int))++[(Qc (0:Int))]) 0 (XL 33 Q)) fun R=>chk (0+33≤(XK R)) (chk (0+33≤(XK C)) (eqC 33 (XL 33 R) (XL 33 C) fun T=>ifb T (D true) (lt (QG .i64 ((A:Int)+(1:Int))) fun S=>z P E F G H I J M N S C))))) (O P E F G H I J C)
theorem znj{β:Type}(L:Nat)(J z:Ls)(A C:Int)(D:Ls)(E F:Int)(G:Ls)(H I:Int)(M:List V)(X:St→Ob β)(K:KT β):ze zU (xU L) 0 L zdC (zbW J z A C D E F G H I M) (yH zdZ X K)=zhq L J z A C D E F G H I M (fun N=>K .ret (zbe N)) (fun J z A C D E F G H I M=>X (zbW J z A C D E F G H I M)) (fun J z A C D E F M=>K (.exit 4) (zra J z A C D E F M)):=by kernel_rfl
def zge{β:Type}(L:Nat)(A:Bool)(z:Bool→Ob β):Ob β:=z A
theorem zlO{β:Type}(L:Nat)(z:Bool)(X:St→Ob β)(K:KT β):(xi 4 (yv (ze zU (xU L) 0 L zey) (xi 3 (yv (ze zU (xU L) 0 L zfp) (yH zbt X K))))) .ret (zbe z)=zge L z (fun z=>K .ret (zbe z)):=by kernel_rfl
def zgz{β:Type}(L:Nat)(C D:Ls)(E F:Int)(G:Ls)(H I:Int)(A:List V)(z:zhd β):Ob β:=chk (0+33≤(XK A)) (chk ((XK (XL 33 A))=33∧0+33≤33) (chk ((XK C+XK (yl 33 1 (zk (We 32 (Qa (0:Int))++[(Qc (0:Int))]) 0 (XL 33 A))))*36≤xm∧XK C+XK (yl 33 1 (zk (We 32 (Qa (0:Int))++[(Qc (0:Int))]) 0 (XL 33 A)))≤xm) (lt (C++(yl 33 1 (zk (We 32 (Qa (0:Int))++[(Qc (0:Int))]) 0 (XL 33 A)))) fun J=>lt (QG .i64 ((I:Int)+(1:Int))) fun M=>z J D E F G H M)))
theorem zms{β:Type}(L:Nat)(G z:Ls)(A C:Int)(D:Ls)(E F:Int)(H:List V)(X:St→Ob β)(K:KT β):(xi 4 (yv (ze zU (xU L) 0 L zey) (xi 3 (yv (ze zU (xU L) 0 L zfp) (yH zbt X K))))) (.exit 4) (zra G z A C D E F H)=zgz L G z A C D E F H (fun G z A C D E F=>X (zbz G z A C D E F)):=by kernel_rfl
def zkH{β:Type}(L:Nat)(A:Bool)(z:Bool→Ob β):Ob β:=z A
theorem ztd{β:Type}(L:Nat)(z:Bool)(X:St→Ob β)(K:KT β):(xi 2 (xi 1 (yv (ze zU (xU L) 0 L zky) (yH zdG X K)))) .ret (zbe z)=zkH L z (fun z=>K .ret (zbe z)):=by kernel_rfl
def ztR{β:Type}(L:Nat)(A:Bool)(z:Bool→Ob β):Ob β:=z A
theorem zEx{β:Type}(L:Nat)(z:Bool)(k:KK β):(xi 0 (yv (ze zU (xU L) 0 L zsI) (zD 0 (CF.res cf_ref11_twice) k))) .ret (zbe z)=ztR L z (fun A=>k (V.sc (.bool A)) []):=by kernel_rfl
def zd9{β:Type}(L:Nat)(z:Bool→Ob β)(A:zGx β):Nat→Ls→Ls→Int→Int→Ls→Int→Int→Ls→Int→Int→List V→Ob β
 | 0,_,_,_,_,_,_,_,_,_,_,_=>none
 | n+1,N,C,D,E,F,G,H,I,J,M,O=>zhq L N C D E F G H I J M O z (fun N C D E F G H I J M O=>zd9 L z A n N C D E F G H I J M O) A
theorem zgg{β:Type}(L:Nat)(K:KT β):∀ (n:Nat) (G z:Ls) (A C:Int) (D:Ls) (E F:Int) (I:Ls) (J M:Int) (H:List V),zx (ze zU (xU L) 0 L zdC) zdZ n (zbW G z A C D E F I J M H) K=zd9 L (fun N=>K .ret (zbe N)) (fun G z A C D E F H=>K (.exit 4) (zra G z A C D E F H)) n G z A C D E F I J M H:=by
 intro n; induction n <;> intros
 ·rfl
 ·exact (znj ..).trans (by simp only [*]; rfl)
def zgX{β:Type}(L:Nat)(H A:Ls)(C D:Int)(E:Ls)(F G:Int)(J:Ls→Ls→Int→Int→Ob β)(I:Bool→Ob β)(z:zhd β):Ob β:=zm1 L H A C D E F G (fun H A C D E F G N O P M=>zd9 L (fun Q=>zge L Q I) (fun H A C D E F G M=>zgz L H A C D E F G M z) L H A C D E F G N O P M) J
theorem zue{β:Type}(L:Nat)(G z:Ls)(A C:Int)(D:Ls)(E F:Int)(X:St→Ob β)(K:KT β):ze zU (xU L) 0 L zei (zbz G z A C D E F) (yH zbt X K)=zgX L G z A C D E F (fun G z A C=>K (.exit 2) (zkT G z A C)) (fun H=>K .ret (zbe H)) (fun G z A C D E F=>X (zbz G z A C D E F)):=by
 refine (zwu L G z A C D E F X K).trans ?_
 unfold zgX
 first
  | (simp only [zgg,zlO,zms]; done)
  | (simp only [zgg]; rfl)
def zhv{β:Type}(L:Nat)(A:Ls→Ls→Int→Int→Ob β)(z:Bool→Ob β):Nat→Ls→Ls→Int→Int→Ls→Int→Int→Ob β
 | 0,_,_,_,_,_,_,_=>none
 | n+1,I,C,D,E,F,G,H=>zgX L I C D E F G H A z (fun I C D E F G H=>zhv L A z n I C D E F G H)
theorem zkE{β:Type}(L:Nat)(K:KT β):∀ (n:Nat) (D z:Ls) (A C:Int) (E:Ls) (F G:Int),zx (ze zU (xU L) 0 L zei) zbt n (zbz D z A C E F G) K=zhv L (fun D z A C=>K (.exit 2) (zkT D z A C)) (fun H=>K .ret (zbe H)) n D z A C E F G:=by
 intro n; induction n <;> intros
 ·rfl
 ·exact (zue ..).trans (by simp only [*]; rfl)
def znL{β:Type}(L:Nat)(E z:Ls)(A C:Int)(G:Ob β)(D:Ls→Ls→Int→Int→Ob β)(F:Bool→Ob β):Ob β:=zyJ L E z A C (fun E z A C H I J=>zhv L (fun E z A C=>zln L E z A C D) (fun M=>zkH L M F) L E z A C H I J) G
theorem zHQ{β:Type}(L:Nat)(D z:Ls)(A C:Int)(X:St→Ob β)(K:KT β):ze zU (xU L) 0 L zi4 (zdt D z A C) (yH zdG X K)=znL L D z A C (K (.exit 0) (zkO)) (fun D z A C=>X (zdt D z A C)) (fun E=>K .ret (zbe E)):=by
 refine (zKr L D z A C X K).trans ?_
 unfold znL
 first
  | (simp only [zkE,zt1,ztd]; done)
  | (simp only [zkE]; rfl)
def zpa{β:Type}(L:Nat)(A:Ob β)(z:Bool→Ob β):Nat→Ls→Ls→Int→Int→Ob β
 | 0,_,_,_,_=>none
 | n+1,F,C,D,E=>znL L F C D E A (fun F C D E=>zpa L A z n F C D E) z
theorem ztw{β:Type}(L:Nat)(K:KT β):∀ (n:Nat) (D z:Ls) (A C:Int),zx (ze zU (xU L) 0 L zi4) zdG n (zdt D z A C) K=zpa L (K (.exit 0) (zkO)) (fun E=>K .ret (zbe E)) n D z A C:=by
 intro n; induction n <;> intros
 ·rfl
 ·exact (zHQ ..).trans (by simp only [*]; rfl)
def zzX{β:Type}(L:Nat)(E:List V)(z:Bool→Ob β):Ob β:=zNC L E (fun F A C D=>zpa L (zuo L z) (fun G=>ztR L G z) L F A C D)
theorem zS4{β:Type}(L:Nat)(z:List V)(k:KK β):zh zU (xU L) L cf_ref11_twice [(V.agg z)] [] k=zzX L z (fun z=>k (V.sc (.bool z)) []):=by
 refine (zT0 L z k).trans ?_
 unfold zzX
 first
  | (simp only [ztw,zFk,zEx]; done)
  | (simp only [ztw]; rfl)
abbrev zaE:=∀ (β:Type),Nat→List V→(Bool→Ob β)→Ob β
def xF:zaE:=fun β=>@zzX β
def zsw(xF:zaE)(L:Nat):Dk:=dA AG fun z=>d0 fun β k=>xF β L z (fun z=>k (V.sc (.bool z)) [])
theorem zTE(L:Nat):DK (zsw xF L) (fun _=>zh zU (xU L) L cf_ref11_twice):=xv zak fun z=>yK fun _ k=>zS4 L z k
end
end
end Go.Proofs.YtgmhijonllockaaGreatDoor
