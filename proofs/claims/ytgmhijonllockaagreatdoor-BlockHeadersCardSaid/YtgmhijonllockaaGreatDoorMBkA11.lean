/- Part 11 of the proof of BkA: an abstract machine over plain values, its soundness, and the functions of the program on plain values. -/
import Derived.Test.YtgmhijonllockaaGreatDoorMBkA10
namespace Go.Proofs.YtgmhijonllockaaGreatDoor
set_option maxRecDepth 100000
set_option linter.unusedVariables false
set_option linter.unusedSimpArgs false
open List renaming length->XK,take->XL,replicate->We,map->Xv
open IntKind renaming wrap->QG
open Option renaming getD->XP
section
noncomputable section
def zDx:Hint:=⟨[(4,3),(6,3),(13,3),(16,2),(17,5),(25,2),(28,2)],[],[none,some ((bl 14680073 94),(bl 19807040628566084346308848139 94)),none,some ((bl 9 94),(bl 19807040628566084346308848139 94)),none,none,some ((bl 4 94),(bl 19807040628566084346308848143 94)),none,some ((bl 15393162788873 94),(bl 19807040621647429470837377435 94)),none,some ((bl 1 94),(bl 19807040621647429470837377435 94)),none,none,some ((bl 3956042836738569 94),(bl 19807040621648555370744220571 94)),none,some ((bl 15393162788873 94),(bl 19807040621648555370744220571 94)),none,none,some ((bl 4 94),(bl 19807040621647429470837377439 94)),none,some ((bl 33056565380087516528640 94),(bl 19805831702746469769210620827 94)),none,some ((bl 0 94),(bl 19805831702746469769210620827 94)),none,none,some ((bl 4264296934031289628000256 94),(bl 19807040628566084398385327003 94)),none,some ((bl 33056565380087516528640 94),(bl 19807040628566084398385327003 94)),none,none,some ((bl 4 94),(bl 19805831702746469769210620831 94)),none],[],[],false,false,[]⟩
def cf_block_coins:CF:=cfD zDx 45
def zU6:CC:=yz [1,1,1,1,1,0,1,0,0,1,1,0,0,1,1,0,0] cf_block_coins.body
def zXM:CC:=yz [1,1,1,0,1,0,0,1,1,0,0,1,1,0,0] cf_block_coins.body
def z0x:CC:=yz [1,1,1,1,1,0,1,0,0,1,1,1] cf_block_coins.body
def z3c:CC:=yz [1,1,1,0,1,0,0,1,1,1] cf_block_coins.body
def z3G:CC:=yz [1,1,1,1,1,0,1,0,0] cf_block_coins.body
def z5H:CC:=yz [1,1,1,0,1,0,0] cf_block_coins.body
def z53:CC:=yz [1,1,0,1,0,0] cf_block_coins.body
def z56:CC:=yz [1,1,1,1,1,1] cf_block_coins.body
def z7Q:CC:=yz [1,1,1,1] cf_block_coins.body
def z8P:CC:=yz [1,1,1] cf_block_coins.body
def yap:Nat→Sh:=zj [(33,(.int .i64)),(49,(.sl 35)),(60,(.int .i64)),(79,(.sl 35)),(88,.bool)]
def yaN(xN:zbm)(L:Nat):CBC:=(xe 548 (yaP xN L) noC)
def z6K:St→St:=yM 0 (bl 14680073 94) (bl 19807040628566084346308848139 94)
def z59:St→St:=yM 0 (bl 15393162788873 94) (bl 19807040621647429470837377435 94)
def zYI:St→St:=yM 0 (bl 3956042836738569 94) (bl 19807040621648555370744220571 94)
def z4u:St→St:=yM 0 (bl 33056565380087516528640 94) (bl 19805831702746469769210620827 94)
def zWU:St→St:=yM 0 (bl 4264296934031289628000256 94) (bl 19807040628566084398385327003 94)
def z32(E z:Ls)(A C:Int)(D:Lm):St:=⟨((V.sl 4 E)::(jn 2 ((V.mp 20)::(jn 17 ((V.sl 4 z)::((Qe A)::((Qe C)::(jn 70 [])))))))),(gn 20 ((.mp D)::(gn 73 [])))⟩
def z6W(A:Int)(z:Lm):St:=⟨(jn 2 ((Qe A)::(jn 91 []))),(gn 20 ((.mp z)::(gn 73 [])))⟩
def z74(A:Ls)(z:Lm):St:=⟨((V.sl 4 A)::(jn 2 ((V.mp 20)::(jn 90 [])))),(gn 20 ((.mp z)::(gn 73 [])))⟩
def z3n(E z:Ls)(A C:Int)(D:Lm):St:=⟨((V.sl 4 E)::(jn 2 ((V.mp 20)::(jn 37 ((V.sl 4 z)::((Qe A)::((Qe C)::(jn 50 [])))))))),(gn 20 ((.mp D)::(gn 73 [])))⟩
def zWb(H:Ls)(I:Int)(z:Ls)(A C:Int)(D:Ls)(E F:Int)(G:Lm):St:=⟨((V.sl 4 H)::(jn 2 ((V.mp 20)::(jn 5 ((Qe I)::(jn 31 ((V.sl 4 z)::((Qe A)::((Qe C)::(jn 5 ((V.sl 35 D)::((Qe E)::((Qe F)::(jn 42 [])))))))))))))),(gn 20 ((.mp G)::(gn 73 [])))⟩
def z7T(A:Ls)(z:Lm):St:=⟨((V.sl 4 A)::(jn 93 [])),(gn 20 ((.mp z)::(gn 73 [])))⟩
def z1f(z:Ls)(A C:Int)(D E:Lm):St:=⟨(jn 15 ((V.mp 71)::(jn 56 ((V.sl 4 z)::((Qe A)::((Qe C)::(jn 19 []))))))),(gn 20 ((.mp D)::(gn 50 ((.mp E)::(gn 22 [])))))⟩
def z7V(E z:Ls)(A C:Int)(D:Lm):St:=⟨((V.sl 4 E)::(jn 2 ((V.mp 20)::(jn 37 ((V.sl 4 z)::((Qe A)::((Qe C)::(jn 50 [])))))))),(gn 20 ((.mp D)::(gn 73 [])))⟩
def zTX(z:Ls)(A C:Int)(D:Ls)(E F:Int)(G H:Lm):St:=⟨(jn 15 ((V.mp 71)::(jn 56 ((V.sl 4 z)::((Qe A)::((Qe C)::(jn 4 ((V.sl 35 D)::((Qe E)::((Qe F)::(jn 12 []))))))))))),(gn 20 ((.mp G)::(gn 50 ((.mp H)::(gn 22 [])))))⟩
def z7S(z A:Lm):St:=⟨(jn 94 []),(gn 20 ((.mp z)::(gn 50 ((.mp A)::(gn 22 [])))))⟩
def z45(C:Int)(z A:Lm):St:=⟨(jn 2 ((Qe C)::(jn 91 []))),(gn 20 ((.mp z)::(gn 50 ((.mp A)::(gn 22 [])))))⟩
def z72(z:Ls)(A C:Int)(D E:Lm):St:=⟨(jn 15 ((V.mp 71)::(jn 56 ((V.sl 4 z)::((Qe A)::((Qe C)::(jn 19 []))))))),(gn 20 ((.mp D)::(gn 50 ((.mp E)::(gn 22 [])))))⟩
abbrev zw2(β:Type):Type:=Ls→Ls→Int→Int→Lm→Ob β
abbrev zmy(β:Type):Type:=Ls→Ls→Int→Int→Lm→Ob β
abbrev zk1(β:Type):Type:=Ls→Int→Ls→Int→Int→Ls→Int→Int→Lm→Ob β
abbrev zkj(β:Type):Type:=Ls→Int→Int→Lm→Lm→Ob β
abbrev zF6(β:Type):Type:=Ls→Ls→Int→Int→Lm→Ob β
abbrev zjN(β:Type):Type:=Ls→Int→Int→Ls→Int→Int→Lm→Lm→Ob β
abbrev zHc(β:Type):Type:=Ls→Int→Int→Lm→Lm→Ob β
def z0w{β:Type}(xN:zbm)(L:Nat)(A:Ls)(z:zw2 β):Ob β:=z A A ((XK A:Nat):Int) (0:Int) ([]:Lm)
def zO0{β:Type}(xN:zbm)(L:Nat)(I F:Ls)(G A:Int)(C:Lm)(D:Int→Lm→Ob β)(z:zw2 β)(H:Ls→Lm→Ob β):Ob β:=ifb (decide (A<G)) (idx F A fun J=>chk ((XK (XL 4 J))=4∧0+4≤4) (lt (zk [(Qc (0:Int)),(V.gs 35 ([]:Ls)),(V.gs 2 ([]:Ls)),(Qc (0:Int))] 0 (XL 4 J)) fun M=>chk (0+4≤(XK M)) (xN β L (Xv V.dem (XL 4 M)) (fun N=>chk ((XK N)=32∧0+32≤32) (lt (zk (We 32 (Qa (0:Int))) 0 N) fun E=>chk (0+32≤(XK E)) (mAt 34 (V.agg (XL 32 E)) C fun O=>aI .i64 (XP O (Qe (0:Int))) fun R=>ifb (Option.isSome O) (D (91:Int) C) (chk (0+32≤(XK E)) (z2L 34 (V.agg (XL 32 E)) (Qe A) C fun P=>lt (QG .i64 ((A:Int)+(1:Int))) fun Q=>z I F G Q P)))))))) (H I C)
def zKT{β:Type}(xN:zbm)(L:Nat)(A:Int)(C:Lm)(z:Int→Ob β):Ob β:=z A
def zLs{β:Type}(xN:zbm)(L:Nat)(A:Ls)(C:Lm)(z:zmy β):Ob β:=z A A ((XK A:Nat):Int) (0:Int) C
def zN2{β:Type}(xN:zbm)(L:Nat)(H C:Ls)(D A:Int)(E:Lm)(z:zk1 β)(G:Ls→Lm→Ob β):Ob β:=ifb (decide (A<D)) (idx C A fun I=>chk ((XK (XL 4 I))=4∧0+4≤4) (lt (zk [(Qc (0:Int)),(V.gs 35 ([]:Ls)),(V.gs 2 ([]:Ls)),(Qc (0:Int))] 0 (XL 4 I)) fun J=>cLd 35 J 1 fun F=>z H A C D A F ((XK F:Nat):Int) (0:Int) E)) (G H E)
def zKp{β:Type}(xN:zbm)(L:Nat)(A:Ls)(C:Lm)(z:zkj β):Ob β:=z A ((XK A:Nat):Int) (0:Int) C ([]:Lm)
def zzx{β:Type}(xN:zbm)(L:Nat)(O:Ls)(P:Int)(D:Ls)(E F:Int)(G:Ls)(H C:Int)(A:Lm)(I:Int→Lm→Ob β)(z:zk1 β)(Q:zF6 β):Ob β:=ifb (decide (C<H)) (idx G C fun J=>chk ((XK (XL 35 J))=35∧0+35≤35) (lt (zk (We 32 (Qa (0:Int))++[(Qc (0:Int)),(Qc (0:Int)),(V.gs 1 ([]:Ls))]) 0 (XL 35 J)) fun M=>chk (0+32≤(XK M)) (mAt 34 (V.agg (XL 32 M)) A fun N=>aI .i64 (XP N (Qe (0:Int))) fun R=>ifb (Option.isSome N) (ifb (decide (R≥P)) (I (101:Int) A) (lt (QG .i64 ((C:Int)+(1:Int))) fun S=>z O P D E F G H S A)) (lt (QG .i64 ((C:Int)+(1:Int))) fun T=>z O P D E F G H T A)))) (Q O D E F A)
def zJj{β:Type}(xN:zbm)(L:Nat)(C:Ls)(D A:Int)(E F:Lm)(z:zjN β)(I:Lm→Lm→Ob β):Ob β:=ifb (decide (A<D)) (idx C A fun G=>chk ((XK (XL 4 G))=4∧0+4≤4) (lt (zk [(Qc (0:Int)),(V.gs 35 ([]:Ls)),(V.gs 2 ([]:Ls)),(Qc (0:Int))] 0 (XL 4 G)) fun J=>cLd 35 J 1 fun H=>z C D A H ((XK H:Nat):Int) (0:Int) E F)) (I E F)
def zvt{β:Type}(xN:zbm)(L:Nat)(C:Int)(A:Lm)(z:Int→Lm→Ob β):Ob β:=z C A
def zwz{β:Type}(xN:zbm)(L:Nat)(G A:Ls)(C D:Int)(E:Lm)(z:zmy β):Ob β:=lt (QG .i64 ((D:Int)+(1:Int))) fun F=>z G A C F E
def zFC{β:Type}(xN:zbm)(L:Nat)(A C:Lm)(z:Int→Ob β):Ob β:=z (0:Int)
def zww{β:Type}(xN:zbm)(L:Nat)(G:Ls)(H I:Int)(J:Ls)(M E:Int)(F A:Lm)(D:Int→Lm→Lm→Ob β)(z:zjN β)(O:zHc β):Ob β:=ifb (decide (E<M)) (idx J E fun N=>chk ((XK (XL 35 N))=35∧0+35≤35) (lt (zk (We 32 (Qa (0:Int))++[(Qc (0:Int)),(Qc (0:Int)),(V.gs 1 ([]:Ls))]) 0 (XL 35 N)) fun C=>chk (0+33≤(XK C)) (mAt 35 (V.agg (XL 33 C)) A fun P=>aB (XP P (V.sc (.bool false))) fun Q=>ifb Q (D (91:Int) F A) (chk (0+33≤(XK C)) (z2L 35 (V.agg (XL 33 C)) (V.sc (.bool true)) A fun R=>lt (QG .i64 ((E:Int)+(1:Int))) fun S=>z G H I J M S F R))))) (O G H I F A)
def zIy{β:Type}(xN:zbm)(L:Nat)(A:Int)(C:Lm)(z:Int→Ob β):Ob β:=z A
def zq7{β:Type}(xN:zbm)(L:Nat)(D:Int)(A C:Lm)(z:Int→Lm→Lm→Ob β):Ob β:=z D A C
def zt1{β:Type}(xN:zbm)(L:Nat)(A:Ls)(C D:Int)(E F:Lm)(z:zkj β):Ob β:=lt (QG .i64 ((D:Int)+(1:Int))) fun G=>z A C G E F
def zzQ{β:Type}(xN:zbm)(L:Nat)(A:Int)(C D:Lm)(z:Int→Ob β):Ob β:=z A
def zzb{β:Type}(xN:zbm)(L:Nat)(z:Int→Lm→Ob β)(A:Ls→Lm→Ob β):Nat→Ls→Ls→Int→Int→Lm→Ob β
 | 0,_,_,_,_,_=>none
 | n+1,G,C,D,E,F=>zO0 xN L G C D E F z (fun G C D E F=>zzb xN L z A n G C D E F) A
def zlU{β:Type}(xN:zbm)(L:Nat)(z:Int→Lm→Ob β)(A:zF6 β):Nat→Ls→Int→Ls→Int→Int→Ls→Int→Int→Lm→Ob β
 | 0,_,_,_,_,_,_,_,_,_=>none
 | n+1,J,M,C,D,E,F,G,H,I=>zzx xN L J M C D E F G H I z (fun J M C D E F G H I=>zlU xN L z A n J M C D E F G H I) A
def zLG{β:Type}(xN:zbm)(L:Nat)(F A:Ls)(C D:Int)(z:Lm)(H:Ls→Lm→Ob β)(G:Int→Lm→Ob β)(E:zmy β):Ob β:=zN2 xN L F A C D z (fun F N A C D I J M z=>zlU xN L (fun O z=>zvt xN L O z G) (fun F A C D z=>zwz xN L F A C D z E) L F N A C D I J M z) H
def zwT{β:Type}(xN:zbm)(L:Nat)(A:Ls→Lm→Ob β)(z:Int→Lm→Ob β):Nat→Ls→Ls→Int→Int→Lm→Ob β
 | 0,_,_,_,_,_=>none
 | n+1,G,C,D,E,F=>zLG xN L G C D E F A z (fun G C D E F=>zwT xN L A z n G C D E F)
def zkJ{β:Type}(xN:zbm)(L:Nat)(z:Int→Lm→Lm→Ob β)(A:zHc β):Nat→Ls→Int→Int→Ls→Int→Int→Lm→Lm→Ob β
 | 0,_,_,_,_,_,_,_,_=>none
 | n+1,C,D,E,F,G,H,I,J=>zww xN L C D E F G H I J z (fun C D E F G H I J=>zkJ xN L z A n C D E F G H I J) A
def zIk{β:Type}(xN:zbm)(L:Nat)(D:Ls)(E F:Int)(z A:Lm)(H:Lm→Lm→Ob β)(G:Int→Lm→Lm→Ob β)(C:zkj β):Ob β:=zJj xN L D E F z A (fun D E F I J M z A=>zkJ xN L (fun N z A=>zq7 xN L N z A G) (fun D E F z A=>zt1 xN L D E F z A C) L D E F I J M z A) H
def ztC{β:Type}(xN:zbm)(L:Nat)(A:Lm→Lm→Ob β)(z:Int→Lm→Lm→Ob β):Nat→Ls→Int→Int→Lm→Lm→Ob β
 | 0,_,_,_,_,_=>none
 | n+1,C,D,E,F,G=>zIk xN L C D E F G A z (fun C D E F G=>ztC xN L A z n C D E F G)
def zIq{β:Type}(xN:zbm)(L:Nat)(G:Ls)(z:Lm)(C:Int→Ob β):Ob β:=zKp xN L G z (fun D E F z A=>ztC xN L (fun z A=>zFC xN L z A C) (fun H z A=>zzQ xN L H z A C) L D E F z A)
def zJC{β:Type}(xN:zbm)(L:Nat)(C:Ls)(z:Lm)(A:Int→Ob β):Ob β:=zLs xN L C z (fun C D E F z=>zwT xN L (fun C z=>zIq xN L C z A) (fun G z=>zIy xN L G z A) L C D E F z)
def zZT{β:Type}(xN:zbm)(L:Nat)(C:Ls)(A:Int→Ob β):Ob β:=z0w xN L C (fun C D E F z=>zzb xN L (fun G z=>zKT xN L G z A) (fun C z=>zJC xN L C z A) L C D E F z)
abbrev zbO:=∀ (β:Type),Nat→Ls→(Int→Ob β)→Ob β
def zV:zbO:=fun β=>@zZT β xN
def z0a(zV:zbO)(L:Nat):Dk:=dA (AL 4) fun z=>d0 fun β k=>zV β L z (fun z=>k (Qe z) [])
def zPR:Hint:=⟨[(0,0)],[],[none],[],[],false,false,[]⟩
def zML:CF:=cfD zPR 40
def zLB:Nat→Sh:=zj []
def zMl(zaJ:zky)(L:Nat):CBC:=(xe 583 (zyk zaJ L) noC)
def zPe{β:Type}(zaJ:zky)(L:Nat)(A:List V)(z:List V→Ob β):Ob β:=chk (0+4≤(XK A)) (zaJ β L (Xv V.dem (XL 4 A)) true (fun C=>chk ((XK C)=32∧0+32≤32) (lt (zk (We 32 (Qa (0:Int))) 0 C) fun D=>chk (0=0∧(XK D)=32∧32≠0) (z D))))
theorem z22{β:Type}(zaJ:zky)(L:Nat)(z:List V)(k:KK β):yh zLB (zMl zaJ L) L zML [(V.agg z)] [] k=zPe zaJ L z (fun z=>k (V.agg z) []):=by kernel_rfl
abbrev zeZ:=∀ (β:Type),Nat→List V→(List V→Ob β)→Ob β
def xT:zeZ:=fun β=>@zPe β zaJ
def zPh(xT:zeZ)(L:Nat):Dk:=dA AG fun z=>d0 fun β k=>xT β L z (fun z=>k (V.agg z) [])
theorem z01(L:Nat):DK (zPh xT L) (fun _=>yh zLB (zMl zaJ L) L zML):=xv zak fun z=>yK fun _ k=>z22 zaJ L z k
def zDq:Hint:=⟨[(1,1),(2,0),(2,3),(3,0),(3,3)],[],[none],[],[],false,false,[]⟩
def zxA:CF:=cfD zDq 128
def zxH:Nat→Sh:=zj []
def zya(zam:zlW)(L:Nat):CBC:=(xe 458 (zy7 zam L) noC)
def zAV{β:Type}(zam:zlW)(L:Nat)(z A:List V)(C:List V→Ob β):Ob β:=chk (0+32*1≤(XK z)) (chk ((XK (yl 1 1 [(Qa (1:Int))])+XK (yl 1 32 z))*1≤xm∧XK (yl 1 1 [(Qa (1:Int))])+XK (yl 1 32 z)≤xm) (lt ((yl 1 1 [(Qa (1:Int))])++(yl 1 32 z)) fun D=>chk (0+32*1≤(XK A)) (chk ((XK D+XK (yl 1 32 A))*1≤xm∧XK D+XK (yl 1 32 A)≤xm) (lt (D++(yl 1 32 A)) fun G=>zam β L G (fun E=>chk ((XK E)=32∧0+32≤32) (lt (zk (We 32 (Qa (0:Int))) 0 E) fun F=>chk (0=0∧(XK F)=32∧32≠0) (C F)))))))
theorem zTo{β:Type}(zam:zlW)(L:Nat)(z A:List V)(k:KK β):yh zxH (zya zam L) L zxA [(V.agg z),(V.agg A)] [] k=zAV zam L z A (fun z=>k (V.agg z) []):=by kernel_rfl
abbrev zat:=∀ (β:Type),Nat→List V→List V→(List V→Ob β)→Ob β
def yp:zat:=fun β=>@zAV β zam
def zAH(yp:zat)(L:Nat):Dk:=dA AG fun z=>dA AG fun A=>d0 fun β k=>yp β L z A (fun z=>k (V.agg z) [])
theorem zTB(L:Nat):DK (zAH yp L) (fun _=>yh zxH (zya zam L) L zxA):=xv zak fun z=>xv zak fun A=>yK fun _ k=>zTo zam L z A k
def zzK:Hint:=⟨[(0,0),(1,2),(3,0),(8,0),(8,13),(9,0),(9,7),(10,0),(10,4),(12,0),(12,1)],[],[none,some ((bl 9 48),(bl 225369817865679 48)),none,some ((bl 8 48),(bl 225369817865678 48)),none,none,some ((bl 57 48),(bl 278146375999487 48)),none,some ((bl 24 48),(bl 278146375999455 48)),none,none,none],[],[],false,false,[]⟩
def cf_merkle_levels:CF:=cfD zzK 82
def zg9:CC:=yz [1,1,0,0,0,1,0,1,0,1,0,0] cf_merkle_levels.body
def zoK:CC:=yz [1,1,0,0,0,1,0,1,1] cf_merkle_levels.body
def zij:CC:=yz [1,1,0,0,0] cf_merkle_levels.body
def zzd:CC:=yz [1,1,1] cf_merkle_levels.body
def zaG:Nat→Sh:=zj []
def zaH(yp:zat)(L:Nat):CBC:=(xe 617 (zAH yp L) noC)
def zen:St→St:=yM 0 (bl 9 48) (bl 225369817865679 48)
def zhx:St→St:=yM 0 (bl 57 48) (bl 278146375999487 48)
def zcT(z A:Ls):St:=⟨((V.sl 32 z)::(jn 2 ((V.gs 1 A)::(jn 44 [])))),(gn 48 [])⟩
def zdw(z A C:Ls)(D:Int):St:=⟨((V.sl 32 z)::(jn 2 ((V.gs 1 A)::((V.gs 32 C)::((Qe D)::(jn 42 [])))))),(gn 48 [])⟩
def zi4(z:Ls):St:=⟨(jn 3 ((V.gs 1 z)::(jn 44 []))),(gn 48 [])⟩
def znX(z A:Ls):St:=⟨(jn 3 ((V.gs 1 z)::((V.gs 32 A)::(jn 43 [])))),(gn 48 [])⟩
abbrev zlT(β:Type):Type:=Ls→Ls→Ls→Int→Ob β
def zt2{β:Type}(yp:zat)(L:Nat)(A:Ls)(z:Ls→Ls→Ob β):Ob β:=z A (yl 1 1 [(V.sl 32 A)])
theorem zPI{β:Type}(yp:zat)(L:Nat)(z:Ls)(k:KK β):yh zaG (zaH yp L) L cf_merkle_levels [(V.sl 32 z)] [] k=zt2 yp L z (fun z A=>zx (ze zaG (zaH yp L) 0 L zij) zen L (zcT z A) (xi 0 (yv (ze zaG (zaH yp L) 0 L zzd) (zD 0 (CF.res cf_merkle_levels) k)))):=by kernel_rfl
def zja{β:Type}(yp:zat)(L:Nat)(C D:Ls)(z:zlT β)(A:Ls→Ob β):Ob β:=ifb (decide (((XK C:Nat):Int)>(1:Int))) (z C D ([]:Ls) (0:Int)) (A D)
theorem zIn{β:Type}(yp:zat)(L:Nat)(A z:Ls)(X:St→Ob β)(K:KT β):ze zaG (zaH yp L) 0 L zij (zcT A z) (yH zen X K)=zja yp L A z (fun A z C D=>zx (ze zaG (zaH yp L) 0 L zg9) zhx L (zdw A z C D) (xi 2 (yv (ze zaG (zaH yp L) 0 L zoK) (xi 1 (yH zen X K))))) (fun z=>K (.exit 0) (zi4 z)):=by kernel_rfl
def zkX{β:Type}(yp:zat)(L:Nat)(A:Ls)(z:Ls→Ob β):Ob β:=z A
theorem zEj{β:Type}(yp:zat)(L:Nat)(z:Ls)(k:KK β):(xi 0 (yv (ze zaG (zaH yp L) 0 L zzd) (zD 0 (CF.res cf_merkle_levels) k))) (.exit 0) (zi4 z)=zkX yp L z (fun A=>k (V.gs 1 A) []):=by kernel_rfl
def zhD{β:Type}(yp:zat)(L:Nat)(A G C:Ls)(D:Int)(z:zlT β)(H:Ls→Ls→Ob β):Ob β:=ifb (decide (D<((XK A:Nat):Int))) (lt (QG .i64 ((D:Int)+(1:Int))) fun I=>ifb (decide (I<((XK A:Nat):Int))) (idx A D fun J=>lt (QG .i64 ((D:Int)+(1:Int))) fun M=>idx A M fun N=>yp β L (XL 32 J) (XL 32 N) (fun E=>chk ((XK E)=32∧0+32≤32) (chk ((XK C+XK (yl 32 1 (zk (We 32 (Qa (0:Int))) 0 E)))*32≤xm∧XK C+XK (yl 32 1 (zk (We 32 (Qa (0:Int))) 0 E))≤xm) (lt (C++(yl 32 1 (zk (We 32 (Qa (0:Int))) 0 E))) fun O=>lt (QG .i64 ((D:Int)+(2:Int))) fun P=>z A G O P)))) (idx A D fun F=>chk ((XK (XL 32 F))=32∧0+32≤32) (chk ((XK C+XK (yl 32 1 (zk (We 32 (Qa (0:Int))) 0 (XL 32 F))))*32≤xm∧XK C+XK (yl 32 1 (zk (We 32 (Qa (0:Int))) 0 (XL 32 F)))≤xm) (lt (C++(yl 32 1 (zk (We 32 (Qa (0:Int))) 0 (XL 32 F)))) fun Q=>lt (QG .i64 ((D:Int)+(2:Int))) fun R=>z A G Q R)))) (H G C)
theorem zwx{β:Type}(yp:zat)(L:Nat)(C z A:Ls)(D:Int)(X:St→Ob β)(K:KT β):ze zaG (zaH yp L) 0 L zg9 (zdw C z A D) (yH zhx X K)=zhD yp L C z A D (fun C z A D=>X (zdw C z A D)) (fun z A=>K (.exit 2) (znX z A)):=by kernel_rfl
def zd5{β:Type}(yp:zat)(L:Nat)(C A:Ls)(z:Ls→Ls→Ob β):Ob β:=chk ((XK C+XK (yl 1 1 [(V.sl 32 A)]))*24≤xm∧XK C+XK (yl 1 1 [(V.sl 32 A)])≤xm) (lt (C++(yl 1 1 [(V.sl 32 A)])) fun D=>z A D)
theorem zt0{β:Type}(yp:zat)(L:Nat)(z A:Ls)(X:St→Ob β)(K:KT β):(xi 2 (yv (ze zaG (zaH yp L) 0 L zoK) (xi 1 (yH zen X K)))) (.exit 2) (znX z A)=zd5 yp L z A (fun C z=>X (zcT C z)):=by kernel_rfl
def zcL{β:Type}(yp:zat)(L:Nat)(z:Ls→Ls→Ob β):Nat→Ls→Ls→Ls→Int→Ob β
 | 0,_,_,_,_=>none
 | n+1,A,C,D,E=>zhD yp L A C D E (fun A C D E=>zcL yp L z n A C D E) z
theorem zkG{β:Type}(yp:zat)(L:Nat)(K:KT β):∀ (n:Nat) (C z A:Ls) (D:Int),zx (ze zaG (zaH yp L) 0 L zg9) zhx n (zdw C z A D) K=zcL yp L (fun z A=>K (.exit 2) (znX z A)) n C z A D:=by
 intro n; induction n <;> intros
 ·rfl
 ·exact (zwx ..).trans (by simp only [*]; rfl)
def zfD{β:Type}(yp:zat)(L:Nat)(C A:Ls)(D:Ls→Ob β)(z:Ls→Ls→Ob β):Ob β:=zja yp L C A (fun C A E F=>zcL yp L (fun A E=>zd5 yp L A E z) L C A E F) D
theorem zFy{β:Type}(yp:zat)(L:Nat)(A z:Ls)(X:St→Ob β)(K:KT β):ze zaG (zaH yp L) 0 L zij (zcT A z) (yH zen X K)=zfD yp L A z (fun z=>K (.exit 0) (zi4 z)) (fun A z=>X (zcT A z)):=by
 refine (zIn yp L A z X K).trans ?_
 unfold zfD
 first
  | (simp only [zkG,zt0]; done)
  | (simp only [zkG]; rfl)
def zc6{β:Type}(yp:zat)(L:Nat)(z:Ls→Ob β):Nat→Ls→Ls→Ob β
 | 0,_,_=>none
 | n+1,A,C=>zfD yp L A C z (fun A C=>zc6 yp L z n A C)
theorem zrY{β:Type}(yp:zat)(L:Nat)(K:KT β):∀ (n:Nat) (A z:Ls),zx (ze zaG (zaH yp L) 0 L zij) zen n (zcT A z) K=zc6 yp L (fun z=>K (.exit 0) (zi4 z)) n A z:=by
 intro n; induction n <;> intros
 ·rfl
 ·exact (zFy ..).trans (by simp only [*]; rfl)
def zol{β:Type}(yp:zat)(L:Nat)(A:Ls)(z:Ls→Ob β):Ob β:=zt2 yp L A (fun A C=>zc6 yp L (fun C=>zkX yp L C z) L A C)
theorem zPg{β:Type}(yp:zat)(L:Nat)(z:Ls)(k:KK β):yh zaG (zaH yp L) L cf_merkle_levels [(V.sl 32 z)] [] k=zol yp L z (fun z=>k (V.gs 1 z) []):=by
 refine (zPI yp L z k).trans ?_
 unfold zol
 first
  | (simp only [zrY,zEj]; done)
  | (simp only [zrY]; rfl)
abbrev zjI:=∀ (β:Type),Nat→Ls→(Ls→Ob β)→Ob β
def zaI:zjI:=fun β=>@zol β yp
def zuq(zaI:zjI)(L:Nat):Dk:=dA (AL 32) fun z=>d0 fun β k=>zaI β L z (fun z=>k (V.gs 1 z) [])
theorem zOE(L:Nat):DK (zuq zaI L) (fun _=>yh zaG (zaH yp L) L cf_merkle_levels):=xv zaZ fun z=>yK fun _ k=>zPg yp L z k
def zEB:Hint:=⟨[],[],[none,none,none],[],[],false,false,[]⟩
def zxF:CF:=cfD zEB 41
def zxV:Nat→Sh:=zj [(20,(.sl 32))]
def zx6(zaI:zjI)(L:Nat):CBC:=(xe 608 (zuq zaI L) noC)
def zzS{β:Type}(zaI:zjI)(L:Nat)(A:Ls)(z:List V→Ob β):Ob β:=ifb ((((XK A:Nat):Int):Int)==(0:Int)) (lt (We 32 (Qa (0:Int))) fun C=>chk (0=0∧(XK C)=32∧32≠0) (z C)) (ifb (decide (((XK A:Nat):Int)>(1024:Int))) (lt (We 32 (Qa (0:Int))) fun D=>chk (0=0∧(XK D)=32∧32≠0) (z D)) (zaI β L A (fun E=>lt (QG .i64 ((((XK E:Nat):Int):Int)-(1:Int))) fun H=>idx E H fun I=>cL 32 I 0 fun J=>idx J (0:Int) fun F=>chk ((XK (XL 32 F))=32∧0+32≤32) (lt (zk (We 32 (Qa (0:Int))) 0 (XL 32 F)) fun G=>chk (0=0∧(XK G)=32∧32≠0) (z G)))))
theorem zTI{β:Type}(zaI:zjI)(L:Nat)(z:Ls)(k:KK β):yh zxV (zx6 zaI L) L zxF [(V.sl 32 z)] [] k=zzS zaI L z (fun z=>k (V.agg z) []):=by kernel_rfl
abbrev zb1:=∀ (β:Type),Nat→Ls→(List V→Ob β)→Ob β
def yF:zb1:=fun β=>@zzS β zaI
def zAr(yF:zb1)(L:Nat):Dk:=dA (AL 32) fun z=>d0 fun β k=>yF β L z (fun z=>k (V.agg z) [])
theorem zTP(L:Nat):DK (zAr yF L) (fun _=>yh zxV (zx6 zaI L) L zxF):=xv zaZ fun z=>yK fun _ k=>zTI zaI L z k
def zHC:Hint:=⟨[(1,0),(4,2),(5,0),(5,5)],[],[none,some ((bl 460 20),(bl 933855 20)),none,some ((bl 12 20),(bl 933855 20)),none,none],[],[],false,false,[]⟩
def cf_block_Root:CF:=cfD zHC 16
def zpw:CC:=yz [1,1,0,1,0,0] cf_block_Root.body
def zHa:CC:=yz [1,1,1] cf_block_Root.body
def zeH:Nat→Sh:=zj []
def zeN(xT:zeZ)(yF:zb1)(L:Nat):CBC:=(xe 597 (zAr yF L) (xe 596 (zPh xT L) noC))
def zqX:St→St:=yM 0 (bl 460 20) (bl 933855 20)
def ziu(z A:Ls)(C D:Int)(E:List V):St:=⟨(jn 2 ((V.ptr 2 0)::((V.gs 32 z)::(jn 2 ((V.sl 4 A)::((Qe C)::((Qe D)::(jn 11 [])))))))),(gn 2 ((.live true E)::(gn 17 [])))⟩
def zsX(z:Ls)(A:List V):St:=⟨(jn 2 ((V.ptr 2 0)::((V.gs 32 z)::(jn 16 [])))),(gn 2 ((.live true A)::(gn 17 [])))⟩
abbrev zy0(β:Type):Type:=Ls→Ls→Int→Int→List V→Ob β
def zEX{β:Type}(xT:zeZ)(yF:zb1)(L:Nat)(A:Ls)(z:zy0 β):Ob β:=z ([]:Ls) A ((XK A:Nat):Int) (0:Int) (We 32 (Qa (0:Int)))
theorem zVF{β:Type}(xT:zeZ)(yF:zb1)(L:Nat)(z:Ls)(k:KK β):yh zeH (zeN xT yF L) L cf_block_Root [(V.sl 4 z)] [] k=zEX xT yF L z (fun A C D E F=>zx (ze zeH (zeN xT yF L) 0 L zpw) zqX L (ziu A C D E F) (xi 0 (yv (ze zeH (zeN xT yF L) 0 L zHa) (zD 0 (CF.res cf_block_Root) k)))):=by kernel_rfl
def zqY{β:Type}(xT:zeZ)(yF:zb1)(L:Nat)(A F:Ls)(G D:Int)(H:List V)(z:zy0 β)(E:Ls→List V→Ob β):Ob β:=ifb (decide (D<G)) (idx F D fun I=>chk ((XK (XL 4 I))=4∧0+4≤4) (lt (zk [(Qc (0:Int)),(V.gs 35 ([]:Ls)),(V.gs 2 ([]:Ls)),(Qc (0:Int))] 0 (XL 4 I)) fun J=>chk (0+4≤(XK J)) (xT β L (Xv V.dem (XL 4 J)) (fun C=>chk ((XK C)=32∧0+32≤32) (chk ((XK A+XK (yl 32 1 (zk (We 32 (Qa (0:Int))) 0 C)))*32≤xm∧XK A+XK (yl 32 1 (zk (We 32 (Qa (0:Int))) 0 C))≤xm) (lt (A++(yl 32 1 (zk (We 32 (Qa (0:Int))) 0 C))) fun M=>lt (QG .i64 ((D:Int)+(1:Int))) fun N=>z M F G N H)))))) (E A H)
theorem zLU{β:Type}(xT:zeZ)(yF:zb1)(L:Nat)(z C:Ls)(D E:Int)(A:List V)(X:St→Ob β)(K:KT β):ze zeH (zeN xT yF L) 0 L zpw (ziu z C D E A) (yH zqX X K)=zqY xT yF L z C D E A (fun z C D E A=>X (ziu z C D E A)) (fun z A=>K (.exit 0) (zsX z A)):=by kernel_rfl
def zjj{β:Type}(xT:zeZ)(yF:zb1)(L:Nat)(E:Ls)(A:List V)(z:List V→Ob β):Ob β:=yF β L E (fun C=>chk ((XK C)=32∧0+32≤(XK A)) (lt (zk A 0 C) fun D=>chk (0=0∧(XK D)=32∧32≠0) (z D)))
theorem zI4{β:Type}(xT:zeZ)(yF:zb1)(L:Nat)(z:Ls)(A:List V)(k:KK β):(xi 0 (yv (ze zeH (zeN xT yF L) 0 L zHa) (zD 0 (CF.res cf_block_Root) k))) (.exit 0) (zsX z A)=zjj xT yF L z A (fun C=>k (V.agg C) []):=by kernel_rfl
def zhQ{β:Type}(xT:zeZ)(yF:zb1)(L:Nat)(z:Ls→List V→Ob β):Nat→Ls→Ls→Int→Int→List V→Ob β
 | 0,_,_,_,_,_=>none
 | n+1,A,C,D,E,F=>zqY xT yF L A C D E F (fun A C D E F=>zhQ xT yF L z n A C D E F) z
theorem zvf{β:Type}(xT:zeZ)(yF:zb1)(L:Nat)(K:KT β):∀ (n:Nat) (z C:Ls) (D E:Int) (A:List V),zx (ze zeH (zeN xT yF L) 0 L zpw) zqX n (ziu z C D E A) K=zhQ xT yF L (fun z A=>K (.exit 0) (zsX z A)) n z C D E A:=by
 intro n; induction n <;> intros
 ·rfl
 ·exact (zLU ..).trans (by simp only [*]; rfl)
def zv0{β:Type}(xT:zeZ)(yF:zb1)(L:Nat)(D:Ls)(z:List V→Ob β):Ob β:=zEX xT yF L D (fun A E F G C=>zhQ xT yF L (fun A C=>zjj xT yF L A C z) L A E F G C)
theorem zUH{β:Type}(xT:zeZ)(yF:zb1)(L:Nat)(z:Ls)(k:KK β):yh zeH (zeN xT yF L) L cf_block_Root [(V.sl 4 z)] [] k=zv0 xT yF L z (fun z=>k (V.agg z) []):=by
 refine (zVF xT yF L z k).trans ?_
 unfold zv0
 first
  | (simp only [zvf,zI4]; done)
  | (simp only [zvf]; rfl)
abbrev zbj:=∀ (β:Type),Nat→Ls→(List V→Ob β)→Ob β
def xH:zbj:=fun β=>@zv0 β xT yF
def zvQ(xH:zbj)(L:Nat):Dk:=dA (AL 4) fun z=>d0 fun β k=>xH β L z (fun z=>k (V.agg z) [])
theorem zVZ(L:Nat):DK (zvQ xH L) (fun _=>yh zeH (zeN xT yF L) L cf_block_Root):=xv zaZ fun z=>yK fun _ k=>zUH xT yF L z k
def zCN:Hint:=⟨[(0,0),(1,2),(1,3),(8,3),(14,2)],[],[none,none,none,none,none,some ((bl 117440514 63),(bl 9223372032559808155 63)),none,some ((bl 2 63),(bl 9223372032559808155 63)),none,none,some ((bl 4 63),(bl 9223372032559808157 63)),none,some ((bl 1924145348610 63),(bl 9223336852482686139 63)),none,some ((bl 2 63),(bl 9223336852482686139 63)),none,none,some ((bl 4 63),(bl 9223336852482686141 63)),none,none,none,none,none],[],[],false,false,[]⟩
def cf_block_Check:CF:=cfD zCN 18
def z4j:CC:=yz [1,1,1,1,0,1,0,0] cf_block_Check.body
def z5u:CC:=yz [1,1,1,0,1,0,0] cf_block_Check.body
def z6g:CC:=yz [1,1,1,1,1] cf_block_Check.body
def z7W:CC:=yz [1,1,1,1] cf_block_Check.body
def z9U:Nat→Sh:=zj [(20,(.sl 4)),(24,(.sl 4)),(38,(.sl 4)),(51,(.sl 4)),(57,(.sl 4))]
def yaz(zB:zaN)(yo:zY)(y5:zdb)(zV:zbO)(xH:zbj)(L:Nat):CBC:=(xe 579 (zvQ xH L) (xe 578 (z0a zV L) (xe 131 (zCo y5 L) (xe 151 (zm7 yo L) (xe 577 (zlA zB L) noC)))))
def z54:St→St:=yM 0 (bl 117440514 63) (bl 9223372032559808155 63)
def z5n:St→St:=yM 0 (bl 1924145348610 63) (bl 9223336852482686139 63)
def z3B(z:Ls)(A C:Int)(D:List V):St:=⟨(jn 1 ((V.ptr 1 0)::(jn 22 ((V.sl 4 z)::((Qe A)::((Qe C)::(jn 36 []))))))),(gn 1 ((.live true D)::(gn 61 [])))⟩
def z7x(z:Int):St:=⟨(jn 2 ((Qe z)::(jn 60 []))),(gn 63 [])⟩
def z7X(z:List V):St:=⟨(jn 1 ((V.ptr 1 0)::(jn 61 []))),(gn 1 ((.live true z)::(gn 61 [])))⟩
def z3b(z:Ls)(A C:Int)(D:List V):St:=⟨(jn 1 ((V.ptr 1 0)::(jn 36 ((V.sl 4 z)::((Qe A)::((Qe C)::(jn 22 []))))))),(gn 1 ((.live true D)::(gn 61 [])))⟩
def z7U(z:List V):St:=⟨(jn 1 ((V.ptr 1 0)::(jn 61 []))),(gn 1 ((.live true z)::(gn 61 [])))⟩
def zZH{β:Type}(zB:zaN)(yo:zY)(y5:zdb)(zV:zbO)(xH:zbj)(L:Nat)(C:List V)(A:Int→Ob β)(z:Ls→Int→Int→List V→Ob β):Ob β:=chk (0+69≤(XK C)) (zB β L (Xv V.dem (XL 69 C)) (fun G D=>ifb ((D:Int) != (0:Int)) (A D) (cLd 4 C 68 fun F=>ifb ((((XK F:Nat):Int):Int)==(0:Int)) (A (93:Int)) (cLd 4 C 68 fun E=>z E ((XK E:Nat):Int) (0:Int) C))))
def zN8{β:Type}(zB:zaN)(yo:zY)(y5:zdb)(zV:zbO)(xH:zbj)(L:Nat)(D:Ls)(E A:Int)(G:List V)(C:Int→Ob β)(z:Ls→Int→Int→List V→Ob β)(F:List V→Ob β):Ob β:=ifb (decide (A<E)) (idx D A fun H=>chk ((XK (XL 4 H))=4∧0+4≤4) (lt (zk [(Qc (0:Int)),(V.gs 35 ([]:Ls)),(V.gs 2 ([]:Ls)),(Qc (0:Int))] 0 (XL 4 H)) fun I=>chk (0+4≤(XK I)) (yo β L (Xv V.dem (XL 4 I)) (fun J=>ifb (!(J==((A:Int)==(0:Int)))) (C (111:Int)) (lt (QG .i64 ((A:Int)+(1:Int))) fun M=>z D E M G))))) (F G)
def zIY{β:Type}(zB:zaN)(yo:zY)(y5:zdb)(zV:zbO)(xH:zbj)(L:Nat)(A:Int)(z:Int→Ob β):Ob β:=z A
def zKj{β:Type}(zB:zaN)(yo:zY)(y5:zdb)(zV:zbO)(xH:zbj)(L:Nat)(A:List V)(z:Ls→Int→Int→List V→Ob β):Ob β:=cLd 4 A 68 fun C=>z C ((XK C:Nat):Int) (0:Int) A
def zMv{β:Type}(zB:zaN)(yo:zY)(y5:zdb)(zV:zbO)(xH:zbj)(L:Nat)(D:Ls)(E A:Int)(I:List V)(C:Int→Ob β)(z:Ls→Int→Int→List V→Ob β)(H:List V→Ob β):Ob β:=ifb (decide (A<E)) (idx D A fun J=>chk ((XK (XL 4 J))=4∧0+4≤4) (lt (zk [(Qc (0:Int)),(V.gs 35 ([]:Ls)),(V.gs 2 ([]:Ls)),(Qc (0:Int))] 0 (XL 4 J)) fun F=>chk (0+4≤(XK F)) (y5 β L (Xv V.dem (XL 4 F)) (fun G=>ifb ((G:Int) != (0:Int)) (C G) (lt (QG .i64 ((A:Int)+(1:Int))) fun M=>z D E M I))))) (H I)
def zFu{β:Type}(zB:zaN)(yo:zY)(y5:zdb)(zV:zbO)(xH:zbj)(L:Nat)(A:Int)(z:Int→Ob β):Ob β:=z A
def zHS{β:Type}(zB:zaN)(yo:zY)(y5:zdb)(zV:zbO)(xH:zbj)(L:Nat)(A:List V)(z:Int→Ob β):Ob β:=cLd 4 A 68 fun D=>zV β L D (fun C=>ifb ((C:Int) != (0:Int)) (z C) (cLd 4 A 68 fun E=>xH β L E (fun F=>chk (33+32≤(XK A)) (eqC 32 F (XL 32 (List.drop 33 A)) fun G=>ifb (!G) (z (110:Int)) (z (0:Int))))))
def zwI{β:Type}(zB:zaN)(yo:zY)(y5:zdb)(zV:zbO)(xH:zbj)(L:Nat)(z:Int→Ob β)(A:List V→Ob β):Nat→Ls→Int→Int→List V→Ob β
 | 0,_,_,_,_=>none
 | n+1,C,D,E,F=>zN8 zB yo y5 zV xH L C D E F z (fun C D E F=>zwI zB yo y5 zV xH L z A n C D E F) A
def zvl{β:Type}(zB:zaN)(yo:zY)(y5:zdb)(zV:zbO)(xH:zbj)(L:Nat)(z:Int→Ob β)(A:List V→Ob β):Nat→Ls→Int→Int→List V→Ob β
 | 0,_,_,_,_=>none
 | n+1,C,D,E,F=>zMv zB yo y5 zV xH L C D E F z (fun C D E F=>zvl zB yo y5 zV xH L z A n C D E F) A
def zIO{β:Type}(zB:zaN)(yo:zY)(y5:zdb)(zV:zbO)(xH:zbj)(L:Nat)(A:List V)(z:Int→Ob β):Ob β:=zKj zB yo y5 zV xH L A (fun C D E A=>zvl zB yo y5 zV xH L (fun F=>zFu zB yo y5 zV xH L F z) (fun A=>zHS zB yo y5 zV xH L A z) L C D E A)
def z0e{β:Type}(zB:zaN)(yo:zY)(y5:zdb)(zV:zbO)(xH:zbj)(L:Nat)(F:List V)(z:Int→Ob β):Ob β:=zZH zB yo y5 zV xH L F z (fun C D E A=>zwI zB yo y5 zV xH L (fun G=>zIY zB yo y5 zV xH L G z) (fun A=>zIO zB yo y5 zV xH L A z) L C D E A)
abbrev zso:=∀ (β:Type),Nat→List V→(Int→Ob β)→Ob β
def zfP:zso:=fun β=>@z0e β zB yo y5 zV xH
def z0p(zfP:zso)(L:Nat):Dk:=dA AG fun z=>d0 fun β k=>zfP β L z (fun z=>k (Qe z) [])
def zqk:Hint:=⟨[(0,1),(1,3),(2,7),(6,3),(8,0),(8,1)],[],[none,some ((bl 29360136 33),(bl 7516192733 33)),none,some ((bl 8 33),(bl 7516192733 33)),none,none],[],[],false,false,[]⟩
def cf_ref11_EncodeHeader:CF:=cfD zqk 31
def zg2:CC:=yz [1,1,1,0,1,0,0] cf_ref11_EncodeHeader.body
def zpP:CC:=yz [1,1,1,1] cf_ref11_EncodeHeader.body
def zbl:Nat→Sh:=zj [(7,(.int .u32)),(17,(.int .u32)),(19,(.int .u32)),(21,(.int .u32)),(27,(.int .u32))]
def zbo(xa:zq)(zn:zad)(L:Nat):CBC:=(xe 160 (zg1 zn L) (xe 159 (zfN xa L) noC))
def zht:St→St:=yM 0 (bl 29360136 33) (bl 7516192733 33)
def zdx(D z:Ls)(A C:Int):St:=⟨(jn 3 ((V.gs 1 D)::(jn 18 ((V.gs 1 z)::((Qe A)::((Qe C)::(jn 8 []))))))),(gn 33 [])⟩
def ziO(z:Ls):St:=⟨(jn 3 ((V.gs 1 z)::(jn 29 []))),(gn 33 [])⟩
def zmG{β:Type}(xa:zq)(zn:zad)(L:Nat)(z:List V)(A:Ls→Ls→Int→Int→Ob β):Ob β:=cI .u32 z 0 fun F=>xa β L ([]:Ls) F (fun G=>chk (1+32≤(XK z)) (zn β L G (XL 32 (List.drop 1 z)) (fun H=>chk (33+32≤(XK z)) (zn β L H (XL 32 (List.drop 33 z)) (fun I=>cI .u32 z 65 fun C=>cI .u32 z 66 fun D=>cI .u32 z 67 fun E=>A I (yl 1 3 [(Qc C),(Qc D),(Qc E)]) ((XK (yl 1 3 [(Qc C),(Qc D),(Qc E)]):Nat):Int) (0:Int))))))
theorem zFa{β:Type}(xa:zq)(zn:zad)(L:Nat)(z:List V)(k:KK β):yh zbl (zbo xa zn L) L cf_ref11_EncodeHeader [(V.agg z)] [] k=zmG xa zn L z (fun E A C D=>zx (ze zbl (zbo xa zn L) 0 L zg2) zht L (zdx E A C D) (xi 0 (yv (ze zbl (zbo xa zn L) 0 L zpP) (zD 0 (CF.res cf_ref11_EncodeHeader) k)))):=by kernel_rfl
def zb0{β:Type}(xa:zq)(zn:zad)(L:Nat)(F C:Ls)(D A:Int)(z:Ls→Ls→Int→Int→Ob β)(E:Ls→Ob β):Ob β:=ifb (decide (A<D)) (idx C A fun H=>cI .u32 H 0 fun I=>xa β L F I (fun J=>lt (QG .i64 ((A:Int)+(1:Int))) fun G=>z J C D G)) (E F)
theorem zwy{β:Type}(xa:zq)(zn:zad)(L:Nat)(D z:Ls)(A C:Int)(X:St→Ob β)(K:KT β):ze zbl (zbo xa zn L) 0 L zg2 (zdx D z A C) (yH zht X K)=zb0 xa zn L D z A C (fun D z A C=>X (zdx D z A C)) (fun D=>K (.exit 0) (ziO D)):=by kernel_rfl
def zlb{β:Type}(xa:zq)(zn:zad)(L:Nat)(A:Ls)(z:Ls→Ob β):Ob β:=z A
theorem ztZ{β:Type}(xa:zq)(zn:zad)(L:Nat)(z:Ls)(k:KK β):(xi 0 (yv (ze zbl (zbo xa zn L) 0 L zpP) (zD 0 (CF.res cf_ref11_EncodeHeader) k))) (.exit 0) (ziO z)=zlb xa zn L z (fun A=>k (V.gs 1 A) []):=by kernel_rfl
def zbs{β:Type}(xa:zq)(zn:zad)(L:Nat)(z:Ls→Ob β):Nat→Ls→Ls→Int→Int→Ob β
 | 0,_,_,_,_=>none
 | n+1,E,A,C,D=>zb0 xa zn L E A C D (fun E A C D=>zbs xa zn L z n E A C D) z
theorem zkE{β:Type}(xa:zq)(zn:zad)(L:Nat)(K:KT β):∀ (n:Nat) (z A:Ls) (C D:Int),zx (ze zbl (zbo xa zn L) 0 L zg2) zht n (zdx z A C D) K=zbs xa zn L (fun z=>K (.exit 0) (ziO z)) n z A C D:=by
 intro n; induction n <;> intros
 ·rfl
 ·exact (zwy ..).trans (by simp only [*]; rfl)
def zio{β:Type}(xa:zq)(zn:zad)(L:Nat)(F:List V)(z:Ls→Ob β):Ob β:=zmG xa zn L F (fun A C D E=>zbs xa zn L (fun A=>zlb xa zn L A z) L A C D E)
theorem zFf{β:Type}(xa:zq)(zn:zad)(L:Nat)(z:List V)(k:KK β):yh zbl (zbo xa zn L) L cf_ref11_EncodeHeader [(V.agg z)] [] k=zio xa zn L z (fun z=>k (V.gs 1 z) []):=by
 refine (zFa xa zn L z k).trans ?_
 unfold zio
 first
  | (simp only [zkE,ztZ]; done)
  | (simp only [zkE]; rfl)
abbrev xS:=∀ (β:Type),Nat→List V→(Ls→Ob β)→Ob β
def xh:xS:=fun β=>@zio β xa zn
def zdY(xh:xS)(L:Nat):Dk:=dA AG fun z=>d0 fun β k=>xh β L z (fun z=>k (V.gs 1 z) [])
theorem zFi(L:Nat):DK (zdY xh L) (fun _=>yh zbl (zbo xa zn L) L cf_ref11_EncodeHeader):=xv zak fun z=>yK fun _ k=>zFf xa zn L z k
def zBl:Hint:=⟨[(0,0),(0,1),(2,0),(3,3)],[],[none,none,none],[],[],false,false,[]⟩
def zF1:CF:=cfD zBl 80
def zwc:Nat→Sh:=zj []
def zua(yc:zt)(yd:xD)(L:Nat):CBC:=(xe 149 (zeR yd L) (xe 148 (zeC yc L) noC))
def zxs{β:Type}(yc:zt)(yd:xD)(L:Nat)(A:List V)(C:Bool)(z:Ls→Int→Ob β):Ob β:=chk (0+4≤(XK A)) (yc β L (Xv V.dem (XL 4 A)) (fun D=>ifb (!D) (z ([]:Ls) (4:Int)) (chk (0+4≤(XK A)) (yd β L (Xv V.dem (XL 4 A)) C (fun E=>z E (0:Int))))))
theorem zRL{β:Type}(yc:zt)(yd:xD)(L:Nat)(C:List V)(D:Bool)(k:KK β):yh zwc (zua yc yd L) L zF1 [(V.agg C),(V.sc (.bool D))] [] k=zxs yc yd L C D (fun z A=>k (V.tup [(V.gs 1 z),(Qe A)]) []):=by kernel_rfl
abbrev zbM:=∀ (β:Type),Nat→List V→Bool→(Ls→Int→Ob β)→Ob β
def zE:zbM:=fun β=>@zxs β yc yd
def zxX(zE:zbM)(L:Nat):Dk:=dA AG fun C=>dA AB fun D=>d0 fun β k=>zE β L C D (fun z A=>k (V.tup [(V.gs 1 z),(Qe A)]) [])
theorem zRv(L:Nat):DK (zxX zE L) (fun _=>yh zwc (zua yc yd L) L zF1):=xv zak fun z=>xv zWo fun A=>yK fun _ k=>zRL yc yd L z A k
def zBW:Hint:=⟨[(0,0),(0,1),(1,8),(4,2),(5,2),(5,3),(6,0),(6,3),(8,0),(8,1)],[],[none,some ((bl 917512 33),(bl 7281311517 33)),none,some ((bl 8 33),(bl 7281311517 33)),none,none],[],[],false,false,[]⟩
def cf_ref11_encode:CF:=cfD zBW 39
def zmV:CC:=yz [1,1,0,1,0,0] cf_ref11_encode.body
def zBy:CC:=yz [1,1,1] cf_ref11_encode.body
def zdp:Nat→Sh:=zj [(12,(.sl 4)),(17,(.sl 4))]
def zdm(xh:xS)(ya:zp)(zE:zbM)(L:Nat):CBC:=(xe 129 (zxX zE L) (xe 185 (zgX ya L) (xe 455 (zdY xh L) noC)))
def znV:St→St:=yM 0 (bl 917512 33) (bl 7281311517 33)
def zgC(D z:Ls)(A C:Int):St:=⟨(jn 3 ((V.gs 1 D)::(jn 13 ((V.sl 4 z)::((Qe A)::((Qe C)::(jn 13 []))))))),(gn 33 [])⟩
def zpS(z:Ls):St:=⟨(jn 3 ((V.gs 1 z)::(jn 29 []))),(gn 33 [])⟩
def zw8{β:Type}(xh:xS)(ya:zp)(zE:zbM)(L:Nat)(A:List V)(z:Ls→Ls→Int→Int→Ob β):Ob β:=chk (0+68≤(XK A)) (xh β L (XL 68 A) (fun D=>cLd 4 A 68 fun E=>lt (QG .u64 ((XK E:Nat):Int)) fun F=>ya β L D F (fun G=>cLd 4 A 68 fun C=>z G C ((XK C:Nat):Int) (0:Int))))
theorem zRd{β:Type}(xh:xS)(ya:zp)(zE:zbM)(L:Nat)(z:List V)(k:KK β):yh zdp (zdm xh ya zE L) L cf_ref11_encode [(V.agg z)] [] k=zw8 xh ya zE L z (fun E A C D=>zx (ze zdp (zdm xh ya zE L) 0 L zmV) znV L (zgC E A C D) (xi 0 (yv (ze zdp (zdm xh ya zE L) 0 L zBy) (zD 0 (CF.res cf_ref11_encode) k)))):=by kernel_rfl
def zn3{β:Type}(xh:xS)(ya:zp)(zE:zbM)(L:Nat)(C D:Ls)(E A:Int)(z:Ls→Ls→Int→Int→Ob β)(F:Ls→Ob β):Ob β:=ifb (decide (A<E)) (idx D A fun H=>chk ((XK (XL 4 H))=4∧0+4≤4) (lt (zk [(Qc (0:Int)),(V.gs 35 ([]:Ls)),(V.gs 2 ([]:Ls)),(Qc (0:Int))] 0 (XL 4 H)) fun I=>chk (0+4≤(XK I)) (zE β L (Xv V.dem (XL 4 I)) true (fun G N=>chk ((XK C+XK G)*1≤xm∧XK C+XK G≤xm) (lt (C++G) fun M=>lt (QG .i64 ((A:Int)+(1:Int))) fun J=>z M D E J))))) (F C)
theorem zI2{β:Type}(xh:xS)(ya:zp)(zE:zbM)(L:Nat)(D z:Ls)(A C:Int)(X:St→Ob β)(K:KT β):ze zdp (zdm xh ya zE L) 0 L zmV (zgC D z A C) (yH znV X K)=zn3 xh ya zE L D z A C (fun D z A C=>X (zgC D z A C)) (fun D=>K (.exit 0) (zpS D)):=by kernel_rfl
def ztm{β:Type}(xh:xS)(ya:zp)(zE:zbM)(L:Nat)(A:Ls)(z:Ls→Ob β):Ob β:=z A
theorem zDc{β:Type}(xh:xS)(ya:zp)(zE:zbM)(L:Nat)(z:Ls)(k:KK β):(xi 0 (yv (ze zdp (zdm xh ya zE L) 0 L zBy) (zD 0 (CF.res cf_ref11_encode) k))) (.exit 0) (zpS z)=ztm xh ya zE L z (fun A=>k (V.gs 1 A) []):=by kernel_rfl
def zgg{β:Type}(xh:xS)(ya:zp)(zE:zbM)(L:Nat)(z:Ls→Ob β):Nat→Ls→Ls→Int→Int→Ob β
 | 0,_,_,_,_=>none
 | n+1,E,A,C,D=>zn3 xh ya zE L E A C D (fun E A C D=>zgg xh ya zE L z n E A C D) z
theorem zrW{β:Type}(xh:xS)(ya:zp)(zE:zbM)(L:Nat)(K:KT β):∀ (n:Nat) (z A:Ls) (C D:Int),zx (ze zdp (zdm xh ya zE L) 0 L zmV) znV n (zgC z A C D) K=zgg xh ya zE L (fun z=>K (.exit 0) (zpS z)) n z A C D:=by
 intro n; induction n <;> intros
 ·rfl
 ·exact (zI2 ..).trans (by simp only [*]; rfl)
def zp6{β:Type}(xh:xS)(ya:zp)(zE:zbM)(L:Nat)(F:List V)(z:Ls→Ob β):Ob β:=zw8 xh ya zE L F (fun A C D E=>zgg xh ya zE L (fun A=>ztm xh ya zE L A z) L A C D E)
theorem zRC{β:Type}(xh:xS)(ya:zp)(zE:zbM)(L:Nat)(z:List V)(k:KK β):yh zdp (zdm xh ya zE L) L cf_ref11_encode [(V.agg z)] [] k=zp6 xh ya zE L z (fun z=>k (V.gs 1 z) []):=by
 refine (zRd xh ya zE L z k).trans ?_
 unfold zp6
 first
  | (simp only [zrW,zDc]; done)
  | (simp only [zrW]; rfl)
abbrev zaC:=∀ (β:Type),Nat→List V→(Ls→Ob β)→Ob β
def yr:zaC:=fun β=>@zp6 β xh ya zE
def zp5(yr:zaC)(L:Nat):Dk:=dA AG fun z=>d0 fun β k=>yr β L z (fun z=>k (V.gs 1 z) [])
theorem zRM(L:Nat):DK (zp5 yr L) (fun _=>yh zdp (zdm xh ya zE L) L cf_ref11_encode):=xv zak fun z=>yK fun _ k=>zRC xh ya zE L z k
def zF2:Hint:=⟨[(0,0),(5,2)],[],[none,none,none,some ((bl 7170 24),(bl 16646123 24)),none,some ((bl 2 24),(bl 16646123 24)),none,none,some ((bl 4 24),(bl 16646125 24)),none],[],[],false,false,[]⟩
def cf_ref11_Fits:CF:=cfD zF2 38
def zpp:CC:=yz [1,1,0,1,0,0] cf_ref11_Fits.body
def zwa:CC:=yz [1,1,1] cf_ref11_Fits.body
def zdQ:Nat→Sh:=zj [(6,(.sl 4)),(10,(.sl 4))]
def zdV(yc:zt)(yr:zaC)(L:Nat):CBC:=(xe 488 (zp5 yr L) (xe 148 (zeC yc L) noC))
def zqG:St→St:=yM 0 (bl 7170 24) (bl 16646123 24)
def zhY(z:Ls)(A C:Int)(D:List V):St:=⟨(jn 1 ((V.ptr 1 0)::(jn 8 ((V.sl 4 z)::((Qe A)::((Qe C)::(jn 11 []))))))),(gn 1 ((.live true D)::(gn 22 [])))⟩
def zrq(z:Bool):St:=⟨(jn 2 ((V.sc (.bool z))::(jn 21 []))),(gn 24 [])⟩
def zs2(z:List V):St:=⟨(jn 1 ((V.ptr 1 0)::(jn 22 []))),(gn 1 ((.live true z)::(gn 22 [])))⟩
def zD2{β:Type}(yc:zt)(yr:zaC)(L:Nat)(C:List V)(A:Bool→Ob β)(z:Ls→Int→Int→List V→Ob β):Ob β:=cLd 4 C 68 fun E=>ifb (decide (((XK E:Nat):Int)>(256:Int))) (A false) (cLd 4 C 68 fun D=>z D ((XK D:Nat):Int) (0:Int) C)
theorem zVa{β:Type}(yc:zt)(yr:zaC)(L:Nat)(z:List V)(k:KK β):yh zdQ (zdV yc yr L) L cf_ref11_Fits [(V.agg z)] [] k=zD2 yc yr L z (fun z=>k (V.sc (.bool z)) []) (fun A C D E=>zx (ze zdQ (zdV yc yr L) 0 L zpp) zqG L (zhY A C D E) (xi 0 (yv (ze zdQ (zdV yc yr L) 0 L zwa) (zD 0 (CF.res cf_ref11_Fits) k)))):=by kernel_rfl
def zqJ{β:Type}(yc:zt)(yr:zaC)(L:Nat)(D:Ls)(E A:Int)(G:List V)(C:Bool→Ob β)(z:Ls→Int→Int→List V→Ob β)(F:List V→Ob β):Ob β:=ifb (decide (A<E)) (idx D A fun H=>chk ((XK (XL 4 H))=4∧0+4≤4) (lt (zk [(Qc (0:Int)),(V.gs 35 ([]:Ls)),(V.gs 2 ([]:Ls)),(Qc (0:Int))] 0 (XL 4 H)) fun I=>chk (0+4≤(XK I)) (yc β L (Xv V.dem (XL 4 I)) (fun J=>ifb (!J) (C false) (lt (QG .i64 ((A:Int)+(1:Int))) fun M=>z D E M G))))) (F G)
theorem zMw{β:Type}(yc:zt)(yr:zaC)(L:Nat)(z:Ls)(A C:Int)(D:List V)(X:St→Ob β)(K:KT β):ze zdQ (zdV yc yr L) 0 L zpp (zhY z A C D) (yH zqG X K)=zqJ yc yr L z A C D (fun E=>K .ret (zrq E)) (fun z A C D=>X (zhY z A C D)) (fun D=>K (.exit 0) (zs2 D)):=by kernel_rfl
def zmn{β:Type}(yc:zt)(yr:zaC)(L:Nat)(A:Bool)(z:Bool→Ob β):Ob β:=z A
theorem zE8{β:Type}(yc:zt)(yr:zaC)(L:Nat)(z:Bool)(k:KK β):(xi 0 (yv (ze zdQ (zdV yc yr L) 0 L zwa) (zD 0 (CF.res cf_ref11_Fits) k))) .ret (zrq z)=zmn yc yr L z (fun A=>k (V.sc (.bool A)) []):=by kernel_rfl
def znt{β:Type}(yc:zt)(yr:zaC)(L:Nat)(A:List V)(z:Bool→Ob β):Ob β:=chk (0+69≤(XK A)) (yr β L (Xv V.dem (XL 69 A)) (fun C=>z (decide (((XK C:Nat):Int)≤(100000:Int)))))
theorem zIe{β:Type}(yc:zt)(yr:zaC)(L:Nat)(z:List V)(k:KK β):(xi 0 (yv (ze zdQ (zdV yc yr L) 0 L zwa) (zD 0 (CF.res cf_ref11_Fits) k))) (.exit 0) (zs2 z)=znt yc yr L z (fun A=>k (V.sc (.bool A)) []):=by kernel_rfl
def zhN{β:Type}(yc:zt)(yr:zaC)(L:Nat)(z:Bool→Ob β)(A:List V→Ob β):Nat→Ls→Int→Int→List V→Ob β
 | 0,_,_,_,_=>none
 | n+1,C,D,E,F=>zqJ yc yr L C D E F z (fun C D E F=>zhN yc yr L z A n C D E F) A
theorem zuQ{β:Type}(yc:zt)(yr:zaC)(L:Nat)(K:KT β):∀ (n:Nat) (A:Ls) (C D:Int) (z:List V),zx (ze zdQ (zdV yc yr L) 0 L zpp) zqG n (zhY A C D z) K=zhN yc yr L (fun E=>K .ret (zrq E)) (fun z=>K (.exit 0) (zs2 z)) n A C D z:=by
 intro n; induction n <;> intros
 ·rfl
 ·exact (zMw ..).trans (by simp only [*]; rfl)
def zvP{β:Type}(yc:zt)(yr:zaC)(L:Nat)(F:List V)(z:Bool→Ob β):Ob β:=zD2 yc yr L F z (fun C D E A=>zhN yc yr L (fun G=>zmn yc yr L G z) (fun A=>znt yc yr L A z) L C D E A)
theorem zUa{β:Type}(yc:zt)(yr:zaC)(L:Nat)(z:List V)(k:KK β):yh zdQ (zdV yc yr L) L cf_ref11_Fits [(V.agg z)] [] k=zvP yc yr L z (fun z=>k (V.sc (.bool z)) []):=by
 refine (zVa yc yr L z k).trans ?_
 unfold zvP
 first
  | (simp only [zuQ,zE8,zIe]; done)
  | (simp only [zuQ]; rfl)
abbrev zau:=∀ (β:Type),Nat→List V→(Bool→Ob β)→Ob β
def zz:zau:=fun β=>@zvP β yc yr
def zpz(zz:zau)(L:Nat):Dk:=dA AG fun z=>d0 fun β k=>zz β L z (fun z=>k (V.sc (.bool z)) [])
theorem zU2(L:Nat):DK (zpz zz L) (fun _=>yh zdQ (zdV yc yr L) L cf_ref11_Fits):=xv zak fun z=>yK fun _ k=>zUa yc yr L z k
def zGj:Hint:=⟨[],[],[none],[],[],false,false,[]⟩
def zMZ:CF:=cfD zGj 86
def zAO:Nat→Sh:=zj []
def zzM(L:Nat):CBC:=noC
def zPi{β:Type}(L:Nat)(A:List V)(z:Bool→Ob β):Ob β:=chk (0+33≤(XK A)) (eqC 33 (XL 33 A) (We 32 (Qa (0:Int))++[(Qc (4294967295:Int))]) fun C=>z C)
theorem zUV{β:Type}(L:Nat)(z:List V)(k:KK β):yh zAO (zzM L) L zMZ [(V.agg z)] [] k=zPi L z (fun z=>k (V.sc (.bool z)) []):=by kernel_rfl
abbrev yE:=∀ (β:Type),Nat→List V→(Bool→Ob β)→Ob β
def xd:yE:=fun β=>@zPi β
def zv4(xd:yE)(L:Nat):Dk:=dA AG fun z=>d0 fun β k=>xd β L z (fun z=>k (V.sc (.bool z)) [])
theorem zVL(L:Nat):DK (zv4 xd L) (fun _=>yh zAO (zzM L) L zMZ):=xv zak fun z=>yK fun _ k=>zUV L z k
def zwO:Hint:=⟨[(0,0)],[],[none],[],[],false,false,[]⟩
def zB4:CF:=cfD zwO 46
def zqC:Nat→Sh:=zj [(4,(.sl 35)),(9,(.sl 35))]
def zq9(xd:yE)(L:Nat):CBC:=(xe 152 (zv4 xd L) noC)
def zEK{β:Type}(xd:yE)(L:Nat)(A:List V)(z:Bool→Ob β):Ob β:=cLd 35 A 1 fun C=>ifb ((((XK C:Nat):Int):Int)==(1:Int)) (cLd 35 A 1 fun D=>idx D (0:Int) fun E=>xd β L (XL 33 E) (fun F=>z F)) (z false)
theorem zOp{β:Type}(xd:yE)(L:Nat)(z:List V)(k:KK β):yh zqC (zq9 xd L) L zB4 [(V.agg z)] [] k=zEK xd L z (fun z=>k (V.sc (.bool z)) []):=by kernel_rfl
abbrev yn:=∀ (β:Type),Nat→List V→(Bool→Ob β)→Ob β
def zb:yn:=fun β=>@zEK β xd
def zeO(zb:yn)(L:Nat):Dk:=dA AG fun z=>d0 fun β k=>zb β L z (fun z=>k (V.sc (.bool z)) [])
theorem zOd(L:Nat):DK (zeO zb L) (fun _=>yh zqC (zq9 xd L) L zB4):=xv zak fun z=>yK fun _ k=>zOp xd L z k
def zEF:Hint:=⟨[(0,0),(8,2),(26,2)],[],[none,none,none,none,none,some ((bl 117440522 81),(bl 2417851639229258349411803 81)),none,some ((bl 10 81),(bl 2417851639229258349411803 81)),none,none,some ((bl 4 81),(bl 2417851639229258349411797 81)),none,none,none,some ((bl 13194139533314 81),(bl 2417851639229258349411611 81)),none,some ((bl 2 81),(bl 2417851639229258349411611 81)),none,none,some ((bl 13194139533506 81),(bl 2417851639229258349411803 81)),none,some ((bl 13194139533314 81),(bl 2417851639229258349411675 81)),none,none,some ((bl 4 81),(bl 2417851639229258349411613 81)),none,some ((bl 516508834063867445250 81),(bl 2247846445845951121718747 81)),none,some ((bl 0 81),(bl 2247846445845951121718745 81)),none,none,some ((bl 4 81),(bl 2247846445845951121718749 81)),none],[],[],false,false,[]⟩
def cf_ref09_Check:CF:=cfD zEF 47
def ze8:CC:=yz [1,1,1,1,1,1,0,1,0,0,1,1,0,0,1,1,0,0] cf_ref09_Check.body
def zhr:CC:=yz [1,1,1,1,1,1,0,1,0,0,1,1,1] cf_ref09_Check.body
def zi0:CC:=yz [1,1,1,1,1,1,1,0,1,0,0] cf_ref09_Check.body
def zf2:CC:=yz [1,1,1,1,1,1,0,1,0,0] cf_ref09_Check.body
def zlk:CC:=yz [1,1,1,1,1,1,1,1] cf_ref09_Check.body
def zk9:CC:=yz [1,1,1,1,0,1,0,0] cf_ref09_Check.body
def zh8:CC:=yz [1,1,1,1,1,1,1] cf_ref09_Check.body
def zjy:CC:=yz [1,1,1,1,1] cf_ref09_Check.body
def yN:Nat→Sh:=zj [(14,(.sl 35)),(19,(.sl 2)),(24,(.sl 2)),(31,(.int .i64)),(35,(.int .i64)),(41,(.sl 35)),(66,(.sl 35)),(52,(.sl 35)),(58,(.sl 35))]
def zN(yc:zt)(xd:yE)(zb:yn)(L:Nat):CBC:=(xe 153 (zeO zb L) (xe 152 (zv4 xd L) (xe 148 (zeC yc L) noC)))
def zl9:St→St:=yM 0 (bl 117440522 81) (bl 2417851639229258349411803 81)
def zcb:St→St:=yM 0 (bl 13194139533314 81) (bl 2417851639229258349411611 81)
def zfq:St→St:=yM 0 (bl 13194139533506 81) (bl 2417851639229258349411803 81)
def zjl:St→St:=yM 0 (bl 516508834063867445250 81) (bl 2247846445845951121718747 81)
def zf7(D:Int)(z:Ls)(A C:Int)(E:List V):St:=⟨(jn 1 ((V.ptr 1 0)::(jn 1 ((Qe D)::(jn 20 ((V.sl 2 z)::((Qe A)::((Qe C)::(jn 54 []))))))))),(gn 1 ((.live true E)::(gn 79 [])))⟩
def zaL(z:Int):St:=⟨(jn 2 ((Qe z)::(jn 78 []))),(gn 81 [])⟩
def zkR(z:Int)(A:List V):St:=⟨(jn 1 ((V.ptr 1 0)::(jn 1 ((Qe z)::(jn 77 []))))),(gn 1 ((.live true A)::(gn 79 [])))⟩
def zch(z A:Int)(C:List V):St:=⟨(jn 1 ((V.ptr 1 0)::(jn 40 ((Qe z)::((Qe A)::(jn 37 [])))))),(gn 1 ((.live true C)::(gn 79 [])))⟩
def zcy(C D z A:Int)(E:List V):St:=⟨(jn 1 ((V.ptr 1 0)::(jn 4 ((Qe C)::((Qe D)::(jn 34 ((Qe z)::((Qe A)::(jn 37 []))))))))),(gn 1 ((.live true E)::(gn 79 [])))⟩
def zhV(z:List V):St:=⟨(jn 1 ((V.ptr 1 0)::(jn 79 []))),(gn 1 ((.live true z)::(gn 79 [])))⟩
def zeF(z:Ls)(A C:Int)(D:List V):St:=⟨(jn 1 ((V.ptr 1 0)::(jn 64 ((V.sl 35 z)::((Qe A)::((Qe C)::(jn 12 []))))))),(gn 1 ((.live true D)::(gn 79 [])))⟩
def zre(z A:Int)(C:List V):St:=⟨(jn 1 ((V.ptr 1 0)::(jn 40 ((Qe z)::((Qe A)::(jn 37 [])))))),(gn 1 ((.live true C)::(gn 79 [])))⟩
def zq1:St:=⟨(jn 81 []),(gn 81 [])⟩
def zM1{β:Type}(yc:zt)(xd:yE)(zb:yn)(L:Nat)(C:List V)(z:Int→Ob β)(A:Int→Ls→Int→Int→List V→Ob β):Ob β:=chk (0+4≤(XK C)) (yc β L (Xv V.dem (XL 4 C)) (fun E=>ifb (!E) (z (4:Int)) (cLd 35 C 1 fun F=>ifb ((((XK F:Nat):Int):Int)==(0:Int)) (z (93:Int)) (cLd 2 C 2 fun G=>ifb ((((XK G:Nat):Int):Int)==(0:Int)) (z (93:Int)) (cLd 2 C 2 fun D=>A (0:Int) D ((XK D:Nat):Int) (0:Int) C)))))
theorem zTs{β:Type}(yc:zt)(xd:yE)(zb:yn)(L:Nat)(z:List V)(k:KK β):yh yN (zN yc xd zb L) L cf_ref09_Check [(V.agg z)] [] k=zM1 yc xd zb L z (fun z=>k (Qe z) []) (fun E A C D F=>zx (ze yN (zN yc xd zb L) 0 L zk9) zl9 L (zf7 E A C D F) (xi 0 (yv (ze yN (zN yc xd zb L) 0 L zjy) (zD 0 (CF.res cf_ref09_Check) k)))):=by kernel_rfl
def zul{β:Type}(yc:zt)(xd:yE)(zb:yn)(L:Nat)(G:Int)(D:Ls)(E A:Int)(H:List V)(C:Int→Ob β)(z:Int→Ls→Int→Int→List V→Ob β)(F:Int→List V→Ob β):Ob β:=ifb (decide (A<E)) (idx D A fun I=>chk ((XK (XL 2 I))=2∧0+2≤2) (lt (zk [(Qe (0:Int)),(V.gs 1 ([]:Ls))] 0 (XL 2 I)) fun J=>cI .i64 J 0 fun M=>ifb (decide (M>(2100000000000000:Int))) (C (90:Int)) (cI .i64 J 0 fun N=>lt (QG .i64 ((G:Int)+N)) fun O=>lt (QG .i64 ((A:Int)+(1:Int))) fun P=>z O D E P H))) (F G H)
theorem zFz{β:Type}(yc:zt)(xd:yE)(zb:yn)(L:Nat)(D:Int)(z:Ls)(A C:Int)(E:List V)(X:St→Ob β)(K:KT β):ze yN (zN yc xd zb L) 0 L zk9 (zf7 D z A C E) (yH zl9 X K)=zul yc xd zb L D z A C E (fun F=>K .ret (zaL F)) (fun D z A C E=>X (zf7 D z A C E)) (fun D E=>K (.exit 0) (zkR D E)):=by kernel_rfl
def zqq{β:Type}(yc:zt)(xd:yE)(zb:yn)(L:Nat)(A:Int)(z:Int→Ob β):Ob β:=z A
theorem zzX{β:Type}(yc:zt)(xd:yE)(zb:yn)(L:Nat)(z:Int)(k:KK β):(xi 0 (yv (ze yN (zN yc xd zb L) 0 L zjy) (zD 0 (CF.res cf_ref09_Check) k))) .ret (zaL z)=zqq yc xd zb L z (fun A=>k (Qe A) []):=by kernel_rfl
def zrz{β:Type}(yc:zt)(xd:yE)(zb:yn)(L:Nat)(E:Int)(C:List V)(A:Int→Ob β)(z:Int→Int→List V→Ob β):Ob β:=ifb (decide (E>(2100000000000000:Int))) (A (90:Int)) (cLd 35 C 1 fun D=>z ((XK D:Nat):Int) (0:Int) C)
theorem zCk{β:Type}(yc:zt)(xd:yE)(zb:yn)(L:Nat)(A:Int)(z:List V)(k:KK β):(xi 0 (yv (ze yN (zN yc xd zb L) 0 L zjy) (zD 0 (CF.res cf_ref09_Check) k))) (.exit 0) (zkR A z)=zrz yc xd zb L A z (fun E=>k (Qe E) []) (fun C D z=>zx (ze yN (zN yc xd zb L) 0 L zf2) zcb L (zch C D z) (xi 2 (yv (ze yN (zN yc xd zb L) 0 L zh8) (zD 0 (CF.res cf_ref09_Check) k)))):=by kernel_rfl
def zrS{β:Type}(yc:zt)(xd:yE)(zb:yn)(L:Nat)(C A:Int)(E:List V)(z:Int→Int→Int→Int→List V→Ob β)(D:List V→Ob β):Ob β:=ifb (decide (A<C)) (z A (0:Int) C A E) (D E)
theorem zCh{β:Type}(yc:zt)(xd:yE)(zb:yn)(L:Nat)(z A:Int)(C:List V)(X:St→Ob β)(K:KT β):ze yN (zN yc xd zb L) 0 L zf2 (zch z A C) (yH zcb X K)=zrS yc xd zb L z A C (fun D E z A C=>zx (ze yN (zN yc xd zb L) 0 L ze8) zfq L (zcy D E z A C) (xi 4 (xi 3 (yv (ze yN (zN yc xd zb L) 0 L zhr) (yH zcb X K))))) (fun C=>K (.exit 2) (zhV C)):=by kernel_rfl
def zoI{β:Type}(yc:zt)(xd:yE)(zb:yn)(L:Nat)(C:List V)(z:Ls→Int→Int→List V→Ob β):Ob β:=cLd 35 C 1 fun A=>z A ((XK A:Nat):Int) (0:Int) C
theorem zyY{β:Type}(yc:zt)(xd:yE)(zb:yn)(L:Nat)(z:List V)(k:KK β):(xi 2 (yv (ze yN (zN yc xd zb L) 0 L zh8) (zD 0 (CF.res cf_ref09_Check) k))) (.exit 2) (zhV z)=zoI yc xd zb L z (fun A C D z=>zx (ze yN (zN yc xd zb L) 0 L zi0) zjl L (zeF A C D z) (xi 6 (yv (ze yN (zN yc xd zb L) 0 L zlk) (zD 0 (CF.res cf_ref09_Check) k)))):=by kernel_rfl
def zjX{β:Type}(yc:zt)(xd:yE)(zb:yn)(L:Nat)(F G D E:Int)(A:List V)(C:Int→Ob β)(z:Int→Int→Int→Int→List V→Ob β)(H:Int→Int→List V→Ob β):Ob β:=ifb (decide (G<F)) (cLd 35 A 1 fun I=>idx I F fun J=>cLd 35 A 1 fun M=>idx M G fun N=>eqC 33 (XL 33 J) (XL 33 N) fun O=>ifb O (C (91:Int)) (lt (QG .i64 ((G:Int)+(1:Int))) fun P=>z F P D E A)) (H D E A)
theorem zsf{β:Type}(yc:zt)(xd:yE)(zb:yn)(L:Nat)(D E z A:Int)(C:List V)(X:St→Ob β)(K:KT β):ze yN (zN yc xd zb L) 0 L ze8 (zcy D E z A C) (yH zfq X K)=zjX yc xd zb L D E z A C (fun F=>K .ret (zaL F)) (fun D E z A C=>X (zcy D E z A C)) (fun z A C=>K (.exit 4) (zre z A C)):=by kernel_rfl
def zqz{β:Type}(yc:zt)(xd:yE)(zb:yn)(L:Nat)(C:Ls)(D A:Int)(E:List V)(F:Int→Ob β)(z:Ls→Int→Int→List V→Ob β)(I:Ob β):Ob β:=ifb (decide (A<D)) (idx C A fun G=>chk ((XK (XL 35 G))=35∧0+35≤35) (lt (zk (We 32 (Qa (0:Int))++[(Qc (0:Int)),(Qc (0:Int)),(V.gs 1 ([]:Ls))]) 0 (XL 35 G)) fun H=>chk (0+33≤(XK H)) (xd β L (XL 33 H) (fun J=>ifb J (chk (0+4≤(XK E)) (zb β L (Xv V.dem (XL 4 E)) (fun M=>ifb (!M) (F (92:Int)) (lt (QG .i64 ((A:Int)+(1:Int))) fun N=>z C D N E)))) (lt (QG .i64 ((A:Int)+(1:Int))) fun O=>z C D O E))))) (I)
theorem zzW{β:Type}(yc:zt)(xd:yE)(zb:yn)(L:Nat)(z:Ls)(A C:Int)(D:List V)(X:St→Ob β)(K:KT β):ze yN (zN yc xd zb L) 0 L zi0 (zeF z A C D) (yH zjl X K)=zqz yc xd zb L z A C D (fun E=>K .ret (zaL E)) (fun z A C D=>X (zeF z A C D)) (K (.exit 6) (zq1)):=by kernel_rfl
def ziw{β:Type}(yc:zt)(xd:yE)(zb:yn)(L:Nat)(A:Int)(z:Int→Ob β):Ob β:=z A
theorem zoJ{β:Type}(yc:zt)(xd:yE)(zb:yn)(L:Nat)(z:Int)(X:St→Ob β)(K:KT β):(xi 4 (xi 3 (yv (ze yN (zN yc xd zb L) 0 L zhr) (yH zcb X K)))) .ret (zaL z)=ziw yc xd zb L z (fun z=>K .ret (zaL z)):=by kernel_rfl
def ziS{β:Type}(yc:zt)(xd:yE)(zb:yn)(L:Nat)(A C:Int)(E:List V)(z:Int→Int→List V→Ob β):Ob β:=lt (QG .i64 ((C:Int)+(1:Int))) fun D=>z A D E
theorem zpX{β:Type}(yc:zt)(xd:yE)(zb:yn)(L:Nat)(z A:Int)(C:List V)(X:St→Ob β)(K:KT β):(xi 4 (xi 3 (yv (ze yN (zN yc xd zb L) 0 L zhr) (yH zcb X K)))) (.exit 4) (zre z A C)=ziS yc xd zb L z A C (fun z A C=>X (zch z A C)):=by kernel_rfl
def zm8{β:Type}(yc:zt)(xd:yE)(zb:yn)(L:Nat)(A:Int)(z:Int→Ob β):Ob β:=z A
theorem zwA{β:Type}(yc:zt)(xd:yE)(zb:yn)(L:Nat)(z:Int)(k:KK β):(xi 6 (yv (ze yN (zN yc xd zb L) 0 L zlk) (zD 0 (CF.res cf_ref09_Check) k))) .ret (zaL z)=zm8 yc xd zb L z (fun A=>k (Qe A) []):=by kernel_rfl
def zn7{β:Type}(yc:zt)(xd:yE)(zb:yn)(L:Nat)(z:Int→Ob β):Ob β:=z (0:Int)
theorem zw5{β:Type}(yc:zt)(xd:yE)(zb:yn)(L:Nat)(k:KK β):(xi 6 (yv (ze yN (zN yc xd zb L) 0 L zlk) (zD 0 (CF.res cf_ref09_Check) k))) (.exit 6) (zq1)=zn7 yc xd zb L (fun z=>k (Qe z) []):=by kernel_rfl
def zoi{β:Type}(yc:zt)(xd:yE)(zb:yn)(L:Nat)(A:Int)(z:Int→Ob β):Ob β:=z A
theorem zxa{β:Type}(yc:zt)(xd:yE)(zb:yn)(L:Nat)(z:Int)(k:KK β):(xi 2 (yv (ze yN (zN yc xd zb L) 0 L zh8) (zD 0 (CF.res cf_ref09_Check) k))) .ret (zaL z)=zoi yc xd zb L z (fun A=>k (Qe A) []):=by kernel_rfl
def zmU{β:Type}(yc:zt)(xd:yE)(zb:yn)(L:Nat)(z:Int→Ob β)(A:Int→List V→Ob β):Nat→Int→Ls→Int→Int→List V→Ob β
 | 0,_,_,_,_,_=>none
 | n+1,F,C,D,E,G=>zul yc xd zb L F C D E G z (fun F C D E G=>zmU yc xd zb L z A n F C D E G) A
theorem zqu{β:Type}(yc:zt)(xd:yE)(zb:yn)(L:Nat)(K:KT β):∀ (n:Nat) (z:Int) (C:Ls) (D E:Int) (A:List V),zx (ze yN (zN yc xd zb L) 0 L zk9) zl9 n (zf7 z C D E A) K=zmU yc xd zb L (fun F=>K .ret (zaL F)) (fun z A=>K (.exit 0) (zkR z A)) n z C D E A:=by
 intro n; induction n <;> intros
 ·rfl
 ·exact (zFz ..).trans (by simp only [*]; rfl)
def zfw{β:Type}(yc:zt)(xd:yE)(zb:yn)(L:Nat)(z:Int→Ob β)(A:Int→Int→List V→Ob β):Nat→Int→Int→Int→Int→List V→Ob β
 | 0,_,_,_,_,_=>none
 | n+1,E,F,C,D,G=>zjX yc xd zb L E F C D G z (fun E F C D G=>zfw yc xd zb L z A n E F C D G) A
theorem ziy{β:Type}(yc:zt)(xd:yE)(zb:yn)(L:Nat)(K:KT β):∀ (n:Nat) (D E z A:Int) (C:List V),zx (ze yN (zN yc xd zb L) 0 L ze8) zfq n (zcy D E z A C) K=zfw yc xd zb L (fun F=>K .ret (zaL F)) (fun z A C=>K (.exit 4) (zre z A C)) n D E z A C:=by
 intro n; induction n <;> intros
 ·rfl
 ·exact (zsf ..).trans (by simp only [*]; rfl)
def zjo{β:Type}(yc:zt)(xd:yE)(zb:yn)(L:Nat)(A C:Int)(D:List V)(F:List V→Ob β)(E:Int→Ob β)(z:Int→Int→List V→Ob β):Ob β:=zrS yc xd zb L A C D (fun G H A C D=>zfw yc xd zb L (fun I=>ziw yc xd zb L I E) (fun A C D=>ziS yc xd zb L A C D z) L G H A C D) F
theorem zAD{β:Type}(yc:zt)(xd:yE)(zb:yn)(L:Nat)(z A:Int)(C:List V)(X:St→Ob β)(K:KT β):ze yN (zN yc xd zb L) 0 L zf2 (zch z A C) (yH zcb X K)=zjo yc xd zb L z A C (fun C=>K (.exit 2) (zhV C)) (fun D=>K .ret (zaL D)) (fun z A C=>X (zch z A C)):=by
 refine (zCh yc xd zb L z A C X K).trans ?_
 unfold zjo
 first
  | (simp only [ziy,zoJ,zpX]; done)
  | (simp only [ziy]; rfl)
def zko{β:Type}(yc:zt)(xd:yE)(zb:yn)(L:Nat)(A:List V→Ob β)(z:Int→Ob β):Nat→Int→Int→List V→Ob β
 | 0,_,_,_=>none
 | n+1,C,D,E=>zjo yc xd zb L C D E A z (fun C D E=>zko yc xd zb L A z n C D E)
theorem zop{β:Type}(yc:zt)(xd:yE)(zb:yn)(L:Nat)(K:KT β):∀ (n:Nat) (A C:Int) (z:List V),zx (ze yN (zN yc xd zb L) 0 L zf2) zcb n (zch A C z) K=zko yc xd zb L (fun z=>K (.exit 2) (zhV z)) (fun D=>K .ret (zaL D)) n A C z:=by
 intro n; induction n <;> intros
 ·rfl
 ·exact (zAD ..).trans (by simp only [*]; rfl)
def zjw{β:Type}(yc:zt)(xd:yE)(zb:yn)(L:Nat)(z:Int→Ob β)(A:Ob β):Nat→Ls→Int→Int→List V→Ob β
 | 0,_,_,_,_=>none
 | n+1,C,D,E,F=>zqz yc xd zb L C D E F z (fun C D E F=>zjw yc xd zb L z A n C D E F) A
theorem zm2{β:Type}(yc:zt)(xd:yE)(zb:yn)(L:Nat)(K:KT β):∀ (n:Nat) (z:Ls) (A C:Int) (D:List V),zx (ze yN (zN yc xd zb L) 0 L zi0) zjl n (zeF z A C D) K=zjw yc xd zb L (fun E=>K .ret (zaL E)) (K (.exit 6) (zq1)) n z A C D:=by
 intro n; induction n <;> intros
 ·rfl
 ·exact (zzW ..).trans (by simp only [*]; rfl)
def zib{β:Type}(yc:zt)(xd:yE)(zb:yn)(L:Nat)(A:List V)(z:Int→Ob β):Ob β:=zoI yc xd zb L A (fun C D E A=>zjw yc xd zb L (fun F=>zm8 yc xd zb L F z) (zn7 yc xd zb L z) L C D E A)
theorem zxM{β:Type}(yc:zt)(xd:yE)(zb:yn)(L:Nat)(z:List V)(k:KK β):(xi 2 (yv (ze yN (zN yc xd zb L) 0 L zh8) (zD 0 (CF.res cf_ref09_Check) k))) (.exit 2) (zhV z)=zib yc xd zb L z (fun A=>k (Qe A) []):=by
 refine (zyY yc xd zb L z k).trans ?_
 unfold zib
 first
  | (simp only [zm2,zwA,zw5]; done)
  | (simp only [zm2]; rfl)
def zjr{β:Type}(yc:zt)(xd:yE)(zb:yn)(L:Nat)(E:Int)(A:List V)(z:Int→Ob β):Ob β:=zrz yc xd zb L E A z (fun C D A=>zko yc xd zb L (fun A=>zib yc xd zb L A z) (fun F=>zoi yc xd zb L F z) L C D A)
theorem zAt{β:Type}(yc:zt)(xd:yE)(zb:yn)(L:Nat)(z:Int)(A:List V)(k:KK β):(xi 0 (yv (ze yN (zN yc xd zb L) 0 L zjy) (zD 0 (CF.res cf_ref09_Check) k))) (.exit 0) (zkR z A)=zjr yc xd zb L z A (fun C=>k (Qe C) []):=by
 refine (zCk yc xd zb L z A k).trans ?_
 unfold zjr
 first
  | (simp only [zop,zxM,zxa]; done)
  | (simp only [zop]; rfl)
def zAZ{β:Type}(yc:zt)(xd:yE)(zb:yn)(L:Nat)(G:List V)(z:Int→Ob β):Ob β:=zM1 yc xd zb L G z (fun A D E F C=>zmU yc xd zb L (fun H=>zqq yc xd zb L H z) (fun A C=>zjr yc xd zb L A C z) L A D E F C)
theorem zS1{β:Type}(yc:zt)(xd:yE)(zb:yn)(L:Nat)(z:List V)(k:KK β):yh yN (zN yc xd zb L) L cf_ref09_Check [(V.agg z)] [] k=zAZ yc xd zb L z (fun z=>k (Qe z) []):=by
 refine (zTs yc xd zb L z k).trans ?_
 unfold zAZ
 first
  | (simp only [zqu,zzX,zAt]; done)
  | (simp only [zqu]; rfl)
abbrev zaF:=∀ (β:Type),Nat→List V→(Int→Ob β)→Ob β
def xE:zaF:=fun β=>@zAZ β yc xd zb
def zm5(xE:zaF)(L:Nat):Dk:=dA AG fun z=>d0 fun β k=>xE β L z (fun z=>k (Qe z) [])
theorem zTb(L:Nat):DK (zm5 xE L) (fun _=>yh yN (zN yc xd zb L) L cf_ref09_Check):=xv zak fun z=>yK fun _ k=>zS1 yc xd zb L z k
def zM0:Hint:=⟨[(0,0)],[],[none,none,none],[],[],false,false,[]⟩
def z3z:CF:=cfD zM0 25
def yb0:Nat→Sh:=zj []
def ybZ(yc:zt)(yd:xD)(yJ:zcP)(L:Nat):CBC:=(xe 454 (ziJ yJ L) (xe 149 (zeR yd L) (xe 148 (zeC yc L) noC)))
def z5l{β:Type}(yc:zt)(yd:xD)(yJ:zcP)(L:Nat)(A:List V)(z:List V→Ob β):Ob β:=chk (0+4≤(XK A)) (yc β L (Xv V.dem (XL 4 A)) (fun F=>ifb (!F) (lt (We 32 (Qa (0:Int))) fun C=>chk (0=0∧(XK C)=32∧32≠0) (z C)) (chk (0+4≤(XK A)) (yd β L (Xv V.dem (XL 4 A)) false (fun G=>yJ β L G (fun D=>chk ((XK D)=32∧0+32≤32) (lt (zk (We 32 (Qa (0:Int))) 0 D) fun E=>chk (0=0∧(XK E)=32∧32≠0) (z E))))))))
abbrev zbE:=∀ (β:Type),Nat→List V→(List V→Ob β)→Ob β
def zR:zbE:=fun β=>@z5l β yc yd yJ
def z5N(zR:zbE)(L:Nat):Dk:=dA AG fun z=>d0 fun β k=>zR β L z (fun z=>k (V.agg z) [])
def zEC:Hint:=⟨[],[],[none,some ((bl 393 19),(bl 524239 19)),none,some ((bl 0 19),(bl 524231 19)),none,none,some ((bl 16 19),(bl 524247 19)),none],[],[],false,false,[]⟩
def cf_ref11_place:CF:=cfD zEC 48
def zo0:CC:=yz [1,0,1,0,0] cf_ref11_place.body
def zvU:CC:=yz [1,1] cf_ref11_place.body
def zcU:Nat→Sh:=zj []
def zcZ(L:Nat):CBC:=noC
def zrl:St→St:=yM 0 (bl 393 19) (bl 524239 19)
def zhW(z:Ls)(A C:Int)(D:List V):St:=⟨((V.sl 32 z)::(jn 2 ((V.ptr 3 0)::(jn 3 ((Qe A)::((Qe C)::(jn 10 []))))))),(gn 3 ((.live true D)::(gn 15 [])))⟩
def zpb(z:Int):St:=⟨(jn 4 ((Qe z)::(jn 14 []))),(gn 19 [])⟩
def zrk:St:=⟨(jn 19 []),(gn 19 [])⟩
def zNA{β:Type}(L:Nat)(A:Ls)(C:List V)(z:Ls→Int→Int→List V→Ob β):Ob β:=z A ((XK A:Nat):Int) (0:Int) C
theorem zTA{β:Type}(L:Nat)(z:Ls)(A:List V)(k:KK β):yh zcU (zcZ L) L cf_ref11_place [(V.sl 32 z),(V.agg A)] [] k=zNA L z A (fun z C D E=>zx (ze zcU (zcZ L) 0 L zo0) zrl L (zhW z C D E) (xi 0 (yv (ze zcU (zcZ L) 0 L zvU) (zD 0 (CF.res cf_ref11_place) k)))):=by kernel_rfl
def zBg{β:Type}(L:Nat)(F:Ls)(G A:Int)(D:List V)(C:Int→Ob β)(z:Ls→Int→Int→List V→Ob β)(E:Ob β):Ob β:=ifb (decide (A<G)) (idx F A fun H=>chk (0+32≤(XK D)) (eqC 32 (XL 32 H) (XL 32 D) fun I=>ifb I (C A) (lt (QG .i64 ((A:Int)+(1:Int))) fun J=>z F G J D))) (E)
theorem zLI{β:Type}(L:Nat)(z:Ls)(A C:Int)(D:List V)(X:St→Ob β)(K:KT β):ze zcU (zcZ L) 0 L zo0 (zhW z A C D) (yH zrl X K)=zBg L z A C D (fun E=>K .ret (zpb E)) (fun z A C D=>X (zhW z A C D)) (K (.exit 0) (zrk)):=by kernel_rfl
def zwj{β:Type}(L:Nat)(A:Int)(z:Int→Ob β):Ob β:=z A
theorem zFb{β:Type}(L:Nat)(z:Int)(k:KK β):(xi 0 (yv (ze zcU (zcZ L) 0 L zvU) (zD 0 (CF.res cf_ref11_place) k))) .ret (zpb z)=zwj L z (fun A=>k (Qe A) []):=by kernel_rfl
def zwG{β:Type}(L:Nat)(z:Int→Ob β):Ob β:=z (-1:Int)
theorem zIf{β:Type}(L:Nat)(k:KK β):(xi 0 (yv (ze zcU (zcZ L) 0 L zvU) (zD 0 (CF.res cf_ref11_place) k))) (.exit 0) (zrk)=zwG L (fun z=>k (Qe z) []):=by kernel_rfl
def zrw{β:Type}(L:Nat)(z:Int→Ob β)(A:Ob β):Nat→Ls→Int→Int→List V→Ob β
 | 0,_,_,_,_=>none
 | n+1,C,D,E,F=>zBg L C D E F z (fun C D E F=>zrw L z A n C D E F) A
theorem zvc{β:Type}(L:Nat)(K:KT β):∀ (n:Nat) (z:Ls) (A C:Int) (D:List V),zx (ze zcU (zcZ L) 0 L zo0) zrl n (zhW z A C D) K=zrw L (fun E=>K .ret (zpb E)) (K (.exit 0) (zrk)) n z A C D:=by
 intro n; induction n <;> intros
 ·rfl
 ·exact (zLI ..).trans (by simp only [*]; rfl)
def zAl{β:Type}(L:Nat)(A:Ls)(C:List V)(z:Int→Ob β):Ob β:=zNA L A C (fun A D E F=>zrw L (fun G=>zwj L G z) (zwG L z) L A D E F)
theorem zTd{β:Type}(L:Nat)(z:Ls)(A:List V)(k:KK β):yh zcU (zcZ L) L cf_ref11_place [(V.sl 32 z),(V.agg A)] [] k=zAl L z A (fun z=>k (Qe z) []):=by
 refine (zTA L z A k).trans ?_
 unfold zAl
 first
  | (simp only [zvc,zFb,zIf]; done)
  | (simp only [zvc]; rfl)
abbrev xG:=∀ (β:Type),Nat→Ls→List V→(Int→Ob β)→Ob β
def xg:xG:=fun β=>@zAl β
def zmY(xg:xG)(L:Nat):Dk:=dA (AL 32) fun z=>dA AG fun A=>d0 fun β k=>xg β L z A (fun z=>k (Qe z) [])
theorem zTG(L:Nat):DK (zmY xg L) (fun _=>yh zcU (zcZ L) L cf_ref11_place):=xv zaZ fun z=>xv zak fun A=>yK fun _ k=>zTd L z A k
def zyW:Hint:=⟨[(0,0),(3,3),(6,2)],[],[none,some ((bl 7170 33),(bl 8320974475 33)),none,some ((bl 0 33),(bl 8320974475 33)),none,none,some ((bl 1842210 33),(bl 8321498795 33)),none,some ((bl 7170 33),(bl 8321498795 33)),none,none,some ((bl 16 33),(bl 8320974491 33)),none],[],[],false,false,[]⟩
def cf_ref11_forward:CF:=cfD zyW 49
def zgn:CC:=yz [1,0,1,0,0,1,1,0,0,1,1,0,0] cf_ref11_forward.body
def zjk:CC:=yz [1,0,1,0,0,1,1,1] cf_ref11_forward.body
def zig:CC:=yz [1,0,1,0,0] cf_ref11_forward.body
def zrg:CC:=yz [1,1] cf_ref11_forward.body
def zaq:Nat→Sh:=zj [(10,(.sl 4)),(18,(.sl 35))]
def zar(xg:xG)(L:Nat):CBC:=(xe 556 (zmY xg L) noC)
def zc4:St→St:=yM 0 (bl 7170 33) (bl 8320974475 33)
def zg6:St→St:=yM 0 (bl 1842210 33) (bl 8321498795 33)
def zcX(D z:Ls)(A C:Int):St:=⟨(jn 1 ((V.sl 32 D)::(jn 8 ((V.sl 4 z)::((Qe A)::((Qe C)::(jn 20 []))))))),(gn 33 [])⟩
def zdn(G:Ls)(H:Int)(z:Ls)(A C:Int)(D:Ls)(E F:Int):St:=⟨(jn 1 ((V.sl 32 G)::(jn 3 ((Qe H)::(jn 4 ((V.sl 4 z)::((Qe A)::((Qe C)::(jn 5 ((V.sl 35 D)::((Qe E)::((Qe F)::(jn 12 []))))))))))))),(gn 33 [])⟩
def zjc:St:=⟨(jn 33 []),(gn 33 [])⟩
def zcI(z:Bool):St:=⟨(jn 4 ((V.sc (.bool z))::(jn 28 []))),(gn 33 [])⟩
def znl(D z:Ls)(A C:Int):St:=⟨(jn 1 ((V.sl 32 D)::(jn 8 ((V.sl 4 z)::((Qe A)::((Qe C)::(jn 20 []))))))),(gn 33 [])⟩
abbrev zls(β:Type):Type:=Ls→Int→Ls→Int→Int→Ls→Int→Int→Ob β
def zG0{β:Type}(xg:xG)(L:Nat)(C:List V)(D:Ls)(z:Ls→Ls→Int→Int→Ob β):Ob β:=cLd 4 C 68 fun A=>z D A ((XK A:Nat):Int) (0:Int)
theorem zPv{β:Type}(xg:xG)(L:Nat)(A:List V)(z:Ls)(k:KK β):yh zaq (zar xg L) L cf_ref11_forward [(V.agg A),(V.sl 32 z)] [] k=zG0 xg L A z (fun z C D E=>zx (ze zaq (zar xg L) 0 L zig) zc4 L (zcX z C D E) (xi 0 (yv (ze zaq (zar xg L) 0 L zrg) (zD 0 (CF.res cf_ref11_forward) k)))):=by kernel_rfl
def zwZ{β:Type}(xg:xG)(L:Nat)(H C:Ls)(D A:Int)(z:zls β)(E:Ob β):Ob β:=ifb (decide (A<D)) (idx C A fun F=>chk ((XK (XL 4 F))=4∧0+4≤4) (lt (zk [(Qc (0:Int)),(V.gs 35 ([]:Ls)),(V.gs 2 ([]:Ls)),(Qc (0:Int))] 0 (XL 4 F)) fun I=>cLd 35 I 1 fun G=>z H A C D A G ((XK G:Nat):Int) (0:Int))) (E)
theorem zHX{β:Type}(xg:xG)(L:Nat)(D z:Ls)(A C:Int)(X:St→Ob β)(K:KT β):ze zaq (zar xg L) 0 L zig (zcX D z A C) (yH zc4 X K)=zwZ xg L D z A C (fun D H z A C E F G=>zx (ze zaq (zar xg L) 0 L zgn) zg6 L (zdn D H z A C E F G) (xi 2 (xi 1 (yv (ze zaq (zar xg L) 0 L zjk) (yH zc4 X K))))) (K (.exit 0) (zjc)):=by kernel_rfl
def ztn{β:Type}(xg:xG)(L:Nat)(z:Bool→Ob β):Ob β:=z false
theorem zD7{β:Type}(xg:xG)(L:Nat)(k:KK β):(xi 0 (yv (ze zaq (zar xg L) 0 L zrg) (zD 0 (CF.res cf_ref11_forward) k))) (.exit 0) (zjc)=ztn xg L (fun z=>k (V.sc (.bool z)) []):=by kernel_rfl
def zlS{β:Type}(xg:xG)(L:Nat)(I:Ls)(M:Int)(D:Ls)(E F:Int)(G:Ls)(H A:Int)(C:Bool→Ob β)(z:zls β)(J:Ls→Ls→Int→Int→Ob β):Ob β:=ifb (decide (A<H)) (idx G A fun N=>chk ((XK (XL 35 N))=35∧0+35≤35) (lt (zk (We 32 (Qa (0:Int))++[(Qc (0:Int)),(Qc (0:Int)),(V.gs 1 ([]:Ls))]) 0 (XL 35 N)) fun O=>chk (0+32≤(XK O)) (xg β L I (XL 32 O) (fun P=>ifb (decide (P≥M)) (C true) (lt (QG .i64 ((A:Int)+(1:Int))) fun Q=>z I M D E F G H Q))))) (J I D E F)
theorem zuR{β:Type}(xg:xG)(L:Nat)(G:Ls)(H:Int)(z:Ls)(A C:Int)(D:Ls)(E F:Int)(X:St→Ob β)(K:KT β):ze zaq (zar xg L) 0 L zgn (zdn G H z A C D E F) (yH zg6 X K)=zlS xg L G H z A C D E F (fun I=>K .ret (zcI I)) (fun G H z A C D E F=>X (zdn G H z A C D E F)) (fun G z A C=>K (.exit 2) (znl G z A C)):=by kernel_rfl
def zjB{β:Type}(xg:xG)(L:Nat)(A:Bool)(z:Bool→Ob β):Ob β:=z A
theorem zsc{β:Type}(xg:xG)(L:Nat)(z:Bool)(X:St→Ob β)(K:KT β):(xi 2 (xi 1 (yv (ze zaq (zar xg L) 0 L zjk) (yH zc4 X K)))) .ret (zcI z)=zjB xg L z (fun z=>K .ret (zcI z)):=by kernel_rfl
def zkI{β:Type}(xg:xG)(L:Nat)(E A:Ls)(C D:Int)(z:Ls→Ls→Int→Int→Ob β):Ob β:=lt (QG .i64 ((D:Int)+(1:Int))) fun F=>z E A C F
theorem zti{β:Type}(xg:xG)(L:Nat)(D z:Ls)(A C:Int)(X:St→Ob β)(K:KT β):(xi 2 (xi 1 (yv (ze zaq (zar xg L) 0 L zjk) (yH zc4 X K)))) (.exit 2) (znl D z A C)=zkI xg L D z A C (fun D z A C=>X (zcX D z A C)):=by kernel_rfl
def zr1{β:Type}(xg:xG)(L:Nat)(A:Bool)(z:Bool→Ob β):Ob β:=z A
theorem zCg{β:Type}(xg:xG)(L:Nat)(z:Bool)(k:KK β):(xi 0 (yv (ze zaq (zar xg L) 0 L zrg) (zD 0 (CF.res cf_ref11_forward) k))) .ret (zcI z)=zr1 xg L z (fun A=>k (V.sc (.bool A)) []):=by kernel_rfl
def zgS{β:Type}(xg:xG)(L:Nat)(z:Bool→Ob β)(A:Ls→Ls→Int→Int→Ob β):Nat→Ls→Int→Ls→Int→Int→Ls→Int→Int→Ob β
 | 0,_,_,_,_,_,_,_,_=>none
 | n+1,I,J,C,D,E,F,G,H=>zlS xg L I J C D E F G H z (fun I J C D E F G H=>zgS xg L z A n I J C D E F G H) A
theorem zj2{β:Type}(xg:xG)(L:Nat)(K:KT β):∀ (n:Nat) (D:Ls) (H:Int) (z:Ls) (A C:Int) (E:Ls) (F G:Int),zx (ze zaq (zar xg L) 0 L zgn) zg6 n (zdn D H z A C E F G) K=zgS xg L (fun I=>K .ret (zcI I)) (fun D z A C=>K (.exit 2) (znl D z A C)) n D H z A C E F G:=by
 intro n; induction n <;> intros
 ·rfl
 ·exact (zuR ..).trans (by simp only [*]; rfl)
def zl4{β:Type}(xg:xG)(L:Nat)(E z:Ls)(A C:Int)(G:Ob β)(F:Bool→Ob β)(D:Ls→Ls→Int→Int→Ob β):Ob β:=zwZ xg L E z A C (fun E M z A C H I J=>zgS xg L (fun N=>zjB xg L N F) (fun E z A C=>zkI xg L E z A C D) L E M z A C H I J) G
theorem zFh{β:Type}(xg:xG)(L:Nat)(D z:Ls)(A C:Int)(X:St→Ob β)(K:KT β):ze zaq (zar xg L) 0 L zig (zcX D z A C) (yH zc4 X K)=zl4 xg L D z A C (K (.exit 0) (zjc)) (fun E=>K .ret (zcI E)) (fun D z A C=>X (zcX D z A C)):=by
 refine (zHX xg L D z A C X K).trans ?_
 unfold zl4
 first
  | (simp only [zj2,zsc,zti]; done)
  | (simp only [zj2]; rfl)
def zno{β:Type}(xg:xG)(L:Nat)(A:Ob β)(z:Bool→Ob β):Nat→Ls→Ls→Int→Int→Ob β
 | 0,_,_,_,_=>none
 | n+1,F,C,D,E=>zl4 xg L F C D E A z (fun F C D E=>zno xg L A z n F C D E)
theorem zrU{β:Type}(xg:xG)(L:Nat)(K:KT β):∀ (n:Nat) (D z:Ls) (A C:Int),zx (ze zaq (zar xg L) 0 L zig) zc4 n (zcX D z A C) K=zno xg L (K (.exit 0) (zjc)) (fun E=>K .ret (zcI E)) n D z A C:=by
 intro n; induction n <;> intros
 ·rfl
 ·exact (zFh ..).trans (by simp only [*]; rfl)
def zv6{β:Type}(xg:xG)(L:Nat)(F:List V)(A:Ls)(z:Bool→Ob β):Ob β:=zG0 xg L F A (fun A C D E=>zno xg L (ztn xg L z) (fun G=>zr1 xg L G z) L A C D E)
theorem zPP{β:Type}(xg:xG)(L:Nat)(z:List V)(A:Ls)(k:KK β):yh zaq (zar xg L) L cf_ref11_forward [(V.agg z),(V.sl 32 A)] [] k=zv6 xg L z A (fun z=>k (V.sc (.bool z)) []):=by
 refine (zPv xg L z A k).trans ?_
 unfold zv6
 first
  | (simp only [zrU,zD7,zCg]; done)
  | (simp only [zrU]; rfl)
abbrev zah:=∀ (β:Type),Nat→List V→Ls→(Bool→Ob β)→Ob β
def zA:zah:=fun β=>@zv6 β xg
def zn9(zA:zah)(L:Nat):Dk:=dA AG fun z=>dA (AL 32) fun A=>d0 fun β k=>zA β L z A (fun z=>k (V.sc (.bool z)) [])
theorem zOQ(L:Nat):DK (zn9 zA L) (fun _=>yh zaq (zar xg L) L cf_ref11_forward):=xv zak fun z=>xv zaZ fun A=>yK fun _ k=>zPP xg L z A k
def zEZ:Hint:=⟨[(0,0),(1,0),(4,2),(7,2),(14,0),(14,5)],[],[none,some ((bl 14344 42),(bl 3573378710873 42)),none,some ((bl 0 42),(bl 3573378710865 42)),none,none,some ((bl 1849352 42),(bl 3573379235161 42)),none,some ((bl 14344 42),(bl 3573379235161 42)),none,none,some ((bl 119289992 42),(bl 4398046510553 42)),none,some ((bl 1849480 42),(bl 4398046510553 42)),none,none,some ((bl 4 42),(bl 3573378710869 42)),none],[],[],false,false,[]⟩
def cf_ref11_twice:CF:=cfD zEZ 50
def zdB:CC:=yz [1,1,0,1,0,0,1,1,0,0,1,1,0,0,1,1,0,0,1,0,1,0,0] cf_ref11_twice.body
def zer:CC:=yz [1,1,0,1,0,0,1,1,0,0,1,1,0,0,1,1,0,0,1,1] cf_ref11_twice.body
def zfG:CC:=yz [1,1,0,1,0,0,1,1,0,0,1,1,0,0,1,1,1] cf_ref11_twice.body
def zeh:CC:=yz [1,1,0,1,0,0,1,1,0,0,1,1,0,0] cf_ref11_twice.body
def zkk:CC:=yz [1,1,0,1,0,0,1,1,1] cf_ref11_twice.body
def zjf:CC:=yz [1,1,0,1,0,0] cf_ref11_twice.body
def zsW:CC:=yz [1,1,1] cf_ref11_twice.body
def yU:Nat→Sh:=zj [(11,(.sl 4)),(18,(.sl 35))]
def zU(L:Nat):CBC:=noC
def zdK:St→St:=yM 0 (bl 14344 42) (bl 3573378710873 42)
def zbu:St→St:=yM 0 (bl 1849352 42) (bl 3573379235161 42)
def zd2:St→St:=yM 0 (bl 119289992 42) (bl 4398046510553 42)
def zdr(D z:Ls)(A C:Int):St:=⟨(jn 3 ((V.gs 33 D)::(jn 7 ((V.sl 4 z)::((Qe A)::((Qe C)::(jn 28 []))))))),(gn 42 [])⟩
def zbz(G z:Ls)(A C:Int)(D:Ls)(E F:Int):St:=⟨(jn 3 ((V.gs 33 G)::(jn 7 ((V.sl 4 z)::((Qe A)::((Qe C)::(jn 4 ((V.sl 35 D)::((Qe E)::((Qe F)::(jn 21 []))))))))))),(gn 42 [])⟩
def zkU:St:=⟨(jn 42 []),(gn 42 [])⟩
def zbW(J z:Ls)(A C:Int)(D:Ls)(E F:Int)(G:Ls)(H I:Int)(M:List V):St:=⟨(jn 3 ((V.gs 33 J)::(jn 3 ((V.ptr 7 0)::(jn 3 ((V.sl 4 z)::((Qe A)::((Qe C)::(jn 4 ((V.sl 35 D)::((Qe E)::((Qe F)::(jn 3 ((V.sl 33 G)::((Qe H)::((Qe I)::(jn 15 []))))))))))))))))),(gn 7 ((.live true M)::(gn 34 [])))⟩
def zkT(D z:Ls)(A C:Int):St:=⟨(jn 3 ((V.gs 33 D)::(jn 7 ((V.sl 4 z)::((Qe A)::((Qe C)::(jn 28 []))))))),(gn 42 [])⟩
def zbc(z:Bool):St:=⟨(jn 2 ((V.sc (.bool z))::(jn 39 []))),(gn 42 [])⟩
def zqF(G z:Ls)(A C:Int)(D:Ls)(E F:Int)(H:List V):St:=⟨(jn 3 ((V.gs 33 G)::(jn 3 ((V.ptr 7 0)::(jn 3 ((V.sl 4 z)::((Qe A)::((Qe C)::(jn 4 ((V.sl 35 D)::((Qe E)::((Qe F)::(jn 21 []))))))))))))),(gn 7 ((.live true H)::(gn 34 [])))⟩
abbrev zhb(β:Type):Type:=Ls→Ls→Int→Int→Ls→Int→Int→Ob β
abbrev zg7(β:Type):Type:=Ls→Ls→Int→Int→Ls→Int→Int→Ls→Int→Int→List V→Ob β
abbrev zHj(β:Type):Type:=Ls→Ls→Int→Int→Ls→Int→Int→List V→Ob β
def zNv{β:Type}(L:Nat)(C:List V)(z:Ls→Ls→Int→Int→Ob β):Ob β:=cLd 4 C 68 fun A=>z ([]:Ls) A ((XK A:Nat):Int) (0:Int)
theorem zT2{β:Type}(L:Nat)(z:List V)(k:KK β):yh yU (zU L) L cf_ref11_twice [(V.agg z)] [] k=zNv L z (fun E A C D=>zx (ze yU (zU L) 0 L zjf) zdK L (zdr E A C D) (xi 0 (yv (ze yU (zU L) 0 L zsW) (zD 0 (CF.res cf_ref11_twice) k)))):=by kernel_rfl
def zzw{β:Type}(L:Nat)(H C:Ls)(D A:Int)(z:zhb β)(E:Ob β):Ob β:=ifb (decide (A<D)) (idx C A fun F=>chk ((XK (XL 4 F))=4∧0+4≤4) (lt (zk [(Qc (0:Int)),(V.gs 35 ([]:Ls)),(V.gs 2 ([]:Ls)),(Qc (0:Int))] 0 (XL 4 F)) fun I=>cLd 35 I 1 fun G=>z H C D A G ((XK G:Nat):Int) (0:Int))) (E)
theorem zKS{β:Type}(L:Nat)(D z:Ls)(A C:Int)(X:St→Ob β)(K:KT β):ze yU (zU L) 0 L zjf (zdr D z A C) (yH zdK X K)=zzw L D z A C (fun D z A C E F G=>zx (ze yU (zU L) 0 L zeh) zbu L (zbz D z A C E F G) (xi 2 (xi 1 (yv (ze yU (zU L) 0 L zkk) (yH zdK X K))))) (K (.exit 0) (zkU)):=by kernel_rfl
def zvA{β:Type}(L:Nat)(z:Bool→Ob β):Ob β:=z false
theorem zFj{β:Type}(L:Nat)(k:KK β):(xi 0 (yv (ze yU (zU L) 0 L zsW) (zD 0 (CF.res cf_ref11_twice) k))) (.exit 0) (zkU)=zvA L (fun z=>k (V.sc (.bool z)) []):=by kernel_rfl
def zm3{β:Type}(L:Nat)(C D:Ls)(E F:Int)(G:Ls)(H A:Int)(z:zg7 β)(I:Ls→Ls→Int→Int→Ob β):Ob β:=ifb (decide (A<H)) (idx G A fun J=>chk ((XK (XL 35 J))=35∧0+35≤35) (lt (zk (We 32 (Qa (0:Int))++[(Qc (0:Int)),(Qc (0:Int)),(V.gs 1 ([]:Ls))]) 0 (XL 35 J)) fun M=>z C D E F G H A C ((XK C:Nat):Int) (0:Int) M)) (I C D E F)
theorem zwu{β:Type}(L:Nat)(G z:Ls)(A C:Int)(D:Ls)(E F:Int)(X:St→Ob β)(K:KT β):ze yU (zU L) 0 L zeh (zbz G z A C D E F) (yH zbu X K)=zm3 L G z A C D E F (fun G z A C D E F H I J M=>zx (ze yU (zU L) 0 L zdB) zd2 L (zbW G z A C D E F H I J M) (xi 4 (yv (ze yU (zU L) 0 L zer) (xi 3 (yv (ze yU (zU L) 0 L zfG) (yH zbu X K)))))) (fun G z A C=>K (.exit 2) (zkT G z A C)):=by kernel_rfl
def zlL{β:Type}(L:Nat)(E A:Ls)(C D:Int)(z:Ls→Ls→Int→Int→Ob β):Ob β:=lt (QG .i64 ((D:Int)+(1:Int))) fun F=>z E A C F
theorem ztY{β:Type}(L:Nat)(D z:Ls)(A C:Int)(X:St→Ob β)(K:KT β):(xi 2 (xi 1 (yv (ze yU (zU L) 0 L zkk) (yH zdK X K)))) (.exit 2) (zkT D z A C)=zlL L D z A C (fun D z A C=>X (zdr D z A C)):=by kernel_rfl
def zhe{β:Type}(L:Nat)(P E:Ls)(F G:Int)(H:Ls)(I J:Int)(M:Ls)(N A:Int)(C:List V)(D:Bool→Ob β)(z:zg7 β)(O:zHj β):Ob β:=ifb (decide (A<N)) (idx M A fun Q=>chk ((XK (XL 33 Q))=33∧0+33≤33) (lt (zk (We 32 (Qa (0:Int))++[(Qc (0:Int))]) 0 (XL 33 Q)) fun R=>chk (0+33≤(XK R)) (chk (0+33≤(XK C)) (eqC 33 (XL 33 R) (XL 33 C) fun T=>ifb T (D true) (lt (QG .i64 ((A:Int)+(1:Int))) fun S=>z P E F G H I J M N S C))))) (O P E F G H I J C)
theorem zn1{β:Type}(L:Nat)(J z:Ls)(A C:Int)(D:Ls)(E F:Int)(G:Ls)(H I:Int)(M:List V)(X:St→Ob β)(K:KT β):ze yU (zU L) 0 L zdB (zbW J z A C D E F G H I M) (yH zd2 X K)=zhe L J z A C D E F G H I M (fun N=>K .ret (zbc N)) (fun J z A C D E F G H I M=>X (zbW J z A C D E F G H I M)) (fun J z A C D E F M=>K (.exit 4) (zqF J z A C D E F M)):=by kernel_rfl
def zge{β:Type}(L:Nat)(A:Bool)(z:Bool→Ob β):Ob β:=z A
theorem zlO{β:Type}(L:Nat)(z:Bool)(X:St→Ob β)(K:KT β):(xi 4 (yv (ze yU (zU L) 0 L zer) (xi 3 (yv (ze yU (zU L) 0 L zfG) (yH zbu X K))))) .ret (zbc z)=zge L z (fun z=>K .ret (zbc z)):=by kernel_rfl
def zgz{β:Type}(L:Nat)(C D:Ls)(E F:Int)(G:Ls)(H I:Int)(A:List V)(z:zhb β):Ob β:=chk (0+33≤(XK A)) (chk ((XK (XL 33 A))=33∧0+33≤33) (chk ((XK C+XK (yl 33 1 (zk (We 32 (Qa (0:Int))++[(Qc (0:Int))]) 0 (XL 33 A))))*36≤xm∧XK C+XK (yl 33 1 (zk (We 32 (Qa (0:Int))++[(Qc (0:Int))]) 0 (XL 33 A)))≤xm) (lt (C++(yl 33 1 (zk (We 32 (Qa (0:Int))++[(Qc (0:Int))]) 0 (XL 33 A)))) fun J=>lt (QG .i64 ((I:Int)+(1:Int))) fun M=>z J D E F G H M)))
theorem zmS{β:Type}(L:Nat)(G z:Ls)(A C:Int)(D:Ls)(E F:Int)(H:List V)(X:St→Ob β)(K:KT β):(xi 4 (yv (ze yU (zU L) 0 L zer) (xi 3 (yv (ze yU (zU L) 0 L zfG) (yH zbu X K))))) (.exit 4) (zqF G z A C D E F H)=zgz L G z A C D E F H (fun G z A C D E F=>X (zbz G z A C D E F)):=by kernel_rfl
def zkH{β:Type}(L:Nat)(A:Bool)(z:Bool→Ob β):Ob β:=z A
theorem ztb{β:Type}(L:Nat)(z:Bool)(X:St→Ob β)(K:KT β):(xi 2 (xi 1 (yv (ze yU (zU L) 0 L zkk) (yH zdK X K)))) .ret (zbc z)=zkH L z (fun z=>K .ret (zbc z)):=by kernel_rfl
def ztT{β:Type}(L:Nat)(A:Bool)(z:Bool→Ob β):Ob β:=z A
theorem zCZ{β:Type}(L:Nat)(z:Bool)(k:KK β):(xi 0 (yv (ze yU (zU L) 0 L zsW) (zD 0 (CF.res cf_ref11_twice) k))) .ret (zbc z)=ztT L z (fun A=>k (V.sc (.bool A)) []):=by kernel_rfl
def zd9{β:Type}(L:Nat)(z:Bool→Ob β)(A:zHj β):Nat→Ls→Ls→Int→Int→Ls→Int→Int→Ls→Int→Int→List V→Ob β
 | 0,_,_,_,_,_,_,_,_,_,_,_=>none
 | n+1,N,C,D,E,F,G,H,I,J,M,O=>zhe L N C D E F G H I J M O z (fun N C D E F G H I J M O=>zd9 L z A n N C D E F G H I J M O) A
theorem zgd{β:Type}(L:Nat)(K:KT β):∀ (n:Nat) (G z:Ls) (A C:Int) (D:Ls) (E F:Int) (I:Ls) (J M:Int) (H:List V),zx (ze yU (zU L) 0 L zdB) zd2 n (zbW G z A C D E F I J M H) K=zd9 L (fun N=>K .ret (zbc N)) (fun G z A C D E F H=>K (.exit 4) (zqF G z A C D E F H)) n G z A C D E F I J M H:=by
 intro n; induction n <;> intros
 ·rfl
 ·exact (zn1 ..).trans (by simp only [*]; rfl)
def zgV{β:Type}(L:Nat)(H A:Ls)(C D:Int)(E:Ls)(F G:Int)(J:Ls→Ls→Int→Int→Ob β)(I:Bool→Ob β)(z:zhb β):Ob β:=zm3 L H A C D E F G (fun H A C D E F G N O P M=>zd9 L (fun Q=>zge L Q I) (fun H A C D E F G M=>zgz L H A C D E F G M z) L H A C D E F G N O P M) J
theorem zv7{β:Type}(L:Nat)(G z:Ls)(A C:Int)(D:Ls)(E F:Int)(X:St→Ob β)(K:KT β):ze yU (zU L) 0 L zeh (zbz G z A C D E F) (yH zbu X K)=zgV L G z A C D E F (fun G z A C=>K (.exit 2) (zkT G z A C)) (fun H=>K .ret (zbc H)) (fun G z A C D E F=>X (zbz G z A C D E F)):=by
 refine (zwu L G z A C D E F X K).trans ?_
 unfold zgV
 first
  | (simp only [zgd,zlO,zmS]; done)
  | (simp only [zgd]; rfl)
def zhC{β:Type}(L:Nat)(A:Ls→Ls→Int→Int→Ob β)(z:Bool→Ob β):Nat→Ls→Ls→Int→Int→Ls→Int→Int→Ob β
 | 0,_,_,_,_,_,_,_=>none
 | n+1,I,C,D,E,F,G,H=>zgV L I C D E F G H A z (fun I C D E F G H=>zhC L A z n I C D E F G H)
theorem zkF{β:Type}(L:Nat)(K:KT β):∀ (n:Nat) (D z:Ls) (A C:Int) (E:Ls) (F G:Int),zx (ze yU (zU L) 0 L zeh) zbu n (zbz D z A C E F G) K=zhC L (fun D z A C=>K (.exit 2) (zkT D z A C)) (fun H=>K .ret (zbc H)) n D z A C E F G:=by
 intro n; induction n <;> intros
 ·rfl
 ·exact (zv7 ..).trans (by simp only [*]; rfl)
def zny{β:Type}(L:Nat)(E z:Ls)(A C:Int)(G:Ob β)(D:Ls→Ls→Int→Int→Ob β)(F:Bool→Ob β):Ob β:=zzw L E z A C (fun E z A C H I J=>zhC L (fun E z A C=>zlL L E z A C D) (fun M=>zkH L M F) L E z A C H I J) G
theorem zHW{β:Type}(L:Nat)(D z:Ls)(A C:Int)(X:St→Ob β)(K:KT β):ze yU (zU L) 0 L zjf (zdr D z A C) (yH zdK X K)=zny L D z A C (K (.exit 0) (zkU)) (fun D z A C=>X (zdr D z A C)) (fun E=>K .ret (zbc E)):=by
 refine (zKS L D z A C X K).trans ?_
 unfold zny
 first
  | (simp only [zkF,ztY,ztb]; done)
  | (simp only [zkF]; rfl)
def zoO{β:Type}(L:Nat)(A:Ob β)(z:Bool→Ob β):Nat→Ls→Ls→Int→Int→Ob β
 | 0,_,_,_,_=>none
 | n+1,F,C,D,E=>zny L F C D E A (fun F C D E=>zoO L A z n F C D E) z
theorem ztO{β:Type}(L:Nat)(K:KT β):∀ (n:Nat) (D z:Ls) (A C:Int),zx (ze yU (zU L) 0 L zjf) zdK n (zdr D z A C) K=zoO L (K (.exit 0) (zkU)) (fun E=>K .ret (zbc E)) n D z A C:=by
 intro n; induction n <;> intros
 ·rfl
 ·exact (zHW ..).trans (by simp only [*]; rfl)
def zzZ{β:Type}(L:Nat)(E:List V)(z:Bool→Ob β):Ob β:=zNv L E (fun F A C D=>zoO L (zvA L z) (fun G=>ztT L G z) L F A C D)
theorem zSY{β:Type}(L:Nat)(z:List V)(k:KK β):yh yU (zU L) L cf_ref11_twice [(V.agg z)] [] k=zzZ L z (fun z=>k (V.sc (.bool z)) []):=by
 refine (zT2 L z k).trans ?_
 unfold zzZ
 first
  | (simp only [ztO,zFj,zCZ]; done)
  | (simp only [ztO]; rfl)
abbrev zaE:=∀ (β:Type),Nat→List V→(Bool→Ob β)→Ob β
def xF:zaE:=fun β=>@zzZ β
def zsA(xF:zaE)(L:Nat):Dk:=dA AG fun z=>d0 fun β k=>xF β L z (fun z=>k (V.sc (.bool z)) [])
theorem zS9(L:Nat):DK (zsA xF L) (fun _=>yh yU (zU L) L cf_ref11_twice):=xv zak fun z=>yK fun _ k=>zSY L z k
end
end
end Go.Proofs.YtgmhijonllockaaGreatDoor
