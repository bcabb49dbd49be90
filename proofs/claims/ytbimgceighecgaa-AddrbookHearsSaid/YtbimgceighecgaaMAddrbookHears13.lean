/- Part 13 of the proof of AddrbookHears: an abstract machine over plain values, its soundness, and the functions of the program on plain values. -/
import Derived.Test.YtbimgceighecgaaMAddrbookHears12
namespace Go.Proofs.Ytbimgceighecgaa
section
set_option maxRecDepth 100000
set_option linter.unusedVariables false
set_option linter.unusedSimpArgs false
def zmI:CF:=⟨45,[.cell 4 true 3],(.seq (.reg [Qv 3 (tq 1),oo 4 (.alloc true [(.sc (.int .u32 0)),(.sc (.int .u16 0)),(.sc (.int .u32 0))])]) (.seq (.seq (.reg [Ql 7 32 (tq 3),Qj 8 1 (tq 7),Qr 9 (tq 8),Qh 5 (tq 9)]) (.seq (.reg [Qh 10 (tq 5),Qp 11 .gtr (tq 10) (Qf 0),Qh 12 (tq 11),⟨(some 13),false,(some (12,true)),.move (tq 0) false⟩,⟨(some 14),false,(some (12,true)),.call 231 [(Qw 13),((Qf 2),0)] []⟩,⟨(some 15),false,(some (12,true)),.bin .eql (tq 14) (Qf 0)⟩,oo 16 (.pick (tq 12) (tq 15) (Qg false))]) (.cond (tq 16) (.seq (.dreg [] [(Ql 17 32 (tq 3),q0),(Qj 18 1 (tq 17),ql 3 [] []),(Qh 19 (tq 0),q0),(Qh 20 (tq 5),q0),(Qs 21 231 [(Qw 19),(Qw 20)],qc [3] []),(Qo 22 5 (tq 18) (tq 21),q0),(Ql 23 1 (tq 22),q0),(Qk 24 3 (tq 23),q0),(Qm 3 (tq 4) (tq 24),q0)]) .ret) .skip))) (.seq (.seq (.reg [Ql 25 33 (tq 3),Qj 26 1 (tq 25),Qr 27 (tq 26),Qh 6 (tq 27)]) (.seq (.reg [Qh 28 (tq 6),Qp 29 .gtr (tq 28) (Qf 0),Qh 30 (tq 29),⟨(some 31),false,(some (30,true)),.move (tq 0) false⟩,⟨(some 32),false,(some (30,true)),.call 231 [(Qw 31),((Qf 2),0)] []⟩,⟨(some 33),false,(some (30,true)),.bin .eql (tq 32) (Qf 0)⟩,oo 34 (.pick (tq 30) (tq 33) (Qg false))]) (.cond (tq 34) (.seq (.dreg [] [(Ql 35 33 (tq 3),q0),(Qj 36 1 (tq 35),ql 3 [] []),(Qh 37 (tq 0),q0),(Qh 38 (tq 6),q0),(Qs 39 231 [(Qw 37),(Qw 38)],qc [3] []),(Qo 40 5 (tq 36) (tq 39),q0),(Ql 41 1 (tq 40),q0),(Qk 42 3 (tq 41),q0),(Qm 3 (tq 4) (tq 42),q0)]) .ret) .skip))) (.seq (.reg [Qh 43 (tq 0),Qs 44 262 [(Qw 43)],Qm 3 (tq 4) (tq 44)]) .ret))))⟩
def zsg:Hint:=⟨[(0,0)],[],[none,none,none,none,none],[],[],false,false,[]⟩
def zp2:Nat→Sh:=zY [(8,(.sl 5)),(18,(.sl 5)),(26,(.sl 5)),(36,(.sl 5))]
def zpT(yc:yI)(zn:za9)(L:Nat):CBC:=(yA 262 (zku zn L) (yA 231 (zcV yc L) noC))
def zkE{β:Type}(yc:yI)(zn:za9)(L:Nat)(D:List V)(A:List (List V))(C:Int)(z:List V→List (List V)→Int→Option β):Option β:=cLd 5 D 32 fun v0=>ifb (decide (((List.length v0:Nat):Int)>(0:Int))) (yc β L (2:Int) A C (fun v1 v2 v3=>ifb ((v1:Int)==(0:Int)) (cLd 5 D 32 fun v4=>yc β L ((List.length v0:Nat):Int) v2 v3 (fun v5 v6 v7=>idx v4 v5 fun c8=>chk ((List.length (List.take 3 (List.drop 1 c8)))=3∧0+3≤3) (lt (zg [(Qc (0:Int)),(Qb (0:Int)),(Qc (0:Int))] 0 (List.take 3 (List.drop 1 c8))) fun r9=>chk (0=0∧(List.length r9)=3∧3≠0) (z r9 v6 v7)))) (cLd 5 D 33 fun E=>ifb (decide (((List.length E:Nat):Int)>(0:Int))) (yc β L (2:Int) v2 v3 (fun af F G=>ifb ((af:Int)==(0:Int)) (cLd 5 D 33 fun ag=>yc β L ((List.length E:Nat):Int) F G (fun ah ai aj=>idx ag ah fun I=>chk ((List.length (List.take 3 (List.drop 1 I)))=3∧0+3≤3) (lt (zg [(Qc (0:Int)),(Qb (0:Int)),(Qc (0:Int))] 0 (List.take 3 (List.drop 1 I))) fun J=>chk (0=0∧(List.length J)=3∧3≠0) (z J ai aj)))) (zn β L F G (fun M ak al=>chk ((List.length M)=3∧0+3≤3) (lt (zg [(Qc (0:Int)),(Qb (0:Int)),(Qc (0:Int))] 0 M) fun N=>chk (0=0∧(List.length N)=3∧3≠0) (z N ak al)))))) (zn β L v2 v3 (fun O am an=>chk ((List.length O)=3∧0+3≤3) (lt (zg [(Qc (0:Int)),(Qb (0:Int)),(Qc (0:Int))] 0 O) fun P=>chk (0=0∧(List.length P)=3∧3≠0) (z P am an))))))) (cLd 5 D 33 fun Q=>ifb (decide (((List.length Q:Nat):Int)>(0:Int))) (yc β L (2:Int) A C (fun ao R S=>ifb ((ao:Int)==(0:Int)) (cLd 5 D 33 fun ap=>yc β L ((List.length Q:Nat):Int) R S (fun aq ar au=>idx ap aq fun U=>chk ((List.length (List.take 3 (List.drop 1 U)))=3∧0+3≤3) (lt (zg [(Qc (0:Int)),(Qb (0:Int)),(Qc (0:Int))] 0 (List.take 3 (List.drop 1 U))) fun W=>chk (0=0∧(List.length W)=3∧3≠0) (z W ar au)))) (zn β L R S (fun X av aw=>chk ((List.length X)=3∧0+3≤3) (lt (zg [(Qc (0:Int)),(Qb (0:Int)),(Qc (0:Int))] 0 X) fun Y=>chk (0=0∧(List.length Y)=3∧3≠0) (z Y av aw)))))) (zn β L A C (fun Z ax ay=>chk ((List.length Z)=3∧0+3≤3) (lt (zg [(Qc (0:Int)),(Qb (0:Int)),(Qc (0:Int))] 0 Z) fun aa=>chk (0=0∧(List.length aa)=3∧3≠0) (z aa ax ay)))))
theorem zyP{β:Type}(yc:yI)(zn:za9)(L:Nat)(C:List V)(z:List (List V))(A:Int)(k:KK β):zq zp2 (zpT yc zn L) L zmI [(V.ptr 0 0),(V.agg C)] [(.live false [(V.sl 1 z),(Qe A)])] k=zkE yc zn L C z A (fun D z A=>k (V.agg D) [(.live false [(V.sl 1 z),(Qe A)])]):=by kernel_rfl
abbrev zV:=∀ (β:Type),Nat→List V→List (List V)→Int→(List V→List (List V)→Int→Option β)→Option β
def xi(β:Type)(L:Nat)(D:List V)(A:List (List V))(C:Int)(z:List V→List (List V)→Int→Option β):Option β:=zkE yc zn L D A C z
def zn0(xi:zV)(L:Nat)(β:Type)(args:List V)(bor:Bor)(k:KK β):Option β:=match args,bor with
 | [a0,a1],[(.live false [w0_0,w0_1])]=>aP 0 0 a0 (aG a1 fun C=>aL 1 w0_0 fun z=>aI .i64 w0_1 fun A=>xi β L C z A (fun D z A=>k (V.agg D) [(.live false [(V.sl 1 z),(Qe A)])]))
 | _,_=>none
theorem zyA(L:Nat)(β:Type)(args:List V)(bor:Bor)(k:KK β)(r:β)(h:zn0 xi L β args bor k=some r):zq zp2 (zpT yc zn L) L zmI args bor k=some r:=by
 unfold zn0 at h
 split at h
 ·have q:=zlS h; clear h; obtain ⟨rfl,h⟩:=q
  have q:=yR h; clear h; obtain ⟨C,rfl,h⟩:=q
  have q:=zaP h; clear h; obtain ⟨z,rfl,h⟩:=q
  have q:=yy h; clear h; obtain ⟨A,rfl,h⟩:=q
  exact (zyP yc zn L C z A k).trans h
 ·cases h
def zjH:CF:=⟨73,[.cellS 6 34 true],(.seq (.reg [oo 3 (.box false (tq 0)),oo 6 (.alloc false (rp 32 (.sc (.int .u8 0)) (rp 2 (.gs 5 []) [])))]) (.seq (.reg [Qk 8 34 (tq 3),oo 9 (.call 288 [((tq 8),1)] [10,13]),Qm 34 (tq 3) (tq 9)]) (.seq (.seq (.reg [Ql 10 32 (tq 3),Qj 11 1 (tq 10),Qr 12 (tq 11),Qp 13 .gtr (tq 12) (Qf 0)]) (.cond (tq 13) (.seq (.dreg [] [(Ql 14 32 (tq 3),q0),(Qj 15 1 (tq 14),ql 3 [] []),(Qh 16 (tq 2),q0),(Ql 17 32 (tq 3),q0),(Qj 18 1 (tq 17),ql 3 [] []),(Qr 19 (tq 18),q0),(Qs 20 217 [(Qw 16),(Qw 19)],qc [3] []),(Qo 21 5 (tq 15) (tq 20),q0),(Qh 7 (tq 21),q0)]) (.seq (.reg [Qh 22 (tq 1),Qs 23 217 [(Qw 22),((Qf 6),0)]]) (.block 0 (.seq (.reg [Qp 25 .eql (tq 23) (Qf 0),Qh 24 (tq 25)]) (.cond (tq 24) (.reg [Qh 26 (tq 7),Qh 27 (tq 2),Qs 28 217 [(Qw 27),((Qf 70),0)],Qp 29 .sub (tq 28) (Qf 3),oo 30 (.nilCheck (tq 26)),Ql 31 0 (tq 30),Qm 1 (tq 31) (tq 29)]) (.seq (.reg [Qp 33 .eql (tq 23) (Qf 1),Qh 32 (tq 33)]) (.cond (tq 32) (.reg [Qh 34 (tq 7),oo 35 (.nilCheck (tq 34)),Ql 36 1 (tq 35),Ql 37 0 (tq 36),Qj 38 1 (tq 37),oo 39 (.bin .add (tq 38) (.const (.sc (.int .u32 1)))),oo 40 (.nilCheck (tq 34)),Ql 41 1 (tq 40),Ql 42 0 (tq 41),Qm 1 (tq 42) (tq 39)]) (.seq (.reg [Qp 44 .eql (tq 23) (Qf 2),Qh 43 (tq 44)]) (.cond (tq 43) (.reg [Qh 45 (tq 7),oo 46 (.nilCheck (tq 45)),Ql 47 4 (tq 46),Qj 48 1 (tq 47),oo 49 (.bin .add (tq 48) (.const (.sc (.int .u32 1)))),oo 50 (.nilCheck (tq 45)),Ql 51 4 (tq 50),Qm 1 (tq 51) (tq 49)]) (.seq (.reg [Qp 53 .eql (tq 23) (Qf 3),Qh 52 (tq 53)]) (.cond (tq 52) (.dreg [] [(Ql 54 33 (tq 3),q0),(oo 55 (.load false 1 (tq 54) true),ql 3 [7] [59]),(Qh 56 (tq 7),q0),(oo 57 (.nilCheck (tq 56)),q0),(Qk 58 5 (tq 57),ql 7 [3] []),(oo 59 (.buildSlice 5 1 [(.sc (.int .i64 0)),(.sc (.int .u32 0)),(.sc (.int .u16 0)),(.sc (.int .u32 0)),(.sc (.int .u32 0))] [(0,5,(tq 58))]),qn [3] []),(oo 60 (.append 5 24 (tq 55) (tq 59)),q0),(Ql 61 33 (tq 3),q0),(Qm 1 (tq 61) (tq 60),q0)]) (.seq (.reg [Qp 63 .eql (tq 23) (Qf 4),Qh 62 (tq 63)]) (.cond (tq 62) (.dreg [] [(Ql 64 32 (tq 3),q0),(oo 65 (.load false 1 (tq 64) true),ql 3 [7] [69]),(Qh 66 (tq 7),q0),(oo 67 (.nilCheck (tq 66)),q0),(Qk 68 5 (tq 67),ql 7 [3] []),(oo 69 (.buildSlice 5 1 [(.sc (.int .i64 0)),(.sc (.int .u32 0)),(.sc (.int .u16 0)),(.sc (.int .u32 0)),(.sc (.int .u32 0))] [(0,5,(tq 68))]),qn [3] []),(oo 70 (.append 5 24 (tq 65) (tq 69)),q0),(Ql 71 32 (tq 3),q0),(Qm 1 (tq 71) (tq 70),q0)]) .skip))))))))))))) .skip)) (.seq (.reg [oo 72 (.load true 34 (tq 3) true),Qm 34 (tq 6) (tq 72)]) .ret))))⟩
def zpA:Hint:=⟨[(12,1),(14,1),(15,0)],[],[none,none,none,none,none,none,none,none],[],[(1,1,[10,13])],true,true,[]⟩
def znJ:Nat→Sh:=zY [(3,(.row [(.int .u8),(.int .u8),(.int .u8),(.int .u8),(.int .u8),(.int .u8),(.int .u8),(.int .u8),(.int .u8),(.int .u8),(.int .u8),(.int .u8),(.int .u8),(.int .u8),(.int .u8),(.int .u8),(.int .u8),(.int .u8),(.int .u8),(.int .u8),(.int .u8),(.int .u8),(.int .u8),(.int .u8),(.int .u8),(.int .u8),(.int .u8),(.int .u8),(.int .u8),(.int .u8),(.int .u8),(.int .u8),(.sl 5),(.sl 5)])),(38,(.int .u32)),(48,(.int .u32))]
def znm(ye:zJ)(zN:zhJ)(L:Nat):CBC:=(yA 217 (zmG zN L) (yA 288 (zeU ye L) noC))
def zcT{β:Type}(ye:zJ)(zN:zhJ)(L:Nat)(C:List V)(p1 p2:Int)(E:List V→Option β):Option β:=chk (List.length C=34) (cI .u8 C 0 fun v0=>cI .u8 C 1 fun v1=>cI .u8 C 2 fun v2=>cI .u8 C 3 fun v3=>cI .u8 C 4 fun v4=>cI .u8 C 5 fun v5=>cI .u8 C 6 fun v6=>cI .u8 C 7 fun v7=>cI .u8 C 8 fun v8=>cI .u8 C 9 fun v9=>cI .u8 C 10 fun aw=>cI .u8 C 11 fun ax=>cI .u8 C 12 fun ay=>cI .u8 C 13 fun az=>cI .u8 C 14 fun aC=>cI .u8 C 15 fun aD=>cI .u8 C 16 fun aE=>cI .u8 C 17 fun aH=>cI .u8 C 18 fun aJ=>cI .u8 C 19 fun aK=>cI .u8 C 20 fun aN=>cI .u8 C 21 fun aQ=>cI .u8 C 22 fun aR=>cI .u8 C 23 fun aT=>cI .u8 C 24 fun aU=>cI .u8 C 25 fun aW=>cI .u8 C 26 fun aX=>cI .u8 C 27 fun aY=>cI .u8 C 28 fun aZ=>cI .u8 C 29 fun a0=>cI .u8 C 30 fun a1=>cI .u8 C 31 fun a2=>cL 5 C 32 fun a3=>cL 5 C 33 fun a4=>ye β L [(Qa v0),(Qa v1),(Qa v2),(Qa v3),(Qa v4),(Qa v5),(Qa v6),(Qa v7),(Qa v8),(Qa v9),(Qa aw),(Qa ax),(Qa ay),(Qa az),(Qa aC),(Qa aD),(Qa aE),(Qa aH),(Qa aJ),(Qa aK),(Qa aN),(Qa aQ),(Qa aR),(Qa aT),(Qa aU),(Qa aW),(Qa aX),(Qa aY),(Qa aZ),(Qa a0),(Qa a1),(Qa a2),(V.sl 5 a3),(V.sl 5 a4)] (fun I J M N O P Q R S U W X Y Z aa ab ac ad ae af ag ah ai aj ak al am an ao ap aq ar D F z G=>ifb (decide (((D:Nat):Int)>(0:Int))) (zN β L p2 ((D:Nat):Int) (fun A=>chk (0≤A∧A<((D:Nat):Int)) (zN β L p1 (6:Int) (fun au=>ifb ((au:Int)==(0:Int)) (zN β L p2 (70:Int) (fun a5=>lt (IntKind.wrap .i64 ((a5:Int)-(3:Int))) fun a6=>chk (1=1∧((0+((Int.toNat A)*5))+0)+1≤(List.length z)) (lt (zg z ((0+((Int.toNat A)*5))+0) [(Qe a6)]) fun a7=>E [(Qa I),(Qa J),(Qa M),(Qa N),(Qa O),(Qa P),(Qa Q),(Qa R),(Qa S),(Qa U),(Qa W),(Qa X),(Qa Y),(Qa Z),(Qa aa),(Qa ab),(Qa ac),(Qa ad),(Qa ae),(Qa af),(Qa ag),(Qa ah),(Qa ai),(Qa aj),(Qa ak),(Qa al),(Qa am),(Qa an),(Qa ao),(Qa ap),(Qa aq),(Qa ar),(V.sl 5 (yf 5 D a7)),(V.sl 5 (yf 5 F G))]))) (ifb ((au:Int)==(1:Int)) (cI .u32 z (((0+((Int.toNat A)*5))+1)+0) fun a8=>lt (IntKind.wrap .u32 ((a8:Int)+(1:Int))) fun a9=>chk (1=1∧(((0+((Int.toNat A)*5))+1)+0)+1≤(List.length z)) (lt (zg z (((0+((Int.toNat A)*5))+1)+0) [(Qc a9)]) fun ba=>E [(Qa I),(Qa J),(Qa M),(Qa N),(Qa O),(Qa P),(Qa Q),(Qa R),(Qa S),(Qa U),(Qa W),(Qa X),(Qa Y),(Qa Z),(Qa aa),(Qa ab),(Qa ac),(Qa ad),(Qa ae),(Qa af),(Qa ag),(Qa ah),(Qa ai),(Qa aj),(Qa ak),(Qa al),(Qa am),(Qa an),(Qa ao),(Qa ap),(Qa aq),(Qa ar),(V.sl 5 (yf 5 D ba)),(V.sl 5 (yf 5 F G))])) (ifb ((au:Int)==(2:Int)) (cI .u32 z ((0+((Int.toNat A)*5))+4) fun bb=>lt (IntKind.wrap .u32 ((bb:Int)+(1:Int))) fun bc=>chk (1=1∧((0+((Int.toNat A)*5))+4)+1≤(List.length z)) (lt (zg z ((0+((Int.toNat A)*5))+4) [(Qc bc)]) fun bd=>E [(Qa I),(Qa J),(Qa M),(Qa N),(Qa O),(Qa P),(Qa Q),(Qa R),(Qa S),(Qa U),(Qa W),(Qa X),(Qa Y),(Qa Z),(Qa aa),(Qa ab),(Qa ac),(Qa ad),(Qa ae),(Qa af),(Qa ag),(Qa ah),(Qa ai),(Qa aj),(Qa ak),(Qa al),(Qa am),(Qa an),(Qa ao),(Qa ap),(Qa aq),(Qa ar),(V.sl 5 (yf 5 D bd)),(V.sl 5 (yf 5 F G))])) (ifb ((au:Int)==(3:Int)) (chk ((0+((Int.toNat A)*5))+5≤(List.length z)) (chk ((List.length (List.take 5 (List.drop (0+((Int.toNat A)*5)) z)))=5∧0+5≤5) (chk ((F+List.length (yf 5 1 (zg [(Qe (0:Int)),(Qc (0:Int)),(Qb (0:Int)),(Qc (0:Int)),(Qc (0:Int))] 0 (List.take 5 (List.drop (0+((Int.toNat A)*5)) z)))))*24≤xp∧(F+List.length (yf 5 1 (zg [(Qe (0:Int)),(Qc (0:Int)),(Qb (0:Int)),(Qc (0:Int)),(Qc (0:Int))] 0 (List.take 5 (List.drop (0+((Int.toNat A)*5)) z)))))≤xp∧((F+List.length (yf 5 1 (zg [(Qe (0:Int)),(Qc (0:Int)),(Qb (0:Int)),(Qc (0:Int)),(Qc (0:Int))] 0 (List.take 5 (List.drop (0+((Int.toNat A)*5)) z)))))≠0∨(List.length G)=0)) (lt (List.take (F*5) G++List.flatten (yf 5 1 (zg [(Qe (0:Int)),(Qc (0:Int)),(Qb (0:Int)),(Qc (0:Int)),(Qc (0:Int))] 0 (List.take 5 (List.drop (0+((Int.toNat A)*5)) z))))) fun be=>E [(Qa I),(Qa J),(Qa M),(Qa N),(Qa O),(Qa P),(Qa Q),(Qa R),(Qa S),(Qa U),(Qa W),(Qa X),(Qa Y),(Qa Z),(Qa aa),(Qa ab),(Qa ac),(Qa ad),(Qa ae),(Qa af),(Qa ag),(Qa ah),(Qa ai),(Qa aj),(Qa ak),(Qa al),(Qa am),(Qa an),(Qa ao),(Qa ap),(Qa aq),(Qa ar),(V.sl 5 (yf 5 D z)),(V.sl 5 (yf 5 (F+List.length (yf 5 1 (zg [(Qe (0:Int)),(Qc (0:Int)),(Qb (0:Int)),(Qc (0:Int)),(Qc (0:Int))] 0 (List.take 5 (List.drop (0+((Int.toNat A)*5)) z))))) be))])))) (ifb ((au:Int)==(4:Int)) (chk ((0+((Int.toNat A)*5))+5≤(List.length z)) (chk ((List.length (List.take 5 (List.drop (0+((Int.toNat A)*5)) z)))=5∧0+5≤5) (chk ((D+List.length (yf 5 1 (zg [(Qe (0:Int)),(Qc (0:Int)),(Qb (0:Int)),(Qc (0:Int)),(Qc (0:Int))] 0 (List.take 5 (List.drop (0+((Int.toNat A)*5)) z)))))*24≤xp∧(D+List.length (yf 5 1 (zg [(Qe (0:Int)),(Qc (0:Int)),(Qb (0:Int)),(Qc (0:Int)),(Qc (0:Int))] 0 (List.take 5 (List.drop (0+((Int.toNat A)*5)) z)))))≤xp∧((D+List.length (yf 5 1 (zg [(Qe (0:Int)),(Qc (0:Int)),(Qb (0:Int)),(Qc (0:Int)),(Qc (0:Int))] 0 (List.take 5 (List.drop (0+((Int.toNat A)*5)) z)))))≠0∨(List.length z)=0)) (lt (List.take (D*5) z++List.flatten (yf 5 1 (zg [(Qe (0:Int)),(Qc (0:Int)),(Qb (0:Int)),(Qc (0:Int)),(Qc (0:Int))] 0 (List.take 5 (List.drop (0+((Int.toNat A)*5)) z))))) fun bf=>E [(Qa I),(Qa J),(Qa M),(Qa N),(Qa O),(Qa P),(Qa Q),(Qa R),(Qa S),(Qa U),(Qa W),(Qa X),(Qa Y),(Qa Z),(Qa aa),(Qa ab),(Qa ac),(Qa ad),(Qa ae),(Qa af),(Qa ag),(Qa ah),(Qa ai),(Qa aj),(Qa ak),(Qa al),(Qa am),(Qa an),(Qa ao),(Qa ap),(Qa aq),(Qa ar),(V.sl 5 (yf 5 (D+List.length (yf 5 1 (zg [(Qe (0:Int)),(Qc (0:Int)),(Qb (0:Int)),(Qc (0:Int)),(Qc (0:Int))] 0 (List.take 5 (List.drop (0+((Int.toNat A)*5)) z))))) bf)),(V.sl 5 (yf 5 F G))])))) (E [(Qa I),(Qa J),(Qa M),(Qa N),(Qa O),(Qa P),(Qa Q),(Qa R),(Qa S),(Qa U),(Qa W),(Qa X),(Qa Y),(Qa Z),(Qa aa),(Qa ab),(Qa ac),(Qa ad),(Qa ae),(Qa af),(Qa ag),(Qa ah),(Qa ai),(Qa aj),(Qa ak),(Qa al),(Qa am),(Qa an),(Qa ao),(Qa ap),(Qa aq),(Qa ar),(V.sl 5 (yf 5 D z)),(V.sl 5 (yf 5 F G))]))))))))) (E [(Qa I),(Qa J),(Qa M),(Qa N),(Qa O),(Qa P),(Qa Q),(Qa R),(Qa S),(Qa U),(Qa W),(Qa X),(Qa Y),(Qa Z),(Qa aa),(Qa ab),(Qa ac),(Qa ad),(Qa ae),(Qa af),(Qa ag),(Qa ah),(Qa ai),(Qa aj),(Qa ak),(Qa al),(Qa am),(Qa an),(Qa ao),(Qa ap),(Qa aq),(Qa ar),(V.sl 5 (yf 5 D z)),(V.sl 5 (yf 5 F G))])))
theorem zwq{β:Type}(ye:zJ)(zN:zhJ)(L:Nat)(z:List V)(A C:Int)(k:KK β):zq znJ (znm ye zN L) L zjH [(V.agg z),(Qe A),(Qe C)] [] k=zcT ye zN L z A C (fun z=>k (V.agg z) []):=by kernel_rfl
abbrev zM:=∀ (β:Type),Nat→List V→Int→Int→(List V→Option β)→Option β
def xf(β:Type)(L:Nat)(A:List V)(C D:Int)(z:List V→Option β):Option β:=zcT ye zN L A C D z
def zkN(xf:zM)(L:Nat)(β:Type)(args:List V)(bor:Bor)(k:KK β):Option β:=match args,bor with
 | [a0,a1,a2],[]=>aG a0 fun z=>aI .i64 a1 fun A=>aI .i64 a2 fun C=>xf β L z A C (fun z=>k (V.agg z) [])
 | _,_=>none
theorem zws(L:Nat)(β:Type)(args:List V)(bor:Bor)(k:KK β)(r:β)(h:zkN xf L β args bor k=some r):zq znJ (znm ye zN L) L zjH args bor k=some r:=by
 unfold zkN at h
 split at h
 ·have q:=yR h; clear h; obtain ⟨z,rfl,h⟩:=q
  have q:=yy h; clear h; obtain ⟨A,rfl,h⟩:=q
  have q:=yy h; clear h; obtain ⟨C,rfl,h⟩:=q
  exact (zwq ye zN L z A C k).trans h
 ·cases h
def zb8:CC:=(.seq (.seq (.reg [Qh 11 (tq 5),Qh 12 (tq 0),Qr 13 (tq 12),Qp 14 .lss (tq 11) (tq 13)]) (.cond (tq 14) .skip (.seq (.mask (bl 0 26) (bl 67100623 26)) (.exit 0)))) (.seq (.block 1 (.seq (.dreg [] [(Qh 17 (tq 0),q0),(Qh 18 (tq 5),q0),(Qo 19 5 (tq 17) (tq 18),q0),(Qk 20 5 (tq 19),qc [] []),(Qh 21 (tq 1),q0),(Qh 22 (tq 5),q0),(Qo 23 5 (tq 21) (tq 22),q0),(Qk 24 5 (tq 23),qc [] []),(oo 25 (.eqAgg true 5 (tq 20) (tq 24)),q0)]) (.cond (tq 25) (.seq (.reg [Qh 4 (Qg false)]) (.seq (.mask (bl 16 26) (bl 67100639 26)) .ret)) .skip))) (.reg [Qh 15 (tq 5),Qp 16 .add (tq 15) (Qf 1),Qh 5 (tq 16)])))
def zeg:CC:=(.seq (.reg [Qh 4 (Qg true)]) .ret)
def zbm:CF:=⟨26,[.tmp 4],(.seq (.reg [Qh 4 (Qg false)]) (.seq (.seq (.reg [Qh 6 (tq 0),Qr 7 (tq 6),Qh 8 (tq 1),Qr 9 (tq 8),Qp 10 .neq (tq 7) (tq 9)]) (.cond (tq 10) (.seq (.reg [Qh 4 (Qg false)]) .ret) .skip)) (.seq (.seq (.reg [Qh 5 (Qf 0)]) (.block 0 (.loop (bl 35 26) (bl 67100655 26) zb8))) zeg)))⟩
def zlF:Hint:=⟨[],[],[none,none,none,some ((bl 35 26),(bl 67100655 26)),none,some ((bl 0 26),(bl 67100623 26)),none,none,some ((bl 16 26),(bl 67100639 26)),none],[],[],false,false,[]⟩
def zac:Nat→Sh:=zY []
def zae(L:Nat):CBC:=noC
def zdt:St→St:=zbn 0 (bl 35 26) (bl 67100655 26)
def zcU(z A:List (List V))(C:Int):St:=⟨((V.sl 5 z)::((V.sl 5 A)::(jn 3 ((Qe C)::(jn 20 []))))),(gn 26 [])⟩
def zfD(z:Bool):St:=⟨(jn 4 ((V.sc (.bool z))::(jn 21 []))),(gn 26 [])⟩
def zgh:St:=⟨(jn 26 []),(gn 26 [])⟩
def ziV{β:Type}(L:Nat)(C D:List (List V))(A:Bool→Option β)(z:List (List V)→List (List V)→Int→Option β):Option β:=ifb ((((List.length C:Nat):Int):Int) != ((List.length D:Nat):Int)) (A false) (z C D (0:Int))
theorem zrW{β:Type}(L:Nat)(z A:List (List V))(k:KK β):zq zac (zae L) L zbm [(V.sl 5 z),(V.sl 5 A)] [] k=ziV L z A (fun z=>k (V.sc (.bool z)) []) (fun z A C=>zF (zl zac (zae L) 0 L zb8) zdt L (zcU z A C) (yB 0 (xQ (zl zac (zae L) 0 L zeg) (y8 0 (CF.res zbm) k)))):=by kernel_rfl
def zfE{β:Type}(L:Nat)(D F:List (List V))(A:Int)(C:Bool→Option β)(z:List (List V)→List (List V)→Int→Option β)(E:Option β):Option β:=ifb (decide (A<((List.length D:Nat):Int))) (idx D A fun c0=>idx F A fun c1=>eqC 5 (List.take 5 c0) (List.take 5 c1) fun G=>ifb (!G) (C false) (lt (IntKind.wrap .i64 ((A:Int)+(1:Int))) fun I=>z D F I)) (E)
theorem zoI{β:Type}(L:Nat)(z A:List (List V))(C:Int)(X:St→Option β)(K:KT β):zl zac (zae L) 0 L zb8 (zcU z A C) (zbQ zdt X K)=zfE L z A C (fun D=>K .ret (zfD D)) (fun z A C=>X (zcU z A C)) (K (.exit 0) (zgh)):=by kernel_rfl
def zhW{β:Type}(L:Nat)(A:Bool)(z:Bool→Option β):Option β:=z A
theorem zm1{β:Type}(L:Nat)(z:Bool)(k:KK β):(yB 0 (xQ (zl zac (zae L) 0 L zeg) (y8 0 (CF.res zbm) k))) .ret (zfD z)=zhW L z (fun A=>k (V.sc (.bool A)) []):=by kernel_rfl
def ziD{β:Type}(L:Nat)(z:Bool→Option β):Option β:=z true
theorem znK{β:Type}(L:Nat)(k:KK β):(yB 0 (xQ (zl zac (zae L) 0 L zeg) (y8 0 (CF.res zbm) k))) (.exit 0) (zgh)=ziD L (fun z=>k (V.sc (.bool z)) []):=by kernel_rfl
def zcr{β:Type}(L:Nat)(z:Bool→Option β)(A:Option β):Nat→List (List V)→List (List V)→Int→Option β
 | 0,_,_,_=>none
 | n+1,C,D,E=>zfE L C D E z (fun C D E=>zcr L z A n C D E) A
theorem zh2{β:Type}(L:Nat)(K:KT β):∀ (n:Nat) (z A:List (List V)) (C:Int),zF (zl zac (zae L) 0 L zb8) zdt n (zcU z A C) K=zcr L (fun D=>K .ret (zfD D)) (K (.exit 0) (zgh)) n z A C:=by
 intro n
 induction n with
 | zero=>intros; rfl
 | succ n ih=>
  intro z A C
  refine (zoI L z A C (fun σ=>zF (zl zac (zae L) 0 L zb8) zdt n σ K) K).trans ?_
  simp only [ih]
  rfl
def zf7{β:Type}(L:Nat)(A C:List (List V))(z:Bool→Option β):Option β:=ziV L A C z (fun A C D=>zcr L (fun E=>zhW L E z) (ziD L z) L A C D)
theorem zrO{β:Type}(L:Nat)(z A:List (List V))(k:KK β):zq zac (zae L) L zbm [(V.sl 5 z),(V.sl 5 A)] [] k=zf7 L z A (fun z=>k (V.sc (.bool z)) []):=by
 refine (zrW L z A k).trans ?_
 unfold zf7
 first
  | (simp only [zh2,zm1,znK]; done)
  | (simp only [zh2]; rfl)
abbrev zf4:=∀ (β:Type),Nat→List (List V)→List (List V)→(Bool→Option β)→Option β
def yK(β:Type)(L:Nat)(A C:List (List V))(z:Bool→Option β):Option β:=zf7 L A C z
def zfU(yK:zf4)(L:Nat)(β:Type)(args:List V)(bor:Bor)(k:KK β):Option β:=match args,bor with
 | [a0,a1],[]=>aL 5 a0 fun z=>aL 5 a1 fun A=>yK β L z A (fun z=>k (V.sc (.bool z)) [])
 | _,_=>none
theorem zsi(L:Nat)(β:Type)(args:List V)(bor:Bor)(k:KK β)(r:β)(h:zfU yK L β args bor k=some r):zq zac (zae L) L zbm args bor k=some r:=by
 unfold zfU at h
 split at h
 ·have q:=zaP h; clear h; obtain ⟨z,rfl,h⟩:=q
  have q:=zaP h; clear h; obtain ⟨A,rfl,h⟩:=q
  exact (zrO L z A k).trans h
 ·cases h
def zkO:CF:=⟨24,[.tmp 4],(.seq (.reg [Qv 2 (tq 0),Qv 3 (tq 1),Qh 4 (Qg false)]) (.seq (.reg [Ql 5 0 (tq 2),Qk 6 32 (tq 5),Ql 7 0 (tq 3),Qk 8 32 (tq 7),oo 9 (.eqAgg false 32 (tq 6) (tq 8)),Qh 10 (tq 9),⟨(some 11),false,(some (10,true)),.fieldAddr 32 (tq 2)⟩,⟨(some 12),false,(some (10,true)),.load false 1 (tq 11) false⟩,⟨(some 13),false,(some (10,true)),.fieldAddr 32 (tq 3)⟩,⟨(some 14),false,(some (10,true)),.load false 1 (tq 13) false⟩,⟨(some 15),false,(some (10,true)),.call 387 [(Qw 12),(Qw 14)] []⟩,oo 16 (.pick (tq 10) (tq 15) (Qg false)),Qh 17 (tq 16),⟨(some 18),false,(some (17,true)),.fieldAddr 33 (tq 2)⟩,⟨(some 19),false,(some (17,true)),.load false 1 (tq 18) false⟩,⟨(some 20),false,(some (17,true)),.fieldAddr 33 (tq 3)⟩,⟨(some 21),false,(some (17,true)),.load false 1 (tq 20) false⟩,⟨(some 22),false,(some (17,true)),.call 387 [(Qw 19),(Qw 21)] []⟩,oo 23 (.pick (tq 17) (tq 22) (Qg false)),Qh 4 (tq 23)]) .ret))⟩
def zqO:Hint:=⟨[(0,0),(0,1)],[],[none],[],[],false,false,[]⟩
def zoE:Nat→Sh:=zY [(12,(.sl 5)),(14,(.sl 5)),(19,(.sl 5)),(21,(.sl 5))]
def zoy(yK:zf4)(L:Nat):CBC:=(yA 387 (zfU yK L) noC)
def zpU{β:Type}(yK:zf4)(L:Nat)(A C:List V)(z:Bool→Option β):Option β:=chk (0+32≤(List.length A)) (chk (0+32≤(List.length C)) (eqC 32 (List.take 32 A) (List.take 32 C) fun D=>ifb D (cLd 5 A 32 fun E=>cLd 5 C 32 fun F=>yK β L E F (fun G=>ifb G (cLd 5 A 33 fun I=>cLd 5 C 33 fun J=>yK β L I J (fun M=>z M)) (z false))) (z false)))
theorem zxt{β:Type}(yK:zf4)(L:Nat)(z A:List V)(k:KK β):zq zoE (zoy yK L) L zkO [(V.agg z),(V.agg A)] [] k=zpU yK L z A (fun z=>k (V.sc (.bool z)) []):=by kernel_rfl
abbrev xP:=∀ (β:Type),Nat→List V→List V→(Bool→Option β)→Option β
def yh(β:Type)(L:Nat)(A C:List V)(z:Bool→Option β):Option β:=zpU yK L A C z
def zmC(yh:xP)(L:Nat)(β:Type)(args:List V)(bor:Bor)(k:KK β):Option β:=match args,bor with
 | [a0,a1],[]=>aG a0 fun z=>aG a1 fun A=>yh β L z A (fun z=>k (V.sc (.bool z)) [])
 | _,_=>none
theorem zxe(L:Nat)(β:Type)(args:List V)(bor:Bor)(k:KK β)(r:β)(h:zmC yh L β args bor k=some r):zq zoE (zoy yK L) L zkO args bor k=some r:=by
 unfold zmC at h
 split at h
 ·have q:=yR h; clear h; obtain ⟨z,rfl,h⟩:=q
  have q:=yR h; clear h; obtain ⟨A,rfl,h⟩:=q
  exact (zxt yK L z A k).trans h
 ·cases h
def zad:CC:=(.seq (.reg [Qp 48 .lss (tq 47) (tq 46)]) (.seq (.cond (tq 48) .skip (.seq (.mask (bl 481036339208 83) (bl 9369036211000867993705215 83)) (.exit 2))) (.seq (.block 3 (.seq (.reg [Qo 49 1 (tq 45) (tq 47),Qj 50 1 (tq 49),Qh 15 (tq 50)]) (.seq (.reg [Qk 52 34 (tq 13),Qk 53 3 (tq 11),Qh 54 (tq 15),Qs 55 382 [((tq 52),1),(Qw 53),(Qw 54)],Qi 51 (tq 55),Qq 56 (tq 51) 0,Qq 57 (tq 51) 1,Qq 58 (tq 51) 2,oo 16 (.alloc true (rp 32 (.sc (.int .u8 0)) (rp 2 (.gs 5 []) []))),Qm 34 (tq 16) (tq 56),Qh 17 (tq 57),Qh 18 (tq 58)]) (.seq (.reg [Qk 60 34 (tq 13),Qk 61 3 (tq 11),Qh 62 (tq 15),Qs 63 273 [((tq 60),1),(Qw 61),(Qw 62)],Qi 59 (tq 63),Qq 64 (tq 59) 0,Qq 65 (tq 59) 1,Qq 66 (tq 59) 2,oo 19 (.alloc true (rp 32 (.sc (.int .u8 0)) (rp 2 (.gs 5 []) []))),Qm 34 (tq 19) (tq 64),Qh 20 (tq 65),Qh 21 (tq 66)]) (.seq (.reg [Qh 67 (tq 18),Qh 68 (tq 21),Qp 69 .neq (tq 67) (tq 68),Qh 70 (tq 69),⟨(some 71),false,(some (70,false)),.move (tq 17) false⟩,⟨(some 72),false,(some (70,false)),.move (tq 20) false⟩,⟨(some 73),false,(some (70,false)),.eqB true (tq 71) (tq 72)⟩,oo 74 (.pick (tq 70) (Qg true) (tq 73)),Qh 75 (tq 74),⟨(some 76),false,(some (75,false)),.load true 34 (tq 16) false⟩,⟨(some 77),false,(some (75,false)),.load true 34 (tq 19) false⟩,⟨(some 78),false,(some (75,false)),.call 383 [((tq 76),1),((tq 77),1)] []⟩,⟨(some 79),false,(some (75,false)),.un .not (tq 78)⟩,oo 80 (.pick (tq 75) (Qg true) (tq 79))]) (.cond (tq 80) (.seq (.reg [Qh 8 (Qg false)]) (.seq (.mask (bl 256 83) (bl 9369036210895314877436927 83)) .ret)) .skip)))))) (.reg [Qp 81 .add (tq 47) (Qf 1),Qh 47 (tq 81)]))))
def zbC:CC:=(.reg [Qp 82 .add (tq 38) (Qf 1),Qh 38 (tq 82)])
def zat:CC:=(.seq (.reg [Qp 39 .lss (tq 38) (tq 37)]) (.seq (.cond (tq 39) .skip (.seq (.mask (bl 0 83) (bl 9369036210895314877436671 83)) (.exit 0))) (.seq (.block 1 (.seq (.reg [Qo 40 34 (tq 36) (tq 38),Qk 41 34 (tq 40),oo 13 (.alloc true (rp 32 (.sc (.int .u8 0)) (rp 2 (.gs 5 []) []))),Qm 34 (tq 13) (tq 41)]) (.seq (.reg [Qh 42 (tq 3),Qh 43 (tq 3),oo 44 (.bin .rem (tq 43) (.const (.sc (.int .u32 4)))),oo 45 (.buildSlice 1 2 [(.sc (.int .u32 0))] [(0,1,(tq 42)),(1,1,(tq 44))]),Qr 46 (tq 45),Qh 47 (Qf 0)]) (.block 2 (.loop (bl 246771640969224 83) (bl 9369036211000867993713407 83) zad))))) zbC)))
def zcE:CC:=(.seq (.reg [Qh 8 (Qg true)]) .ret)
def zaJ:CF:=⟨83,[.tmp 8],(.seq (.reg [Qh 8 (Qg false)]) (.seq (.seq (.reg [Qs 22 379 [],Qt 23 (tq 22)]) (.cond (tq 23) (.seq (.reg [Qh 8 (Qg false)]) .ret) .skip)) (.seq (.reg [Qh 24 (tq 0),Qs 25 225 [(Qw 24)],Qh 9 (tq 25)]) (.seq (.reg [Qh 26 (tq 9),Qs 27 260 [(Qw 26)],oo 10 (.alloc true (rp 32 (.sc (.int .u8 0)) (rp 2 (.gs 5 []) []))),Qm 34 (tq 10) (tq 27)]) (.seq (.reg [Qh 28 (tq 9),Qk 29 34 (tq 10),Qs 30 380 [(Qw 28),((tq 29),1)],oo 11 (.alloc true [(.sc (.int .u32 0)),(.sc (.int .u16 0)),(.sc (.int .u32 0))]),Qm 3 (tq 11) (tq 30)]) (.seq (.seq (.dreg [] [(Qk 31 34 (tq 10),ql 10 [] []),(Qk 32 34 (tq 10),ql 10 [] []),(Qh 33 (tq 1),q0),(Qh 34 (tq 2),q0),(Qs 35 381 [((tq 32),1),(Qw 33),(Qw 34)],qc [10] []),(oo 36 (.buildSlice 34 2 (rp 32 (.sc (.int .u8 0)) (rp 2 (.sl 5 []) [])) [(0,34,(tq 31)),(34,34,(tq 35))]),q0),(Qr 37 (tq 36),q0),(Qh 38 (Qf 0),q0)]) (.block 0 (.loop (bl 481036339208 83) (bl 9369036210895314877438719 83) zat))) zcE))))))⟩
def zjA:Hint:=⟨[(4,2),(8,2),(12,4),(12,8),(13,4),(13,8)],[],[none,none,none,some ((bl 481036339208 83),(bl 9369036210895314877438719 83)),none,some ((bl 0 83),(bl 9369036210895314877436671 83)),none,none,some ((bl 246771640969224 83),(bl 9369036211000867993713407 83)),none,some ((bl 481036339208 83),(bl 9369036211000867993705215 83)),none,none,some ((bl 256 83),(bl 9369036210895314877436927 83)),none],[],[],false,false,[]⟩
def yz:Nat→Sh:=zY [(50,(.int .u32))]
def xz(xh:yQ)(xj:y7)(zj:xU)(xi:zV)(xf:zM)(zc:zy)(xb:xx)(yh:xP)(L:Nat):CBC:=(yA 383 (zmC yh L) (yA 273 (zh4 xb L) (yA 382 (zfc zc L) (yA 381 (zkN xf L) (yA 380 (zn0 xi L) (yA 260 (znW zj L) (yA 225 (zpb xj L) (yA 379 (zmn xh L) noC))))))))
def z4:St→St:=zbn 0 (bl 481036339208 83) (bl 9369036210895314877438719 83)
def za0:St→St:=zbn 0 (bl 246771640969224 83) (bl 9369036211000867993713407 83)
def zah(G:Int)(C:List (List V))(D E:Int)(F:List V)(z:List (List V))(A:Int):St:=⟨(jn 3 ((Qc G)::(jn 7 ((V.ptr 11 0)::(jn 24 ((V.gs 34 C)::((Qe D)::((Qe E)::(jn 44 []))))))))),(gn 11 ((.live true F)::(gn 13 ((.live false [(V.sl 1 z),(Qe A)])::(gn 57 [])))))⟩
def zaE(N:Int)(C:List (List V))(D E:Int)(F:List (List V))(G I:Int)(J M:List V)(z:List (List V))(A:Int):St:=⟨(jn 3 ((Qc N)::(jn 7 ((V.ptr 11 0)::(jn 1 ((V.ptr 13 0)::(jn 22 ((V.gs 34 C)::((Qe D)::((Qe E)::(jn 6 ((V.gs 1 F)::((Qe G)::((Qe I)::(jn 35 []))))))))))))))),(gn 11 ((.live true J)::(gn 1 ((.live true M)::(gn 11 ((.live false [(V.sl 1 z),(Qe A)])::(gn 57 [])))))))⟩
def zc5(z:List (List V))(A:Int):St:=⟨(jn 83 []),(gn 25 ((.live false [(V.sl 1 z),(Qe A)])::(gn 57 [])))⟩
def zax(C:Bool)(z:List (List V))(A:Int):St:=⟨(jn 8 ((V.sc (.bool C))::(jn 74 []))),(gn 25 ((.live false [(V.sl 1 z),(Qe A)])::(gn 57 [])))⟩
def zeK(G:Int)(C:List (List V))(D E:Int)(F:List V)(z:List (List V))(A:Int):St:=⟨(jn 3 ((Qc G)::(jn 7 ((V.ptr 11 0)::(jn 24 ((V.gs 34 C)::((Qe D)::((Qe E)::(jn 44 []))))))))),(gn 11 ((.live true F)::(gn 13 ((.live false [(V.sl 1 z),(Qe A)])::(gn 57 [])))))⟩
abbrev zdj(β:Type):Type:=Int→List (List V)→Int→Int→List V→List (List V)→Int→Option β
abbrev zdz(β:Type):Type:=Int→List (List V)→Int→Int→List (List V)→Int→Int→List V→List V→List (List V)→Int→Option β
abbrev zfw(β:Type):Type:=Int→List (List V)→Int→Int→List V→List (List V)→Int→Option β
def zg0{β:Type}(xh:yQ)(xj:y7)(zj:xU)(xi:zV)(xf:zM)(zc:zy)(xb:xx)(yh:xP)(L:Nat)(F:List (List V))(G I J:Int)(C:Bool→Option β)(z:zdj β):Option β:=xh β L  (fun M=>ifb (!M) (C false) (xj β L F (fun N O=>zj β L N O (fun D P Q=>chk ((List.length D)=34∧0+34≤34) (lt (zg (List.replicate 32 (Qa (0:Int))++[(V.gs 5 ([]:List (List V))),(V.gs 5 ([]:List (List V)))]) 0 D) fun r6=>chk (0+34≤(List.length r6)) (xi β L (List.map V.dem (List.take 34 r6)) P Q (fun E R S=>chk ((List.length E)=3∧0+3≤3) (lt (zg [(Qc (0:Int)),(Qb (0:Int)),(Qc (0:Int))] 0 E) fun r10=>chk (0+34≤(List.length r6)) (chk (0+34≤(List.length r6)) (xf β L (List.map V.dem (List.take 34 r6)) G I (fun A=>chk ((List.length (List.take 34 r6))=34∧0+34≤68) (chk ((List.length A)=34∧34+34≤(List.length (zg (List.replicate 32 (Qa (0:Int))++[(V.sl 5 ([]:List (List V))),(V.sl 5 ([]:List (List V)))]++List.replicate 32 (Qa (0:Int))++[(V.sl 5 ([]:List (List V))),(V.sl 5 ([]:List (List V)))]) 0 (List.take 34 r6)))) (z J (yf 34 2 (zg (zg (List.replicate 32 (Qa (0:Int))++[(V.sl 5 ([]:List (List V))),(V.sl 5 ([]:List (List V)))]++List.replicate 32 (Qa (0:Int))++[(V.sl 5 ([]:List (List V))),(V.sl 5 ([]:List (List V)))]) 0 (List.take 34 r6)) 34 A)) ((List.length (yf 34 2 (zg (zg (List.replicate 32 (Qa (0:Int))++[(V.sl 5 ([]:List (List V))),(V.sl 5 ([]:List (List V)))]++List.replicate 32 (Qa (0:Int))++[(V.sl 5 ([]:List (List V))),(V.sl 5 ([]:List (List V)))]) 0 (List.take 34 r6)) 34 A)):Nat):Int) (0:Int) r10 R S)))))))))))))
theorem zpE{β:Type}(xh:yQ)(xj:y7)(zj:xU)(xi:zV)(xf:zM)(zc:zy)(xb:xx)(yh:xP)(L:Nat)(z:List (List V))(E F A:Int)(k:KK β):zq yz (xz xh xj zj xi xf zc xb yh L) L zaJ [(V.sl 1 z),(Qe E),(Qe F),(Qc A)] [] k=zg0 xh xj zj xi xf zc xb yh L z E F A (fun z=>k (V.sc (.bool z)) []) (fun A G I J M C D=>zF (zl yz (xz xh xj zj xi xf zc xb yh L) 0 L zat) z4 L (zah A G I J M C D) (yB 0 (xQ (zl yz (xz xh xj zj xi xf zc xb yh L) 0 L zcE) (y8 0 (CF.res zaJ) k)))):=by kernel_rfl
def zdr{β:Type}(xh:yQ)(xj:y7)(zj:xU)(xi:zV)(xf:zM)(zc:zy)(xb:xx)(yh:xP)(L:Nat)(E:Int)(F:List (List V))(G D:Int)(N:List V)(A:List (List V))(C:Int)(z:zdz β)(M:List (List V)→Int→Option β):Option β:=ifb (decide (D<G)) (idx F D fun I=>chk ((List.length (List.take 34 I))=34∧0+34≤34) (lt (zg (List.replicate 32 (Qa (0:Int))++[(V.gs 5 ([]:List (List V))),(V.gs 5 ([]:List (List V)))]) 0 (List.take 34 I)) fun O=>lt (Int.tmod E (4:Int)) fun J=>z E F G D (yf 1 2 [(Qc E),(Qc J)]) ((List.length (yf 1 2 [(Qc E),(Qc J)]):Nat):Int) (0:Int) N O A C)) (M A C)
theorem zk5{β:Type}(xh:yQ)(xj:y7)(zj:xU)(xi:zV)(xf:zM)(zc:zy)(xb:xx)(yh:xP)(L:Nat)(G:Int)(C:List (List V))(D E:Int)(F:List V)(z:List (List V))(A:Int)(X:St→Option β)(K:KT β):zl yz (xz xh xj zj xi xf zc xb yh L) 0 L zat (zah G C D E F z A) (zbQ z4 X K)=zdr xh xj zj xi xf zc xb yh L G C D E F z A (fun G C D E I J M F N z A=>zF (zl yz (xz xh xj zj xi xf zc xb yh L) 0 L zad) za0 L (zaE G C D E I J M F N z A) (yB 2 (yB 1 (xQ (zl yz (xz xh xj zj xi xf zc xb yh L) 0 L zbC) (zbQ z4 X K))))) (fun z A=>K (.exit 0) (zc5 z A)):=by kernel_rfl
def zfu{β:Type}(xh:yQ)(xj:y7)(zj:xU)(xi:zV)(xf:zM)(zc:zy)(xb:xx)(yh:xP)(L:Nat)(A:List (List V))(C:Int)(z:Bool→Option β):Option β:=z true
theorem zj2{β:Type}(xh:yQ)(xj:y7)(zj:xU)(xi:zV)(xf:zM)(zc:zy)(xb:xx)(yh:xP)(L:Nat)(z:List (List V))(A:Int)(k:KK β):(yB 0 (xQ (zl yz (xz xh xj zj xi xf zc xb yh L) 0 L zcE) (y8 0 (CF.res zaJ) k))) (.exit 0) (zc5 z A)=zfu xh xj zj xi xf zc xb yh L z A (fun C=>k (V.sc (.bool C)) []):=by kernel_rfl
def zb0{β:Type}(xh:yQ)(xj:y7)(zj:xU)(xi:zV)(xf:zM)(zc:zy)(xb:xx)(yh:xP)(L:Nat)(X:Int)(I:List (List V))(J M:Int)(N:List (List V))(O G:Int)(D F:List V)(A:List (List V))(C:Int)(E:Bool→List (List V)→Int→Option β)(z:zdz β)(W:zfw β):Option β:=ifb (decide (G<O)) (idx N G fun Y=>cI .u32 Y 0 fun P=>chk (0+34≤(List.length F)) (chk (0+3≤(List.length D)) (zc β L (List.map V.dem (List.take 34 F)) (List.take 3 D) P (fun Q Z aa=>chk ((List.length Q)=34∧0+34≤34) (lt (zg (List.replicate 32 (Qa (0:Int))++[(V.gs 5 ([]:List (List V))),(V.gs 5 ([]:List (List V)))]) 0 Q) fun R=>chk (0+34≤(List.length F)) (chk (0+3≤(List.length D)) (xb β L (List.map V.dem (List.take 34 F)) (List.take 3 D) P (fun S ab ac=>chk ((List.length S)=34∧0+34≤34) (lt (zg (List.replicate 32 (Qa (0:Int))++[(V.gs 5 ([]:List (List V))),(V.gs 5 ([]:List (List V)))]) 0 S) fun U=>ifb ((aa:Int) != ac) (E false A C) (ifb (!(Z==ab)) (E false A C) (chk (0+34≤(List.length R)) (chk (0+34≤(List.length U)) (yh β L (List.map V.dem (List.take 34 R)) (List.map V.dem (List.take 34 U)) (fun ad=>ifb (!ad) (E false A C) (lt (IntKind.wrap .i64 ((G:Int)+(1:Int))) fun ae=>z X I J M N O ae D F A C))))))))))))))) (W X I J M D A C)
theorem zhD{β:Type}(xh:yQ)(xj:y7)(zj:xU)(xi:zV)(xf:zM)(zc:zy)(xb:xx)(yh:xP)(L:Nat)(N:Int)(C:List (List V))(D E:Int)(G:List (List V))(I J:Int)(F M:List V)(z:List (List V))(A:Int)(X:St→Option β)(K:KT β):zl yz (xz xh xj zj xi xf zc xb yh L) 0 L zad (zaE N C D E G I J F M z A) (zbQ za0 X K)=zb0 xh xj zj xi xf zc xb yh L N C D E G I J F M z A (fun O z A=>K .ret (zax O z A)) (fun N C D E G I J F M z A=>X (zaE N C D E G I J F M z A)) (fun N C D E F z A=>K (.exit 2) (zeK N C D E F z A)):=by kernel_rfl
def zde{β:Type}(xh:yQ)(xj:y7)(zj:xU)(xi:zV)(xf:zM)(zc:zy)(xb:xx)(yh:xP)(L:Nat)(D:Bool)(z:List (List V))(A:Int)(C:Bool→List (List V)→Int→Option β):Option β:=C D z A
theorem zgr{β:Type}(xh:yQ)(xj:y7)(zj:xU)(xi:zV)(xf:zM)(zc:zy)(xb:xx)(yh:xP)(L:Nat)(C:Bool)(z:List (List V))(A:Int)(X:St→Option β)(K:KT β):(yB 2 (yB 1 (xQ (zl yz (xz xh xj zj xi xf zc xb yh L) 0 L zbC) (zbQ z4 X K)))) .ret (zax C z A)=zde xh xj zj xi xf zc xb yh L C z A (fun C z A=>K .ret (zax C z A)):=by kernel_rfl
def zbN{β:Type}(xh:yQ)(xj:y7)(zj:xU)(xi:zV)(xf:zM)(zc:zy)(xb:xx)(yh:xP)(L:Nat)(J:Int)(D:List (List V))(E F:Int)(G:List V)(A:List (List V))(C:Int)(z:zdj β):Option β:=lt (IntKind.wrap .i64 ((F:Int)+(1:Int))) fun I=>z J D E I G A C
theorem zgJ{β:Type}(xh:yQ)(xj:y7)(zj:xU)(xi:zV)(xf:zM)(zc:zy)(xb:xx)(yh:xP)(L:Nat)(G:Int)(C:List (List V))(D E:Int)(F:List V)(z:List (List V))(A:Int)(X:St→Option β)(K:KT β):(yB 2 (yB 1 (xQ (zl yz (xz xh xj zj xi xf zc xb yh L) 0 L zbC) (zbQ z4 X K)))) (.exit 2) (zeK G C D E F z A)=zbN xh xj zj xi xf zc xb yh L G C D E F z A (fun G C D E F z A=>X (zah G C D E F z A)):=by kernel_rfl
def ze5{β:Type}(xh:yQ)(xj:y7)(zj:xU)(xi:zV)(xf:zM)(zc:zy)(xb:xx)(yh:xP)(L:Nat)(D:Bool)(A:List (List V))(C:Int)(z:Bool→Option β):Option β:=z D
theorem zjG{β:Type}(xh:yQ)(xj:y7)(zj:xU)(xi:zV)(xf:zM)(zc:zy)(xb:xx)(yh:xP)(L:Nat)(C:Bool)(z:List (List V))(A:Int)(k:KK β):(yB 0 (xQ (zl yz (xz xh xj zj xi xf zc xb yh L) 0 L zcE) (y8 0 (CF.res zaJ) k))) .ret (zax C z A)=ze5 xh xj zj xi xf zc xb yh L C z A (fun D=>k (V.sc (.bool D)) []):=by kernel_rfl
def y5{β:Type}(xh:yQ)(xj:y7)(zj:xU)(xi:zV)(xf:zM)(zc:zy)(xb:xx)(yh:xP)(L:Nat)(C:Bool→List (List V)→Int→Option β)(D:zfw β):Nat→Int→List (List V)→Int→Int→List (List V)→Int→Int→List V→List V→List (List V)→Int→Option β
 | 0,_,_,_,_,_,_,_,_,_,_,_=>none
 | n+1,P,E,F,G,I,J,M,N,O,z,A=>zb0 xh xj zj xi xf zc xb yh L P E F G I J M N O z A C (fun P E F G I J M N O z A=>y5 xh xj zj xi xf zc xb yh L C D n P E F G I J M N O z A) D
theorem zdg{β:Type}(xh:yQ)(xj:y7)(zj:xU)(xi:zV)(xf:zM)(zc:zy)(xb:xx)(yh:xP)(L:Nat)(K:KT β):∀ (n:Nat) (N:Int) (C:List (List V)) (D E:Int) (G:List (List V)) (I J:Int) (F M:List V) (z:List (List V)) (A:Int),zF (zl yz (xz xh xj zj xi xf zc xb yh L) 0 L zad) za0 n (zaE N C D E G I J F M z A) K=y5 xh xj zj xi xf zc xb yh L (fun O z A=>K .ret (zax O z A)) (fun N C D E F z A=>K (.exit 2) (zeK N C D E F z A)) n N C D E G I J F M z A:=by
 intro n
 induction n with
 | zero=>intros; rfl
 | succ n ih=>
  intro N C D E G I J F M z A
  refine (zhD xh xj zj xi xf zc xb yh L N C D E G I J F M z A (fun σ=>zF (zl yz (xz xh xj zj xi xf zc xb yh L) 0 L zad) za0 n σ K) K).trans ?_
  simp only [ih]
  rfl
def zbV{β:Type}(xh:yQ)(xj:y7)(zj:xU)(xi:zV)(xf:zM)(zc:zy)(xb:xx)(yh:xP)(L:Nat)(I:Int)(D:List (List V))(E F:Int)(G:List V)(z:List (List V))(A:Int)(M:List (List V)→Int→Option β)(J:Bool→List (List V)→Int→Option β)(C:zdj β):Option β:=zdr xh xj zj xi xf zc xb yh L I D E F G z A (fun I D E F N O P G Q z A=>y5 xh xj zj xi xf zc xb yh L (fun R z A=>zde xh xj zj xi xf zc xb yh L R z A J) (fun I D E F G z A=>zbN xh xj zj xi xf zc xb yh L I D E F G z A C) L I D E F N O P G Q z A) M
theorem zkA{β:Type}(xh:yQ)(xj:y7)(zj:xU)(xi:zV)(xf:zM)(zc:zy)(xb:xx)(yh:xP)(L:Nat)(G:Int)(C:List (List V))(D E:Int)(F:List V)(z:List (List V))(A:Int)(X:St→Option β)(K:KT β):zl yz (xz xh xj zj xi xf zc xb yh L) 0 L zat (zah G C D E F z A) (zbQ z4 X K)=zbV xh xj zj xi xf zc xb yh L G C D E F z A (fun z A=>K (.exit 0) (zc5 z A)) (fun I z A=>K .ret (zax I z A)) (fun G C D E F z A=>X (zah G C D E F z A)):=by
 refine (zk5 xh xj zj xi xf zc xb yh L G C D E F z A X K).trans ?_
 unfold zbV
 first
  | (simp only [zdg,zgr,zgJ]; done)
  | (simp only [zdg]; rfl)
def zbi{β:Type}(xh:yQ)(xj:y7)(zj:xU)(xi:zV)(xf:zM)(zc:zy)(xb:xx)(yh:xP)(L:Nat)(D:List (List V)→Int→Option β)(C:Bool→List (List V)→Int→Option β):Nat→Int→List (List V)→Int→Int→List V→List (List V)→Int→Option β
 | 0,_,_,_,_,_,_,_=>none
 | n+1,J,E,F,G,I,z,A=>zbV xh xj zj xi xf zc xb yh L J E F G I z A D C (fun J E F G I z A=>zbi xh xj zj xi xf zc xb yh L D C n J E F G I z A)
theorem zeZ{β:Type}(xh:yQ)(xj:y7)(zj:xU)(xi:zV)(xf:zM)(zc:zy)(xb:xx)(yh:xP)(L:Nat)(K:KT β):∀ (n:Nat) (G:Int) (C:List (List V)) (D E:Int) (F:List V) (z:List (List V)) (A:Int),zF (zl yz (xz xh xj zj xi xf zc xb yh L) 0 L zat) z4 n (zah G C D E F z A) K=zbi xh xj zj xi xf zc xb yh L (fun z A=>K (.exit 0) (zc5 z A)) (fun I z A=>K .ret (zax I z A)) n G C D E F z A:=by
 intro n
 induction n with
 | zero=>intros; rfl
 | succ n ih=>
  intro G C D E F z A
  refine (zkA xh xj zj xi xf zc xb yh L G C D E F z A (fun σ=>zF (zl yz (xz xh xj zj xi xf zc xb yh L) 0 L zat) z4 n σ K) K).trans ?_
  simp only [ih]
  rfl
def zef{β:Type}(xh:yQ)(xj:y7)(zj:xU)(xi:zV)(xf:zM)(zc:zy)(xb:xx)(yh:xP)(L:Nat)(J:List (List V))(M N D:Int)(C:Bool→Option β):Option β:=zg0 xh xj zj xi xf zc xb yh L J M N D C (fun D E F G I z A=>zbi xh xj zj xi xf zc xb yh L (fun z A=>zfu xh xj zj xi xf zc xb yh L z A C) (fun O z A=>ze5 xh xj zj xi xf zc xb yh L O z A C) L D E F G I z A)
theorem zpV{β:Type}(xh:yQ)(xj:y7)(zj:xU)(xi:zV)(xf:zM)(zc:zy)(xb:xx)(yh:xP)(L:Nat)(z:List (List V))(A C D:Int)(k:KK β):zq yz (xz xh xj zj xi xf zc xb yh L) L zaJ [(V.sl 1 z),(Qe A),(Qe C),(Qc D)] [] k=zef xh xj zj xi xf zc xb yh L z A C D (fun z=>k (V.sc (.bool z)) []):=by
 refine (zpE xh xj zj xi xf zc xb yh L z A C D k).trans ?_
 unfold zef
 first
  | (simp only [zeZ,zj2,zjG]; done)
  | (simp only [zeZ]; rfl)
abbrev zsl:=∀ (β:Type),Nat→List (List V)→Int→Int→Int→(Bool→Option β)→Option β
def zaV(β:Type)(L:Nat)(A:List (List V))(C D E:Int)(z:Bool→Option β):Option β:=zef xh xj zj xi xf zc xb yh L A C D E z
def zej(zaV:zsl)(L:Nat)(β:Type)(args:List V)(bor:Bor)(k:KK β):Option β:=match args,bor with
 | [a0,a1,a2,a3],[]=>aL 1 a0 fun z=>aI .i64 a1 fun A=>aI .i64 a2 fun C=>aI .u32 a3 fun D=>zaV β L z A C D (fun z=>k (V.sc (.bool z)) [])
 | _,_=>none
theorem zqf(L:Nat)(β:Type)(args:List V)(bor:Bor)(k:KK β)(r:β)(h:zej zaV L β args bor k=some r):zq yz (xz xh xj zj xi xf zc xb yh L) L zaJ args bor k=some r:=by
 unfold zej at h
 split at h
 ·have q:=zaP h; clear h; obtain ⟨z,rfl,h⟩:=q
  have q:=yy h; clear h; obtain ⟨A,rfl,h⟩:=q
  have q:=yy h; clear h; obtain ⟨C,rfl,h⟩:=q
  have q:=yy h; clear h; obtain ⟨D,rfl,h⟩:=q
  exact (zpV xh xj zj xi xf zc xb yh L z A C D k).trans h
 ·cases h
def gls:List (Nat × List V):=[]
def fg:List (Nat × Nat):=[(3,374),(4,375),(5,376),(6,377),(7,378),(8,379),(9,225),(10,260),(11,380),(12,381),(13,382),(14,273),(15,383),(16,269),(17,294),(18,297),(19,305),(20,299),(21,290),(22,275),(23,281),(24,384),(25,385),(26,386),(27,387),(28,388),(29,231),(30,389),(31,272),(32,390),(33,391),(34,392),(35,393),(36,236),(37,262),(38,288),(39,217),(40,394),(41,395),(42,396),(43,293),(44,109),(45,105),(46,157),(47,110),(48,106),(49,159),(50,205),(51,304),(52,295),(53,296),(54,298),(55,302),(56,287),(57,247),(58,397),(59,398),(60,399),(61,400),(62,289),(63,291),(64,292),(65,401),(66,402),(67,403),(68,404),(69,112),(70,111),(71,113),(72,191),(73,192),(74,115),(75,114),(76,116),(77,193),(78,194),(79,303),(80,405),(81,406),(82,118),(83,407),(84,408)]
def rows:List Row:=[⟨69,112,ztn,zgo⟩,⟨44,109,zus,zo4⟩,⟨16,269,zne,zgD⟩,⟨73,192,zoU,zdi⟩,⟨72,191,zo2,ziK⟩,⟨46,157,zlV,zfW⟩,⟨82,118,zg9,zc2⟩,⟨71,113,zqI,zev⟩,⟨70,111,zqA,zkM⟩,⟨45,105,zuv,zhf⟩,⟨18,297,zip,zdv⟩,⟨53,296,zlj,zfp⟩,⟨52,295,zm3,zbo⟩,⟨50,205,zmt,zf2⟩,⟨20,299,ziM,zdx⟩,⟨54,298,zlE,zfi⟩,⟨22,275,zm8,zgw⟩,⟨65,401,zdD,za4⟩,⟨40,394,zmB,zfP⟩,⟨68,404,zoe,zhy⟩,⟨67,403,zl5,zf6⟩,⟨66,402,zcW,yH⟩,⟨41,395,zof,zhk⟩,⟨59,398,zmc,zaI⟩,⟨61,400,zdo,zaZ⟩,⟨42,396,zni,zcy⟩,⟨13,382,zm9,zgE⟩,⟨8,379,zqJ,zkP⟩,⟨9,225,ztq,znS⟩,⟨57,247,znh,zgI⟩,⟨39,217,ztk,znT⟩,⟨29,231,zm7,zgy⟩,⟨36,236,zrI,zmo⟩,⟨74,115,zqE,zes⟩,⟨47,110,zrL,zmD⟩,⟨78,194,zoW,zdc⟩,⟨77,193,zo0,ziB⟩,⟨49,159,zmY,zf9⟩,⟨51,304,zmQ,zf5⟩,⟨76,116,zqa,zjV⟩,⟨75,114,zo1,ziF⟩,⟨48,106,zrE,zff⟩,⟨17,294,zqr,zjP⟩,⟨21,290,zkw,zeO⟩,⟨19,305,zkx,zeI⟩,⟨79,303,zqP,zkQ⟩,⟨56,287,zqW,zcQ⟩,⟨55,302,zpv,zcX⟩,⟨23,281,zp8,zcZ⟩,⟨38,288,zoV,zix⟩,⟨62,289,zoZ,ziw⟩,⟨63,291,zoY,zbA⟩,⟨64,292,zoX,ziI⟩,⟨43,293,zqM,zcP⟩,⟨31,272,zqD,zkK⟩,⟨37,262,zrR,zmi⟩,⟨14,273,zpH,zjI⟩,⟨10,260,zsk,ze6⟩,⟨11,380,zsg,zmI⟩,⟨12,381,zpA,zjH⟩,⟨27,387,zlF,zbm⟩,⟨15,383,zqO,zkO⟩,⟨3,374,zjA,zaJ⟩]
theorem zBB:zU Try.prog (xL fg gls) ztn 69=some zgo:=by kernel_rfl
theorem zCt:zU Try.prog (xL fg gls) zus 44=some zo4:=by kernel_rfl
theorem zvp:zU Try.prog (xL fg gls) zne 16=some zgD:=by kernel_rfl
theorem zxl:zU Try.prog (xL fg gls) zoU 73=some zdi:=by kernel_rfl
theorem zyc:zU Try.prog (xL fg gls) zo2 72=some ziK:=by kernel_rfl
theorem zuK:zU Try.prog (xL fg gls) zlV 46=some zfW:=by kernel_rfl
theorem zo7:zU Try.prog (xL fg gls) zg9 82=some zc2:=by kernel_rfl
theorem zzM:zU Try.prog (xL fg gls) zqI 71=some zev:=by kernel_rfl
theorem zzJ:zU Try.prog (xL fg gls) zqA 70=some zkM:=by kernel_rfl
theorem zCD:zU Try.prog (xL fg gls) zuv 45=some zhf:=by kernel_rfl
theorem zqy:zU Try.prog (xL fg gls) zip 18=some zdv:=by kernel_rfl
theorem ztN:zU Try.prog (xL fg gls) zlj 53=some zfp:=by kernel_rfl
theorem zvO:zU Try.prog (xL fg gls) zm3 52=some zbo:=by kernel_rfl
theorem zuT:zU Try.prog (xL fg gls) zmt 50=some zf2:=by kernel_rfl
theorem zqv:zU Try.prog (xL fg gls) ziM 20=some zdx:=by kernel_rfl
theorem ztD:zU Try.prog (xL fg gls) zlE 54=some zfi:=by kernel_rfl
theorem zvG:zU Try.prog (xL fg gls) zm8 22=some zgw:=by kernel_rfl
theorem zi2:zU Try.prog (xL fg gls) zdD 65=some za4:=by kernel_rfl
theorem zue:zU Try.prog (xL fg gls) zmB 40=some zfP:=by kernel_rfl
theorem zwN:zU Try.prog (xL fg gls) zoe 68=some zhy:=by kernel_rfl
theorem zt3:zU Try.prog (xL fg gls) zl5 67=some zf6:=by kernel_rfl
theorem zhw:zU Try.prog (xL fg gls) zcW 66=some yH:=by kernel_rfl
theorem zwE:zU Try.prog (xL fg gls) zof 41=some zhk:=by kernel_rfl
theorem zt8:zU Try.prog (xL fg gls) zmc 59=some zaI:=by kernel_rfl
theorem ziP:zU Try.prog (xL fg gls) zdo 61=some zaZ:=by kernel_rfl
theorem zvw:zU Try.prog (xL fg gls) zni 42=some zcy:=by kernel_rfl
theorem zvN:zU Try.prog (xL fg gls) zm9 13=some zgE:=by kernel_rfl
theorem zzP:zU Try.prog (xL fg gls) zqJ 8=some zkP:=by kernel_rfl
theorem zBr:zU Try.prog (xL fg gls) ztq 9=some znS:=by kernel_rfl
theorem zvK:zU Try.prog (xL fg gls) znh 57=some zgI:=by kernel_rfl
theorem zBA:zU Try.prog (xL fg gls) ztk 39=some znT:=by kernel_rfl
theorem zvt:zU Try.prog (xL fg gls) zm7 29=some zgy:=by kernel_rfl
theorem zAI:zU Try.prog (xL fg gls) zrI 36=some zmo:=by kernel_rfl
theorem zzU:zU Try.prog (xL fg gls) zqE 74=some zes:=by kernel_rfl
theorem zAg:zU Try.prog (xL fg gls) zrL 47=some zmD:=by kernel_rfl
theorem zxM:zU Try.prog (xL fg gls) zoW 78=some zdc:=by kernel_rfl
theorem zxx:zU Try.prog (xL fg gls) zo0 77=some ziB:=by kernel_rfl
theorem zuq:zU Try.prog (xL fg gls) zmY 49=some zf9:=by kernel_rfl
theorem zuR:zU Try.prog (xL fg gls) zmQ 51=some zf5:=by kernel_rfl
theorem zyF:zU Try.prog (xL fg gls) zqa 76=some zjV:=by kernel_rfl
theorem zxp:zU Try.prog (xL fg gls) zo1 75=some ziF:=by kernel_rfl
theorem zAe:zU Try.prog (xL fg gls) zrE 48=some zff:=by kernel_rfl
theorem zyH:zU Try.prog (xL fg gls) zqr 17=some zjP:=by kernel_rfl
theorem zs4:zU Try.prog (xL fg gls) zkw 21=some zeO:=by kernel_rfl
theorem zs0:zU Try.prog (xL fg gls) zkx 19=some zeI:=by kernel_rfl
theorem zzI:zU Try.prog (xL fg gls) zqP 79=some zkQ:=by kernel_rfl
theorem zzN:zU Try.prog (xL fg gls) zqW 56=some zcQ:=by kernel_rfl
theorem zyg:zU Try.prog (xL fg gls) zpv 55=some zcX:=by kernel_rfl
theorem zyo:zU Try.prog (xL fg gls) zp8 23=some zcZ:=by kernel_rfl
theorem zxh:zU Try.prog (xL fg gls) zoV 38=some zix:=by kernel_rfl
theorem zw0:zU Try.prog (xL fg gls) zoZ 62=some ziw:=by kernel_rfl
theorem zxI:zU Try.prog (xL fg gls) zoY 63=some zbA:=by kernel_rfl
theorem zxK:zU Try.prog (xL fg gls) zoX 64=some ziI:=by kernel_rfl
theorem zzZ:zU Try.prog (xL fg gls) zqM 43=some zcP:=by kernel_rfl
theorem zzF:zU Try.prog (xL fg gls) zqD 31=some zkK:=by kernel_rfl
theorem zBj:zU Try.prog (xL fg gls) zrR 37=some zmi:=by kernel_rfl
theorem zyk:zU Try.prog (xL fg gls) zpH 14=some zjI:=by kernel_rfl
theorem zBa:zU Try.prog (xL fg gls) zsk 10=some ze6:=by kernel_rfl
theorem zAB:zU Try.prog (xL fg gls) zsg 11=some zmI:=by kernel_rfl
theorem zyE:zU Try.prog (xL fg gls) zpA 12=some zjH:=by kernel_rfl
theorem ztM:zU Try.prog (xL fg gls) zlF 27=some zbm:=by kernel_rfl
theorem zzT:zU Try.prog (xL fg gls) zqO 15=some zkO:=by kernel_rfl
theorem zru:zU Try.prog (xL fg gls) zjA 3=some zaJ:=by kernel_rfl
theorem zF6:∀ r∈rows,(r.f,r.g)∈fg∧zer Try.prog r.f=true∧zU Try.prog (xL fg gls) r.h r.f=some r.c:=by
 intro r hr
 simp only [rows,List.mem_cons,List.not_mem_nil,or_false] at hr
 rcases hr with rfl | rfl | rfl | rfl | rfl | rfl | rfl | rfl | rfl | rfl | rfl | rfl | rfl | rfl | rfl | rfl | rfl | rfl | rfl | rfl | rfl | rfl | rfl | rfl | rfl | rfl | rfl | rfl | rfl | rfl | rfl | rfl | rfl | rfl | rfl | rfl | rfl | rfl | rfl | rfl | rfl | rfl | rfl | rfl | rfl | rfl | rfl | rfl | rfl | rfl | rfl | rfl | rfl | rfl | rfl | rfl | rfl | rfl | rfl | rfl | rfl | rfl | rfl
 ·exact ⟨of_decide_eq_true (by kernel_rfl),by kernel_rfl,zBB⟩
 ·exact ⟨of_decide_eq_true (by kernel_rfl),by kernel_rfl,zCt⟩
 ·exact ⟨of_decide_eq_true (by kernel_rfl),by kernel_rfl,zvp⟩
 ·exact ⟨of_decide_eq_true (by kernel_rfl),by kernel_rfl,zxl⟩
 ·exact ⟨of_decide_eq_true (by kernel_rfl),by kernel_rfl,zyc⟩
 ·exact ⟨of_decide_eq_true (by kernel_rfl),by kernel_rfl,zuK⟩
 ·exact ⟨of_decide_eq_true (by kernel_rfl),by kernel_rfl,zo7⟩
 ·exact ⟨of_decide_eq_true (by kernel_rfl),by kernel_rfl,zzM⟩
 ·exact ⟨of_decide_eq_true (by kernel_rfl),by kernel_rfl,zzJ⟩
 ·exact ⟨of_decide_eq_true (by kernel_rfl),by kernel_rfl,zCD⟩
 ·exact ⟨of_decide_eq_true (by kernel_rfl),by kernel_rfl,zqy⟩
 ·exact ⟨of_decide_eq_true (by kernel_rfl),by kernel_rfl,ztN⟩
 ·exact ⟨of_decide_eq_true (by kernel_rfl),by kernel_rfl,zvO⟩
 ·exact ⟨of_decide_eq_true (by kernel_rfl),by kernel_rfl,zuT⟩
 ·exact ⟨of_decide_eq_true (by kernel_rfl),by kernel_rfl,zqv⟩
 ·exact ⟨of_decide_eq_true (by kernel_rfl),by kernel_rfl,ztD⟩
 ·exact ⟨of_decide_eq_true (by kernel_rfl),by kernel_rfl,zvG⟩
 ·exact ⟨of_decide_eq_true (by kernel_rfl),by kernel_rfl,zi2⟩
 ·exact ⟨of_decide_eq_true (by kernel_rfl),by kernel_rfl,zue⟩
 ·exact ⟨of_decide_eq_true (by kernel_rfl),by kernel_rfl,zwN⟩
 ·exact ⟨of_decide_eq_true (by kernel_rfl),by kernel_rfl,zt3⟩
 ·exact ⟨of_decide_eq_true (by kernel_rfl),by kernel_rfl,zhw⟩
 ·exact ⟨of_decide_eq_true (by kernel_rfl),by kernel_rfl,zwE⟩
 ·exact ⟨of_decide_eq_true (by kernel_rfl),by kernel_rfl,zt8⟩
 ·exact ⟨of_decide_eq_true (by kernel_rfl),by kernel_rfl,ziP⟩
 ·exact ⟨of_decide_eq_true (by kernel_rfl),by kernel_rfl,zvw⟩
 ·exact ⟨of_decide_eq_true (by kernel_rfl),by kernel_rfl,zvN⟩
 ·exact ⟨of_decide_eq_true (by kernel_rfl),by kernel_rfl,zzP⟩
 ·exact ⟨of_decide_eq_true (by kernel_rfl),by kernel_rfl,zBr⟩
 ·exact ⟨of_decide_eq_true (by kernel_rfl),by kernel_rfl,zvK⟩
 ·exact ⟨of_decide_eq_true (by kernel_rfl),by kernel_rfl,zBA⟩
 ·exact ⟨of_decide_eq_true (by kernel_rfl),by kernel_rfl,zvt⟩
 ·exact ⟨of_decide_eq_true (by kernel_rfl),by kernel_rfl,zAI⟩
 ·exact ⟨of_decide_eq_true (by kernel_rfl),by kernel_rfl,zzU⟩
 ·exact ⟨of_decide_eq_true (by kernel_rfl),by kernel_rfl,zAg⟩
 ·exact ⟨of_decide_eq_true (by kernel_rfl),by kernel_rfl,zxM⟩
 ·exact ⟨of_decide_eq_true (by kernel_rfl),by kernel_rfl,zxx⟩
 ·exact ⟨of_decide_eq_true (by kernel_rfl),by kernel_rfl,zuq⟩
 ·exact ⟨of_decide_eq_true (by kernel_rfl),by kernel_rfl,zuR⟩
 ·exact ⟨of_decide_eq_true (by kernel_rfl),by kernel_rfl,zyF⟩
 ·exact ⟨of_decide_eq_true (by kernel_rfl),by kernel_rfl,zxp⟩
 ·exact ⟨of_decide_eq_true (by kernel_rfl),by kernel_rfl,zAe⟩
 ·exact ⟨of_decide_eq_true (by kernel_rfl),by kernel_rfl,zyH⟩
 ·exact ⟨of_decide_eq_true (by kernel_rfl),by kernel_rfl,zs4⟩
 ·exact ⟨of_decide_eq_true (by kernel_rfl),by kernel_rfl,zs0⟩
 ·exact ⟨of_decide_eq_true (by kernel_rfl),by kernel_rfl,zzI⟩
 ·exact ⟨of_decide_eq_true (by kernel_rfl),by kernel_rfl,zzN⟩
 ·exact ⟨of_decide_eq_true (by kernel_rfl),by kernel_rfl,zyg⟩
 ·exact ⟨of_decide_eq_true (by kernel_rfl),by kernel_rfl,zyo⟩
 ·exact ⟨of_decide_eq_true (by kernel_rfl),by kernel_rfl,zxh⟩
 ·exact ⟨of_decide_eq_true (by kernel_rfl),by kernel_rfl,zw0⟩
 ·exact ⟨of_decide_eq_true (by kernel_rfl),by kernel_rfl,zxI⟩
 ·exact ⟨of_decide_eq_true (by kernel_rfl),by kernel_rfl,zxK⟩
 ·exact ⟨of_decide_eq_true (by kernel_rfl),by kernel_rfl,zzZ⟩
 ·exact ⟨of_decide_eq_true (by kernel_rfl),by kernel_rfl,zzF⟩
 ·exact ⟨of_decide_eq_true (by kernel_rfl),by kernel_rfl,zBj⟩
 ·exact ⟨of_decide_eq_true (by kernel_rfl),by kernel_rfl,zyk⟩
 ·exact ⟨of_decide_eq_true (by kernel_rfl),by kernel_rfl,zBa⟩
 ·exact ⟨of_decide_eq_true (by kernel_rfl),by kernel_rfl,zAB⟩
 ·exact ⟨of_decide_eq_true (by kernel_rfl),by kernel_rfl,zyE⟩
 ·exact ⟨of_decide_eq_true (by kernel_rfl),by kernel_rfl,ztM⟩
 ·exact ⟨of_decide_eq_true (by kernel_rfl),by kernel_rfl,zzT⟩
 ·exact ⟨of_decide_eq_true (by kernel_rfl),by kernel_rfl,zru⟩
theorem mixed:Try.prog.follows .mixedOrders=true:=by kernel_rfl
theorem zGQ:zFg fg=true:=by kernel_rfl
theorem zG6:zhS Try.prog (xL fg gls) zsM:=zFF (zGc (by kernel_rfl)) (zF3 (f0:=60) (g0:=399) (by kernel_rfl) rfl (zGH zHa (of_decide_eq_true (by kernel_rfl))))
theorem zG2(L d:Nat):zhS Try.prog (xL fg gls) (evF (xH rows) zsM L d):=zGd mixed zGQ zG6 zF6 L d
theorem zuy(L:Nat):FOk (xH rows) L 112 (zmw zr L) 1:=zE (D:=0) (by kernel_rfl) fun m hm=>⟨zc8,zc7 L,yD,zzO L⟩
theorem zwe(L:Nat):FOk (xH rows) L 109 (zoh xZ L) 2:=zE (D:=1) (by kernel_rfl) fun m hm=>⟨zsJ,zsN zr L,(yl yD (zuy L m (by omega))),zAF L⟩
theorem zjr(L:Nat):FOk (xH rows) L 269 (zdI xo L) 1:=zE (D:=0) (by kernel_rfl) fun m hm=>⟨zj9,zj6 L,yD,ztC L⟩
theorem zp3(L:Nat):FOk (xH rows) L 192 (zgO yC L) 1:=zE (D:=0) (by kernel_rfl) fun m hm=>⟨zby,zbz L,yD,zvs L⟩
theorem zpM(L:Nat):FOk (xH rows) L 191 (zgW xC L) 1:=zE (D:=0) (by kernel_rfl) fun m hm=>⟨zl4,zmJ L,yD,zvJ L⟩
theorem znb(L:Nat):FOk (xH rows) L 157 (zeA xr L) 2:=zE (D:=1) (by kernel_rfl) fun m hm=>⟨zjo,zjc yC xC L,(yl (yl yD (zp3 L m (by omega))) (zpM L m (by omega))),zsI L⟩
theorem zhU(L:Nat):FOk (xH rows) L 118 (zb5 yb L) 1:=zE (D:=0) (by kernel_rfl) fun m hm=>⟨zeN,zeM L,yD,zon L⟩
theorem zrN(L:Nat):FOk (xH rows) L 113 (zjv xm L) 2:=zE (D:=1) (by kernel_rfl) fun m hm=>⟨zcg,zcd yb L,(yl yD (zhU L m (by omega))),zw4 L⟩
theorem zyO(L:Nat):FOk (xH rows) L 111 (zmF zt L) 3:=zE (D:=2) (by kernel_rfl) fun m hm=>⟨zoF,zoK xm L,(yl yD (zrN L m (by omega))),zxf L⟩
theorem zv6(L:Nat):FOk (xH rows) L 105 (zok yU L) 4:=zE (D:=3) (by kernel_rfl) fun m hm=>⟨zd2,zd1 zr zt xm L,(yl (yl (yl yD (zuy L m (by omega))) (zyO L m (by omega))) (zrN L m (by omega))),zAY L⟩
theorem ziS(L:Nat):FOk (xH rows) L 297 (zcH ze L) 5:=zE (D:=4) (by kernel_rfl) fun m hm=>⟨zfx,zfF xZ xo xr yU L,(yl (yl (yl (yl yD (zwe L m (by omega))) (zjr L m (by omega))) (znb L m (by omega))) (zv6 L m (by omega))),zpk L⟩
theorem zsY(L:Nat):FOk (xH rows) L 296 (zgb yi L) 6:=zE (D:=5) (by kernel_rfl) fun m hm=>⟨zie,zil ze L,(yl yD (ziS L m (by omega))),zsj L⟩
theorem zua(L:Nat):FOk (xH rows) L 295 (zhm zS L) 7:=zE (D:=6) (by kernel_rfl) fun m hm=>⟨zaB,zaA yi L,(yl yD (zsY L m (by omega))),ztP L⟩
theorem ztI(L:Nat):FOk (xH rows) L 205 (zgB zP L) 2:=zE (D:=1) (by kernel_rfl) fun m hm=>⟨zjd,zi5 yC xC L,(yl (yl yD (zp3 L m (by omega))) (zpM L m (by omega))),zsR L⟩
theorem zqc(L:Nat):FOk (xH rows) L 299 (zdU yE L) 5:=zE (D:=4) (by kernel_rfl) fun m hm=>⟨zfC,zfv xZ xr zP yU xo L,(yl (yl (yl (yl (yl yD (zwe L m (by omega))) (znb L m (by omega))) (ztI L m (by omega))) (zv6 L m (by omega))) (zjr L m (by omega))),zpg L⟩
theorem zsD(L:Nat):FOk (xH rows) L 298 (zf1 zi L) 6:=zE (D:=5) (by kernel_rfl) fun m hm=>⟨zig,zh9 yE L,(yl yD (zqc L m (by omega))),zr8 L⟩
theorem zr6(L:Nat):FOk (xH rows) L 295 (zfk xJ L) 7:=zE (D:=6) (by kernel_rfl) fun m hm=>⟨y9,z9 zi L,(yl yD (zsD L m (by omega))),zrc L⟩
theorem zu3(L:Nat):FOk (xH rows) L 275 (zhz zR L) 8:=zE (D:=7) (by kernel_rfl) fun m hm=>⟨zj4,zkp zS xJ L,(zBc (zBc yD (zua L m (by omega))) (zr6 L m (by omega))),ztO L⟩
theorem ziQ(L:Nat):FOk (xH rows) L 401 (zbg yn L) 1:=zE (D:=0) (by kernel_rfl) fun m hm=>⟨zb3,zb4 L,yD,zik L⟩
theorem ztB(L:Nat):FOk (xH rows) L 394 (zgv yP L) 2:=zE (D:=1) (by kernel_rfl) fun m hm=>⟨zjn,zjD yn L,(yl yD (ziQ L m (by omega))),zsO L⟩
theorem zvL(L:Nat):FOk (xH rows) L 404 (ziN xW L) 1:=zE (D:=0) (by kernel_rfl) fun m hm=>⟨zle,zli L,yD,zuF L⟩
theorem zty(L:Nat):FOk (xH rows) L 403 (zgz yj L) 2:=zE (D:=1) (by kernel_rfl) fun m hm=>⟨zjj,zjy xW L,(yl yD (zvL L m (by omega))),zsx L⟩
theorem zg8(L:Nat):FOk (xH rows) L 402 (zaM zm L) 3:=zE (D:=2) (by kernel_rfl) fun m hm=>⟨xw,yw yj L,(yl yD (zty L m (by omega))),zgT L⟩
theorem zvB(L:Nat):FOk (xH rows) L 395 (ziu zT L) 4:=zE (D:=3) (by kernel_rfl) fun m hm=>⟨zk8,zlc zm L,(yl yD (zg8 L m (by omega))),zub L⟩
theorem ztT(L:Nat):FOk (xH rows) L 398 (zgC zk L) 1:=zE (D:=0) (by kernel_rfl) fun m hm=>⟨yM,xM L,yD,zs5 L⟩
theorem zin(L:Nat):FOk (xH rows) L 399 (za5 xa L) 1:=zGf (d:=za5 xa L) (by kernel_rfl) rfl (fun β args bor k r h=>by
 unfold za5 xa at h
 split at h
 ·have q:=zjQ h; clear h; obtain ⟨n,rfl,h⟩:=q
  have q:=yy h; clear h; obtain ⟨i,rfl,h⟩:=q
  have q:=zjQ h; clear h; obtain ⟨m,rfl,h⟩:=q
  obtain ⟨hk,h⟩:=xv h
  exact ⟨n,i,m,_,_,rfl,rfl,hk,h⟩
 ·cases h)
theorem zih(L:Nat):FOk (xH rows) L 400 (za7 zb L) 1:=zE (D:=0) (by kernel_rfl) fun m hm=>⟨zbY,zbZ L,yD,zh1 L⟩
theorem zuc(L:Nat):FOk (xH rows) L 396 (zhj xR L) 6:=zE (D:=5) (by kernel_rfl) fun m hm=>⟨zaj,zai ze zk xa zb L,(yl (yl (yl (yl yD (ziS L m (by omega))) (ztT L m (by omega))) (zin L m (by omega))) (zih L m (by omega))),ztS L⟩
theorem zoj(L:Nat):FOk (xH rows) L 382 (zfc zc L) 9:=zE (D:=8) (by kernel_rfl) fun m hm=>⟨zkn,zj0 zR yP zT xR L,(yl (yl (yl (yl yD (zu3 L m (by omega))) (ztB L m (by omega))) (zvB L m (by omega))) (zuc L m (by omega))),ztw L⟩
theorem zyn(L:Nat):FOk (xH rows) L 379 (zmn xh L) 10:=zE (D:=9) (by kernel_rfl) fun m hm=>⟨zox,zoD zc xo L,(yl (yl yD (zoj L m (by omega))) (zjr L m (by omega))),zxV L⟩
theorem zAl(L:Nat):FOk (xH rows) L 225 (zpb xj L) 1:=zE (D:=0) (by kernel_rfl) fun m hm=>⟨zq6,zq9 L,yD,zzW L⟩
theorem zud(L:Nat):FOk (xH rows) L 247 (zhg yS L) 1:=zE (D:=0) (by kernel_rfl) fun m hm=>⟨zke,zkl L,yD,ztR L⟩
theorem zt4(L:Nat):FOk (xH rows) L 217 (zmG zN L) 1:=zE (D:=0) (by kernel_rfl) fun m hm=>⟨zrb,zrf L,yD,zzR L⟩
theorem zfS(L:Nat):FOk (xH rows) L 231 (zcV yc L) 2:=zE (D:=1) (by kernel_rfl) fun m hm=>⟨zkm,zkd yS zN L,(yl (yl yD (zud L m (by omega))) (zt4 L m (by omega))),ztu L⟩
theorem zzQ(L:Nat):FOk (xH rows) L 236 (znU yv L) 3:=zE (D:=2) (by kernel_rfl) fun m hm=>⟨zp6,zqm yc L,(yl yD (zfS L m (by omega))),zyx L⟩
theorem zsh(L:Nat):FOk (xH rows) L 115 (ziZ xl L) 1:=zE (D:=0) (by kernel_rfl) fun m hm=>⟨zcf,zce L,yD,zye L⟩
theorem ztl(L:Nat):FOk (xH rows) L 110 (zkH yN L) 2:=zE (D:=1) (by kernel_rfl) fun m hm=>⟨zp0,zqg xl L,(yl yD (zsh L m (by omega))),zyt L⟩
theorem zpX(L:Nat):FOk (xH rows) L 194 (zgZ xB L) 1:=zE (D:=0) (by kernel_rfl) fun m hm=>⟨zbD,zbB L,yD,zvP L⟩
theorem zp9(L:Nat):FOk (xH rows) L 193 (zg6 zC L) 1:=zE (D:=0) (by kernel_rfl) fun m hm=>⟨zl2,zmP L,yD,zvu L⟩
theorem zm5(L:Nat):FOk (xH rows) L 159 (zez yr L) 2:=zE (D:=1) (by kernel_rfl) fun m hm=>⟨zjt,zi0 xB zC L,(yl (yl yD (zpX L m (by omega))) (zp9 L m (by omega))),zta L⟩
theorem ztG(L:Nat):FOk (xH rows) L 304 (zgA xO L) 2:=zE (D:=1) (by kernel_rfl) fun m hm=>⟨ziW,zje xB zC L,(yl (yl yD (zpX L m (by omega))) (zp9 L m (by omega))),zsK L⟩
theorem zqG(L:Nat):FOk (xH rows) L 116 (zh0 yk L) 2:=zE (D:=1) (by kernel_rfl) fun m hm=>⟨zno,znk yb L,(yl yD (zhU L m (by omega))),zwv L⟩
theorem zwF(L:Nat):FOk (xH rows) L 114 (zjU yo L) 3:=zE (D:=2) (by kernel_rfl) fun m hm=>⟨zmU,zms yk L,(yl yD (zqG L m (by omega))),zvr L⟩
theorem zth(L:Nat):FOk (xH rows) L 106 (zkI xK L) 4:=zE (D:=3) (by kernel_rfl) fun m hm=>⟨zcN,zcM xl yo yk L,(yl (yl (yl yD (zsh L m (by omega))) (zwF L m (by omega))) (zqG L m (by omega))),zym L⟩
theorem zml(L:Nat):FOk (xH rows) L 294 (zfJ zo L) 1:=zE (D:=0) (by kernel_rfl) fun m hm=>⟨znp,znD L,yD,zwL L⟩
theorem zln(L:Nat):FOk (xH rows) L 290 (zdH zf L) 5:=zE (D:=4) (by kernel_rfl) fun m hm=>⟨zhM,zhx yN yr xO xK zo L,(yl (yl (yl (yl (yl yD (ztl L m (by omega))) (zm5 L m (by omega))) (ztG L m (by omega))) (zth L m (by omega))) (zml L m (by omega))),zrv L⟩
theorem zls(L:Nat):FOk (xH rows) L 305 (zdy za L) 5:=zE (D:=4) (by kernel_rfl) fun m hm=>⟨zhn,zhE yN zo yr xK L,(yl (yl (yl (yl yD (ztl L m (by omega))) (zml L m (by omega))) (zm5 L m (by omega))) (zth L m (by omega))),zq2 L⟩
theorem zsm(L:Nat):FOk (xH rows) L 303 (zi1 yg L) 1:=zE (D:=0) (by kernel_rfl) fun m hm=>⟨zoQ,zoB L,yD,zxE L⟩
theorem znQ(L:Nat):FOk (xH rows) L 287 (zgX xc L) 2:=zE (D:=1) (by kernel_rfl) fun m hm=>⟨zbL,zbM yg L,(yl yD (zsm L m (by omega))),zxC L⟩
theorem zw5(L:Nat):FOk (xH rows) L 302 (zkR ym L) 6:=zE (D:=5) (by kernel_rfl) fun m hm=>⟨zbw,zbv zf za xc L,(yl (yl (yl yD (zln L m (by omega))) (zls L m (by omega))) (znQ L m (by omega))),zwt L⟩
theorem zqX(L:Nat):FOk (xH rows) L 281 (zhX xG L) 7:=zE (D:=6) (by kernel_rfl) fun m hm=>⟨zbx,zbt ym xc L,(yl (yl yD (zw5 L m (by omega))) (znQ L m (by omega))),zwn L⟩
theorem zld(L:Nat):FOk (xH rows) L 288 (zeU ye L) 1:=zE (D:=0) (by kernel_rfl) fun m hm=>⟨zmZ,zlN L,yD,zvy L⟩
theorem zpx(L:Nat):FOk (xH rows) L 289 (zg1 xe L) 1:=zE (D:=0) (by kernel_rfl) fun m hm=>⟨zmO,zlW L,yD,zvx L⟩
theorem zkZ(L:Nat):FOk (xH rows) L 291 (zeW xd L) 1:=zE (D:=0) (by kernel_rfl) fun m hm=>⟨yX,zX L,yD,zvv L⟩
theorem zpz(L:Nat):FOk (xH rows) L 292 (zgP yd L) 2:=zE (D:=1) (by kernel_rfl) fun m hm=>⟨zmW,zlO xd L,(yl yD (zkZ L m (by omega))),zvH L⟩
theorem zvA(L:Nat):FOk (xH rows) L 287 (ziy zh L) 2:=zE (D:=1) (by kernel_rfl) fun m hm=>⟨zaQ,zaU yg L,(yl yD (zsm L m (by omega))),ztX L⟩
theorem zrD(L:Nat):FOk (xH rows) L 293 (zi6 zw L) 6:=zE (D:=5) (by kernel_rfl) fun m hm=>⟨xV,yV ye zh za xd yd xe L,(yl (yl (yl (yl (yl (yl yD (zld L m (by omega))) (zvA L m (by omega))) (zls L m (by omega))) (zkZ L m (by omega))) (zpz L m (by omega))) (zpx L m (by omega))),zwW L⟩
theorem zyQ(L:Nat):FOk (xH rows) L 272 (zmq xt L) 8:=zE (D:=7) (by kernel_rfl) fun m hm=>⟨zoJ,zoH xG xc ye xe zf xd yd zo zw L,(yl (yl (yl (yl (yl (yl (yl (yl (yl yD (zqX L m (by omega))) (znQ L m (by omega))) (zld L m (by omega))) (zpx L m (by omega))) (zln L m (by omega))) (zkZ L m (by omega))) (zpz L m (by omega))) (zml L m (by omega))) (zrD L m (by omega))),zxG L⟩
theorem zto(L:Nat):FOk (xH rows) L 262 (zku zn L) 3:=zE (D:=2) (by kernel_rfl) fun m hm=>⟨zqh,zpW yc L,(yl yD (zfS L m (by omega))),zyB L⟩
theorem zqR(L:Nat):FOk (xH rows) L 273 (zh4 xb L) 8:=zE (D:=7) (by kernel_rfl) fun m hm=>⟨znv,znN xG zw L,(yl (yl yD (zqX L m (by omega))) (zrD L m (by omega))),zwx L⟩
theorem zzS(L:Nat):FOk (xH rows) L 260 (znW zj L) 9:=zE (D:=8) (by kernel_rfl) fun m hm=>⟨zcJ,zcL yv yc xt zn xb L,(yl (yl (yl (yl (yl yD (zzQ L m (by omega))) (zfS L m (by omega))) (zyQ L m (by omega))) (zto L m (by omega))) (zqR L m (by omega))),zyU L⟩
theorem zz2(L:Nat):FOk (xH rows) L 380 (zn0 xi L) 4:=zE (D:=3) (by kernel_rfl) fun m hm=>⟨zp2,zpT yc zn L,(yl (yl yD (zfS L m (by omega))) (zto L m (by omega))),zyA L⟩
theorem zxv(L:Nat):FOk (xH rows) L 381 (zkN xf L) 2:=zE (D:=1) (by kernel_rfl) fun m hm=>⟨znJ,znm ye zN L,(yl (yl yD (zld L m (by omega))) (zt4 L m (by omega))),zws L⟩
theorem zsv(L:Nat):FOk (xH rows) L 387 (zfU yK L) 1:=zE (D:=0) (by kernel_rfl) fun m hm=>⟨zac,zae L,yD,zsi L⟩
theorem zyh(L:Nat):FOk (xH rows) L 383 (zmC yh L) 2:=zE (D:=1) (by kernel_rfl) fun m hm=>⟨zoE,zoy yK L,(yl yD (zsv L m (by omega))),zxe L⟩
theorem zqt(L:Nat):FOk (xH rows) L 374 (zej zaV L) 11:=zE (D:=10) (by kernel_rfl) fun m hm=>⟨yz,xz xh xj zj xi xf zc xb yh L,(yl (yl (yl (yl (yl (yl (yl (yl yD (zyn L m (by omega))) (zAl L m (by omega))) (zzS L m (by omega))) (zz2 L m (by omega))) (zxv L m (by omega))) (zoj L m (by omega))) (zqR L m (by omega))) (zyh L m (by omega))),zqf L⟩
end
section
set_option linter.unusedVariables false
set_option linter.unusedSimpArgs false
set_option maxRecDepth 100000
variable {β:Type}
structure Adr where
 h:Int
 p:Int
 t:Int
def Adr.v(a:Adr):List V:=[.sc (.int .u32 a.h),.sc (.int .u16 a.p),.sc (.int .u32 a.t)]
def grp(a:Adr):Int:=znq .u32 a.h 16
theorem zwo(L:Nat)(a:Adr)(k:Int→Option β):xo β L a.v k=k (grp a):=by
 simp only [xo,zla,Adr.v,xq]
 rw [zz (by rfl)]; rfl
theorem zwH(L:Nat)(a:Adr)(k:Int→Option β):zo β L a.v k=k (grp a):=by
 simp only [zo,zou,Adr.v,xq]
 rw [zz (by rfl)]; rfl
structure Plc where
 b:Int
 a:Adr
 s:Int
def Plc.v(e:Plc):List V:=[.sc (.int .i64 e.b),.sc (.int .u32 e.a.h),.sc (.int .u16 e.a.p),.sc (.int .u32 e.a.t),.sc (.int .u32 e.s)]
def xD(l:List Plc):List (List V):=l.map Plc.v
theorem yL(l:List Plc):(xD l).length=l.length:=by simp [xD]
theorem zbs{l:List Plc}{i:Nat}(h:i<l.length):(xD l)[i]?=some l[i].v:=by simp [xD,h]
theorem zwA(l m:List Plc):xD l++xD m=xD (l++m):=by simp [xD]
def zHD(l:List Adr):List (List V):=l.map Adr.v
structure Bk where
 salt:List Int
 H:List Plc
 T:List Plc
 hs:salt.length=32
def Bk.v(b:Bk):List V:=row .u8 b.salt++[.sl 5 (xD b.H),.sl 5 (xD b.T)]
theorem Bk.len(b:Bk):b.v.length=34:=by simp [Bk.v,zb1,b.hs]
theorem Bk.take(b:Bk):List.take 34 b.v=b.v:=List.take_of_length_le (by rw [b.len]; exact Nat.le_refl _)
theorem zFM(k:IntKind)(l:List Int):(row k l).map V.dem=row k l:=by simp [row,V.dem]
theorem Bk.dem(b:Bk):List.map V.dem b.v=b.v:=by
 rw [Bk.v,List.map_append,zFM]; rfl
theorem Bk.g32(b:Bk):b.v[32]?=some (.sl 5 (xD b.H)):=by
 rw [Bk.v,List.getElem?_append_right (by rw [zb1,b.hs]; omega),zb1,b.hs]; rfl
theorem Bk.g33(b:Bk):b.v[33]?=some (.sl 5 (xD b.T)):=by
 rw [Bk.v,List.getElem?_append_right (by rw [zb1,b.hs]; omega),zb1,b.hs]; rfl
end
section
set_option linter.unusedVariables false
set_option maxRecDepth 100000
variable {β:Type}
def ziA(m:Int)(i:Nat):List Int→Int
 | []=>m
 | b::bs=>ziA (ior .u64 m (zrk .u64 (IntKind.wrap .u64 b) (IntKind.wrap .i64 (8*(i:Int))))) (i+1) bs
theorem ztg(L:Nat)(kx:Int→Option β)(l:List Int)(hl:l.length≤1000000):∀ (n:Nat) (m:Int) (i:Nat),i≤l.length→l.length-i<n→zfZ L kx n m (zaw .u8 l) (l.length:Int) (i:Int)=kx (ziA m i (l.drop i))
 | 0,m,i,hi,hn=>by omega
 | n+1,m,i,hi,hn=>by
  simp only [zfZ,zlY,xq]
  by_cases h:i<l.length
  ·rw [zaK (by omega),zbc (ztc _ h),zz (by rfl),ya (by rw [zW (by omega) (by omega)]; omega)]
   rw [show IntKind.wrap .i64 ((i:Int)+1)=((i+1:Nat):Int) by rw [zW (by omega) (by omega)]; omega]
   rw [ztg L kx l hl n _ (i+1) (by omega) (by omega),List.drop_eq_getElem_cons h]
   rfl
  ·rw [zaW (by omega),List.drop_of_length_le (by omega)]
   rfl
theorem zsZ(L:Nat)(l:List Int)(hl:l.length≤1000000)(hL:l.length<L)(k:Int→Option β):zr β L (zaw .u8 l) k=k (ziA 0 0 l):=by
 simp only [zr,zo9,zsq,zdN]
 exact ztg L _ l hl L 0 0 (by omega) (by omega)
theorem ztj(L:Nat)(kx:Int→Option β)(l:List Int)(hl:l.length≤1000000):∀ (n:Nat) (m:Int) (i:Nat),i≤l.length→l.length-i<n→zeE L kx n (zaw .u8 l) m (l.length:Int) (i:Int)=kx (ziA m i (l.drop i))
 | 0,m,i,hi,hn=>by omega
 | n+1,m,i,hi,hn=>by
  simp only [zeE,zko,xq]
  by_cases h:i<l.length
  ·rw [zaK (by omega),zbc (ztc _ h),zz (by rfl),ya (by rw [zW (by omega) (by omega)]; omega)]
   rw [show IntKind.wrap .i64 ((i:Int)+1)=((i+1:Nat):Int) by rw [zW (by omega) (by omega)]; omega]
   rw [ztj L kx l hl n _ (i+1) (by omega) (by omega),List.drop_eq_getElem_cons h]
   rfl
  ·rw [zaW (by omega),List.drop_of_length_le (by omega)]
   rfl
theorem zs2(L:Nat)(l:List Int)(hl:l.length≤1000000)(hL:l.length<L)(k:Int→Option β):xl β L (zaw .u8 l) k=k (ziA 0 0 l):=by
 simp only [xl,zmu,zpZ,zdN]
 exact ztj L _ l hl L 0 0 (by omega) (by omega)
theorem zwX(L:Nat)(hL:8<L)(l:List Int)(h:l.length=32)(k:List V→Option β):xZ β L (row .u8 l) k=k (row .u64 [ziA 0 0 (l.take 8),ziA 0 0 ((l.drop 8).take 8)])∧yN β L (row .u8 l) k=k (row .u64 [ziA 0 0 (l.take 8),ziA 0 0 ((l.drop 8).take 8)]):=by
 obtain ⟨x,l',rfl⟩:∃ x l',l=x::l':=by
  cases l with
  | nil=>simp at h
  | cons x l'=>exact ⟨x,l',rfl⟩
 have e:(V.sc (.int .u8 x)::row .u8 l')=row .u8 (x::l'):=rfl
 have el:∀ (A:Option β) (B:V→List V→Option β),lc (row .u8 (x::l')) A B=B (Qa x) (row .u8 l'):=fun _ _=>rfl
 constructor
 ·simp only [xZ,zu2,xq,el,e,zb1,h,zAv]
  rw [ya (by decide),zl6 _ _ _ (by omega),zsZ _ _ (by simp; omega) (by simp; omega),ya (by decide),zl6 _ _ _ (by simp at h ⊢; omega),zsZ _ _ (by simp; omega) (by simp; omega),ya (by simp)]
  rfl
 ·simp only [yN,zre,xq,el,e,zb1,h,zAv]
  rw [ya (by decide),zl6 _ _ _ (by omega),zs2 _ _ (by simp; omega) (by simp; omega),ya (by decide),zl6 _ _ _ (by simp at h ⊢; omega),zs2 _ _ (by simp; omega) (by simp; omega),ya (by simp)]
  rfl
end
section
set_option linter.unusedVariables false
set_option linter.unusedSimpArgs false
set_option maxRecDepth 100000
variable {β:Type}
theorem zn9{inst:Decidable ((4:Nat)≠0)}(k:Option β):@chk β ((4:Nat)≠0) inst k=k:=ya (by omega) k
structure S4 where
 a:Int
 b:Int
 c:Int
 d:Int
def S4.row(s:S4):List V:=[.sc (.int .u64 s.a),.sc (.int .u64 s.b),.sc (.int .u64 s.c),.sc (.int .u64 s.d)]
def zqi(x n:Int):Int:=ior .u64 (zrk .u64 x (zEY .u64 (IntKind.wrap .u64 n) 63)) (znq .u64 x (IntKind.wrap .u64 (64-zEY .u64 (IntKind.wrap .u64 n) 63)))
theorem zFl(L:Nat)(x:Int)(k:Int→Option β):yb β L x 13 k=k (zqi x 13):=by kernel_rfl
theorem zFu(L:Nat)(x:Int)(k:Int→Option β):yb β L x 32 k=k (zqi x 32):=by kernel_rfl
theorem zFr(L:Nat)(x:Int)(k:Int→Option β):yb β L x 16 k=k (zqi x 16):=by kernel_rfl
theorem zFm(L:Nat)(x:Int)(k:Int→Option β):yb β L x 21 k=k (zqi x 21):=by kernel_rfl
theorem zFk(L:Nat)(x:Int)(k:Int→Option β):yb β L x 17 k=k (zqi x 17):=by kernel_rfl
def r1(s:S4):S4:=⟨IntKind.wrap .u64 (s.a+s.b),s.b,s.c,s.d⟩
def r2(s:S4):S4:=⟨s.a,zaX .u64 (zqi s.b 13) s.a,s.c,s.d⟩
def r3(s:S4):S4:=⟨zqi s.a 32,s.b,s.c,s.d⟩
def r4(s:S4):S4:=⟨s.a,s.b,IntKind.wrap .u64 (s.c+s.d),s.d⟩
def r5(s:S4):S4:=⟨s.a,s.b,s.c,zaX .u64 (zqi s.d 16) s.c⟩
def r6(s:S4):S4:=⟨IntKind.wrap .u64 (s.a+s.d),s.b,s.c,s.d⟩
def r7(s:S4):S4:=⟨s.a,s.b,s.c,zaX .u64 (zqi s.d 21) s.a⟩
def r8(s:S4):S4:=⟨s.a,s.b,IntKind.wrap .u64 (s.c+s.b),s.d⟩
def r9(s:S4):S4:=⟨s.a,zaX .u64 (zqi s.b 17) s.c,s.c,s.d⟩
def r10(s:S4):S4:=⟨s.a,s.b,zqi s.c 32,s.d⟩
def rnd(s:S4):S4:=r10 (r9 (r8 (r7 (r6 (r5 (r4 (r3 (r2 (r1 s)))))))))
theorem c0(s:S4)(k:Int→Option β):cI .u64 s.row 0 k=k s.a:=by cases s; rfl
theorem c1(s:S4)(k:Int→Option β):cI .u64 s.row 1 k=k s.b:=by cases s; rfl
theorem c2(s:S4)(k:Int→Option β):cI .u64 s.row 2 k=k s.c:=by cases s; rfl
theorem c3(s:S4)(k:Int→Option β):cI .u64 s.row 3 k=k s.d:=by cases s; rfl
theorem zDe(s:S4)(x:Int):zg s.row 0 [.sc (.int .u64 x)]=S4.row ⟨x,s.b,s.c,s.d⟩:=by cases s; rfl
theorem zGB(s:S4)(x:Int):zg s.row 1 [.sc (.int .u64 x)]=S4.row ⟨s.a,x,s.c,s.d⟩:=by cases s; rfl
theorem zC4(s:S4)(x:Int):zg s.row 2 [.sc (.int .u64 x)]=S4.row ⟨s.a,s.b,x,s.d⟩:=by cases s; rfl
theorem zCK(s:S4)(x:Int):zg s.row 3 [.sc (.int .u64 x)]=S4.row ⟨s.a,s.b,s.c,x⟩:=by cases s; rfl
theorem zqd(s t:S4):zg s.row 0 t.row=t.row:=by cases s; cases t; rfl
theorem zCu(z0 z1 z2 z3:Int)(t:S4):zg [V.sc (.int .u64 z0),V.sc (.int .u64 z1),V.sc (.int .u64 z2),V.sc (.int .u64 z3)] 0 t.row=t.row:=by cases t; rfl
theorem zk1(s:S4):s.row.length=4:=by cases s; rfl
theorem zl0(s:S4):s.row.take 4=s.row:=by cases s; rfl
theorem zzz(L:Nat)(s:S4)(k:List V→Option β):yk β L s.row k=k (rnd s).row:=by
 simp only [yk,zoP,xq,c0,c1,c2,c3,zDe,zGB,zC4,zCK,zFl,zFu,zFr,zFm,zFk,zk1,zl0,zCu]
 repeat rw [ya (by decide)]
 rfl
theorem zEh(L:Nat)(p5 p6:Int)(s:S4)(z0 z1 z2 z3:Int)(kh:Int→Int→List V→Int→Int→Int→Int→Option β)(kx:List V→Int→Int→Int→Int→Option β)(h:p6<p5):ze2 yb L p5 p6 s.row z0 z1 z2 z3 kh kx=kh p5 (IntKind.wrap .i64 (p6+1)) (rnd s).row z0 z1 z2 z3:=by
 simp only [ze2,xq,c0,c1,c2,c3,zDe,zGB,zC4,zCK,zFl,zFu,zFr,zFm,zFk,zk1,zn9,zjN,true_and,and_true,and_self,Nat.reduceAdd,Nat.reduceMul,Nat.reduceLeDiff,Nat.le_refl,Nat.zero_add]
 rw [zaK h]
 simp only [rnd,r1,r2,r3,r4,r5,r6,r7,r8,r9,r10]
def zyV:Nat→S4→S4
 | 0,s=>s
 | n+1,s=>zyV n (rnd s)
theorem zqL(L:Nat)(kx:List V→Int→Int→Int→Int→Option β)(z0 z1 z2 z3:Int)(m:Nat)(hm:m≤1000):∀ (n i:Nat) (s:S4),i≤m→m-i<n→ze1 yb L kx n (m:Int) (i:Int) s.row z0 z1 z2 z3=kx (zyV (m-i) s).row z0 z1 z2 z3
 | 0,i,s,hi,hn=>by omega
 | n+1,i,s,hi,hn=>by
  simp only [ze1]
  by_cases h:i<m
  ·rw [zEh _ _ _ _ _ _ _ _ _ _ (by omega)]
   rw [show IntKind.wrap .i64 ((i:Int)+1)=((i+1:Nat):Int) by rw [zW (by omega) (by omega)]; omega]
   rw [zqL L kx z0 z1 z2 z3 m hm n (i+1) _ (by omega) (by omega),show m-i=(m-(i+1))+1 by omega]
   rfl
  ·simp only [ze2]
   rw [zaW (by omega),show m-i=0 by omega]
   rfl
theorem zxz(L:Nat)(s:S4)(m:Nat)(hm:m≤1000)(hL:m<L)(k:List V→Option β):xm β L s.row (m:Int) k=k (zyV m s).row:=by
 simp only [xm,zmS,zpD]
 rw [show (0:Int)=((0:Nat):Int) from rfl,zqL L _ _ _ _ _ m hm L 0 s (by omega) (by omega)]
 simp only [zjb,xq,zk1,zl0,Nat.sub_zero,zCu,zn9,zjN,true_and,and_true,and_self,Nat.reduceAdd,Nat.reduceMul,Nat.reduceLeDiff,Nat.le_refl,Nat.zero_add]
def zpQ(s:S4)(m:Int):S4:=⟨zaX .u64 (rnd (rnd ⟨s.a,s.b,s.c,zaX .u64 s.d m⟩)).a m,(rnd (rnd ⟨s.a,s.b,s.c,zaX .u64 s.d m⟩)).b,(rnd (rnd ⟨s.a,s.b,s.c,zaX .u64 s.d m⟩)).c,(rnd (rnd ⟨s.a,s.b,s.c,zaX .u64 s.d m⟩)).d⟩
theorem zwQ(L:Nat)(hL:2<L)(s:S4)(m:Int)(k:List V→Option β):zt β L s.row m k=k (zpQ s m).row:=by
 simp only [zt,zpw,xq,c3,zCK,zk1,zl0,zn9,zjN,true_and,and_true,and_self,Nat.reduceAdd,Nat.reduceMul,Nat.reduceLeDiff,Nat.le_refl,Nat.zero_add]
 rw [show (2:Int)=((2:Nat):Int) from rfl,zxz L _ 2 (by omega) hL]
 simp only [zk1,zqd,c0,zDe,zl0,zCu,zyV,zpQ,zn9,zjN,true_and,and_true,and_self,Nat.reduceAdd,Nat.reduceMul,Nat.reduceLeDiff,Nat.le_refl,Nat.zero_add]
theorem zxN(L:Nat)(s:S4)(m:Int)(k:List V→Option β):yo β L s.row m k=k (zpQ s m).row:=by
 simp only [yo,znn,xq,c3,zCK,zk1,zl0,zzz,zqd,c0,zDe,zCu,zpQ,zn9,zjN,true_and,and_true,and_self,Nat.reduceAdd,Nat.reduceMul,Nat.reduceLeDiff,Nat.le_refl,Nat.zero_add]
def zpL:Nat→S4→List Int→S4
 | 0,s,_=>s
 | n+1,s,l=>zpL n (zpQ s (ziA 0 0 (l.take 8))) (l.drop 8)
def zCG(s:S4)(n:Int)(l:List Int):S4:=zpQ s (ior .u64 (ziA 0 0 l) (zrk .u64 (IntKind.wrap .u64 (Int.tmod n 256)) 56))
def zCR(s:S4):S4:=zyV 4 ⟨s.a,s.b,zaX .u64 s.c 255,s.d⟩
def zz4(s:S4):Int:=zaX .u64 (zaX .u64 (zaX .u64 s.a s.b) s.c) s.d
def zC2(s:S4)(n:Int)(l:List Int):Int:=zz4 (zCR (zCG s n l))
def zCA(x y:Int):S4:=⟨zaX .u64 x 8317987319222330741,zaX .u64 y 7237128888997146477,zaX .u64 x 7816392313619706465,zaX .u64 y 8387220255154660723⟩
def zpf(x y:Int)(l:List Int):Int:=zC2 (zpL (l.length / 8) (zCA x y) l) l.length (l.drop (l.length / 8*8))
theorem zuX(L:Nat)(hL:10<L)(l:List Int)(hl:l.length≤1000000)(kx:List (List V)→Int→List V→Option β)(p6:Int):∀ (n i:Nat) (s:S4),i≤l.length / 8→l.length / 8-i<n→zgd zr zt xm L kx n (zaw .u8 l) p6 ((l.length / 8:Nat):Int) (i:Int) s.row=kx (zaw .u8 l) p6 (zpL (l.length / 8-i) s (l.drop (8*i))).row
 | 0,i,s,hi,hn=>by omega
 | n+1,i,s,hi,hn=>by
  simp only [zgd,zmk,xq,zk1,zl0,zdN]
  by_cases h:i<l.length / 8
  ·have e1:IntKind.wrap .i64 (8*(i:Int))=((8*i:Nat):Int):=by rw [zW (by omega) (by omega)]; omega
   have e2:IntKind.wrap .i64 (((8*i:Nat):Int)+8)=((8*i+8:Nat):Int):=by rw [zW (by omega) (by omega)]; omega
   have e3:IntKind.wrap .i64 ((i:Int)+1)=((i+1:Nat):Int):=by rw [zW (by omega) (by omega)]; omega
   rw [zaK (by omega),e1,e2,e3,ya (by decide),ya (by omega),ya (by simp; omega)]
   simp only [Int.toNat_natCast,zuz,zt7]
   rw [zsZ _ _ (by simp; omega) (by simp; omega),zwQ _ (by omega)]
   simp only [zk1,zqd]
   rw [ya (by decide),zuX L hL l hl kx p6 n (i+1) _ (by omega) (by omega),show l.length / 8-i=(l.length / 8-(i+1))+1 by omega,zpL,List.drop_drop]
   rw [show 8*i+8-8*i=8 by omega,show 8*(i+1)=8*i+8 by omega]
  ·rw [zaW (by omega),show l.length / 8-i=0 by omega]
   rfl
theorem zva(L:Nat)(x y:Int)(l:List Int)(hl:l.length≤1000000)(hL:l.length+10<L)(k:Int→Option β):yU β L (row .u64 [x,y]) (zaw .u8 l) k=k (zpf x y l):=by
 simp only [yU,zqT,zu8,xq,zdN]
 rw [zz (n:=x) (by rfl),zz (n:=y) (by rfl),zz (n:=x) (by rfl),zz (n:=y) (by rfl)]
 have e1:IntKind.wrap .i64 (Int.tdiv (l.length:Int) 8)=((l.length / 8:Nat):Int):=by
  rw [Int.tdiv_eq_ediv_of_nonneg (by omega),zW (by omega) (by omega)]; omega
 rw [e1,show (0:Int)=((0:Nat):Int) from rfl]
 have:=zuX (β:=β) L (by omega) l hl (fun p1 p6 b5=>zgH zr zt xm L p1 p6 b5 k) ((l.length / 8:Nat):Int) L 0 (zCA x y) (by omega) (by omega)
 refine (show _=_ from this).trans ?_
 have e2:IntKind.wrap .i64 (8*((l.length / 8:Nat):Int))=((l.length / 8*8:Nat):Int):=by rw [zW (by omega) (by omega)]; omega
 simp only [zgH,xq,zk1,zl0,zdN,Nat.sub_zero,Nat.mul_zero,List.drop_zero]
 rw [ya (by decide),e2,ya (by omega)]
 simp only [Int.toNat_natCast,zuz,zt7]
 rw [List.take_of_length_le (by simp),zsZ _ _ (by simp; omega) (by simp; omega),zwQ _ (by omega)]
 simp only [zk1,zqd,c2,zC4,zl0,zn9,zjN,true_and,and_true,and_self,Nat.reduceAdd,Nat.reduceMul,Nat.reduceLeDiff,Nat.le_refl,Nat.zero_add]
 rw [show (4:Int)=((4:Nat):Int) from rfl,zxz _ _ 4 (by omega) (by omega)]
 simp only [zk1,zqd,c0,c1,c2,c3,zpf,zC2,zCG,zCR,zz4,zn9,zjN,true_and,and_true,and_self,Nat.reduceAdd,Nat.reduceMul,Nat.reduceLeDiff,Nat.le_refl,Nat.zero_add]
theorem zCT(n:Nat):∀ (s:S4) (l:List Int),zpL (n+1) s l=zpL n (zpQ s (ziA 0 0 (l.take 8))) (l.drop 8):=fun _ _=>rfl
theorem zuP(L:Nat)(hL:10<L)(kx:List (List V)→Int→List V→Option β)(p6:Int):∀ (n:Nat) (l:List Int) (s:S4),l.length≤1000000→l.length / 8<n→zfb xl yo yk L kx n (zaw .u8 l) p6 s.row=kx (zaw .u8 (l.drop (l.length / 8*8))) p6 (zpL (l.length / 8) s l).row
 | 0,l,s,hl,hn=>by omega
 | n+1,l,s,hl,hn=>by
  simp only [zfb,zlg,xq,zk1,zl0,zdN]
  by_cases h:8≤l.length
  ·rw [zaK (by omega),ya (by decide),ya (by omega)]
   simp only [zuz,zt7,List.drop_zero]
   rw [zs2 _ _ (by simp; omega) (by simp; omega),zxN,ya (by omega)]
   simp only [zk1,zqd]
   rw [ya (by decide),List.take_of_length_le (by simp),zuP L hL kx p6 n _ _ (by simp; omega) (by simp; omega)]
   have e:(l.drop 8).length / 8=l.length / 8-1:=by simp; omega
   rw [e,List.drop_drop,show 8+(l.length / 8-1)*8=l.length / 8*8 by omega]
   obtain ⟨q,hq⟩:∃ q,l.length / 8=q+1:=⟨l.length / 8-1,by omega⟩
   rw [hq,zCT]
   rfl
  ·have e:l.length / 8=0:=by omega
   rw [zaW (by omega),e]
   rfl
theorem zvc(L:Nat)(x y:Int)(l:List Int)(hl:l.length≤1000000)(hL:l.length+10<L)(k:Int→Option β):xK β L (row .u64 [x,y]) (zaw .u8 l) k=k (zpf x y l):=by
 simp only [xK,znY,zrg,xq,zdN]
 rw [zz (n:=x) (by rfl),zz (n:=y) (by rfl),zz (n:=x) (by rfl),zz (n:=y) (by rfl)]
 have:=zuP (β:=β) L (by omega) (fun p1 p6 b5=>zgc xl yo yk L p1 p6 b5 k) (l.length:Int) L l (zCA x y) hl (by omega)
 refine (show _=_ from this).trans ?_
 simp only [zgc,xq,zk1,zl0]
 rw [ya (by decide),zs2 _ _ (by simp; omega) (by simp; omega)]
 simp only [zxN,zk1,zqd,c2,zC4,zl0,zzz,c0,c1,c3,zpf,zC2,zCG,zCR,zz4,zyV,zn9,zjN,true_and,and_true,and_self,Nat.reduceAdd,Nat.reduceMul,Nat.reduceLeDiff,Nat.le_refl,Nat.zero_add]
end
section
set_option linter.unusedVariables false
set_option linter.unusedSimpArgs false
set_option maxRecDepth 100000
variable {β:Type}
def le4(x:Int):List Int:=[IntKind.wrap .u8 (znq .u64 x 0),IntKind.wrap .u8 (znq .u64 x 8),IntKind.wrap .u8 (znq .u64 x 16),IntKind.wrap .u8 (znq .u64 x 24)]
def le2(x:Int):List Int:=[IntKind.wrap .u8 (znq .u64 x 0),IntKind.wrap .u8 (znq .u64 x 8)]
theorem zHj(L:Nat)(x:Int)(k:List (List V)→Option β):yC β (L+10) x 4 k=k (zaw .u8 (le4 x)):=by kernel_rfl
theorem zHv(L:Nat)(x:Int)(k:List (List V)→Option β):yC β (L+10) x 2 k=k (zaw .u8 (le2 x)):=by kernel_rfl
theorem zHu(L:Nat)(x:Int)(k:List (List V)→Option β):xB β (L+10) x 4 k=k (zaw .u8 (le4 x)):=by kernel_rfl
theorem zHd(L:Nat)(x:Int)(k:List (List V)→Option β):xB β (L+10) x 2 k=k (zaw .u8 (le2 x)):=by kernel_rfl
theorem zDL(L:Nat)(l m:List Int)(hl:l.length≤1000)(hm:m.length≤1000)(k:List (List V)→Option β):xC β L (zaw .u8 l) (zaw .u8 m) k=k (zaw .u8 (l++m)):=by
 simp only [xC,znr,xq,zdN,List.replicate_zero,List.length_nil,Nat.zero_add,List.nil_append]
 rw [zW (by omega) (by omega),ya ⟨by omega,by omega,by simp only [xp]; omega,by simp only [xp]; omega⟩,ya ⟨by simp only [xp]; omega,by simp only [xp]; omega⟩,ya ⟨by simp only [xp]; omega,by simp only [xp]; omega⟩,zAJ]
theorem zBH(L:Nat)(l m:List Int)(hl:l.length≤1000)(hm:m.length≤1000)(k:List (List V)→Option β):zC β L (zaw .u8 l) (zaw .u8 m) k=k (zaw .u8 (l++m)):=by
 simp only [zC,znE,xq,zdN,List.replicate_zero,List.length_nil,Nat.zero_add,List.nil_append]
 rw [zW (by omega) (by omega),ya ⟨by omega,by omega,by simp only [xp]; omega,by simp only [xp]; omega⟩,ya ⟨by simp only [xp]; omega,by simp only [xp]; omega⟩,ya ⟨by simp only [xp]; omega,by simp only [xp]; omega⟩,zAJ]
def w64(x:Int):Int:=IntKind.wrap .u64 x
theorem zwJ(L:Nat)(l:List Int)(hl:l.length≤900)(x:Int)(k:List (List V)→Option β):xr β (L+10) (zaw .u8 l) x k=k (zaw .u8 (l++le4 (w64 x))):=by
 simp only [xr,zkb,xq]
 rw [zHj,zDL _ _ _ (by omega) (by simp [le4])]; rfl
theorem zHi(L:Nat)(l:List Int)(hl:l.length≤900)(x:Int)(k:List (List V)→Option β):zP β (L+10) (zaw .u8 l) x k=k (zaw .u8 (l++le2 (w64 x))):=by
 simp only [zP,zka,xq]
 rw [zHv,zDL _ _ _ (by omega) (by simp [le2])]; rfl
theorem zsU(L:Nat)(l:List Int)(hl:l.length≤900)(x:Int)(k:List (List V)→Option β):yr β (L+10) (zaw .u8 l) x k=k (zaw .u8 (l++le4 (w64 x))):=by
 simp only [yr,zkk,xq]
 rw [zHu,zBH _ _ _ (by omega) (by simp [le4])]; rfl
theorem zG3(L:Nat)(l:List Int)(hl:l.length≤900)(x:Int)(k:List (List V)→Option β):xO β (L+10) (zaw .u8 l) x k=k (zaw .u8 (l++le2 (w64 x))):=by
 simp only [xO,zj8,xq]
 rw [zHd,zBH _ _ _ (by omega) (by simp [le2])]; rfl
end
section
set_option linter.unusedVariables false
set_option linter.unusedSimpArgs false
set_option maxRecDepth 100000
variable {β:Type}
def zCj(s:List Int):Int:=ziA 0 0 (s.take 8)
def zC6(s:List Int):Int:=ziA 0 0 ((s.drop 8).take 8)
def bkt(s:List Int)(m1:List Int)(m2:Int→List Int):Int:=
 IntKind.wrap .i64 (Int.tmod (zpf (zCj s) (zC6 s) (m2 (IntKind.wrap .u32 (Int.tmod (zpf (zCj s) (zC6 s) m1) 4)))) 64)
def hbk(s:List Int)(a:Adr)(src:Int):Int:=bkt s ([2]++le4 (w64 (grp a))++le4 (w64 src)) (fun x=>[1]++le4 (w64 src)++le4 (w64 x))
def tbk(s:List Int)(a:Adr):Int:=bkt s ([4]++le4 (w64 a.h)++le2 (w64 a.p)) (fun x=>[3]++le4 (w64 (grp a))++le4 (w64 x))
theorem zAa(n:Int):yf 1 1 [(Qa n)]=zaw .u8 [n]:=rfl
theorem zz6(x y:Int):zg [(Qd (0:Int)),(Qd (0:Int))] 0 (row .u64 [x,y])=row .u64 [x,y]:=rfl
theorem zxi(x y:Int):List.take 2 (row .u64 [x,y])=row .u64 [x,y]:=rfl
theorem zd7(a:Adr):List.take 3 a.v=a.v:=rfl
theorem zpu{s:List Int}(h:s.length=32):List.take 32 (row .u8 s)=row .u8 s:=List.take_of_length_le (by rw [zb1,h]; exact Nat.le_refl _)
theorem zFq(L:Nat)(s:List Int)(hs:s.length=32)(a:Adr)(src:Int)(k:Int→Option β):ze β (L+100) (row .u8 s) a.v src k=k (hbk s a src):=by
 simp only [ze,zgl,zpu hs,zd7,xq,zAa]
 rw [ya (by rw [zb1,hs]; omega),(zwX (β:=β) (L+100) (by omega) s hs _).1,ya ⟨rfl,by omega⟩,zz6,ya (by show 0+2≤2; omega),ya (by show 0+3≤3; omega),zwo,show L+100=(L+90)+10 from rfl,zwJ _ _ (by simp),zwJ _ _ (by simp [le4]),zxi,zva _ _ _ _ (by simp [le4]) (by simp [le4]),zwJ _ _ (by simp),zwJ _ _ (by simp [le4]),ya (by show 0+2≤2; omega),zva _ _ _ _ (by simp [le4]) (by simp [le4])]
 rfl
theorem zFs(L:Nat)(s:List Int)(hs:s.length=32)(a:Adr)(src:Int)(k:Int→Option β):za β (L+100) (row .u8 s) a.v src k=k (hbk s a src):=by
 simp only [za,zim,zpu hs,zd7,xq,zAa]
 rw [ya (by rw [zb1,hs]; omega),(zwX (β:=β) (L+100) (by omega) s hs _).2,ya ⟨rfl,by omega⟩,zz6,ya (by show 0+2≤2; omega),ya (by show 0+3≤3; omega),zwH,show L+100=(L+90)+10 from rfl,zsU _ _ (by simp),zsU _ _ (by simp [le4]),zxi,zvc _ _ _ _ (by simp [le4]) (by simp [le4]),ya (by show 0+2≤2; omega),zsU _ _ (by simp),zsU _ _ (by simp [le4]),zvc _ _ _ _ (by simp [le4]) (by simp [le4])]
 rfl
theorem zG0(L:Nat)(s:List Int)(hs:s.length=32)(a:Adr)(k:Int→Option β):yE β (L+100) (row .u8 s) a.v k=k (tbk s a):=by
 simp only [yE,zgn,zpu hs,zd7,xq,zAa]
 rw [ya (by rw [zb1,hs]; omega),(zwX (β:=β) (L+100) (by omega) s hs _).1,ya ⟨rfl,by omega⟩,zz6,ya (by show 0+2≤2; omega),zz (n:=a.h) rfl,show L+100=(L+90)+10 from rfl,zwJ _ _ (by simp),zz (n:=a.p) rfl,zHi _ _ (by simp [le4]),zxi,zva _ _ _ _ (by simp [le4,le2]) (by simp [le4,le2]),ya (by show 0+3≤3; omega),zwo,zwJ _ _ (by simp),zwJ _ _ (by simp [le4]),ya (by show 0+2≤2; omega),zva _ _ _ _ (by simp [le4]) (by simp [le4])]
 rfl
theorem zCe(L:Nat)(s:List Int)(hs:s.length=32)(a:Adr)(k:Int→Option β):zf β (L+100) (row .u8 s) a.v k=k (tbk s a):=by
 simp only [zf,zij,zpu hs,zd7,xq,zAa]
 rw [ya (by rw [zb1,hs]; omega),(zwX (β:=β) (L+100) (by omega) s hs _).2,ya ⟨rfl,by omega⟩,zz6,ya (by show 0+2≤2; omega),zz (n:=a.h) rfl,show L+100=(L+90)+10 from rfl,zsU _ _ (by simp),zz (n:=a.p) rfl,zG3 _ _ (by simp [le4]),zxi,zvc _ _ _ _ (by simp [le4,le2]) (by simp [le4,le2]),ya (by show 0+2≤2; omega),ya (by show 0+3≤3; omega),zwH,zsU _ _ (by simp),zsU _ _ (by simp [le4]),zvc _ _ _ _ (by simp [le4]) (by simp [le4])]
 rfl
end
section
set_option linter.unusedVariables false
set_option linter.unusedSimpArgs false
variable {β:Type}
def xA(a b:Adr):Bool:=a.h==b.h&&a.p==b.p
theorem zBF(L:Nat)(a b:Adr)(k:Bool→Option β):yg β L a.v b.v k=k (xA a b):=by
 simp only [yg,zp1]
 rw [zz (n:=a.h) rfl,zz (n:=b.h) rfl,yY]
 by_cases h:a.h=b.h
 ·rw [if_pos h,zz (n:=a.p) rfl,zz (n:=b.p) rfl,xA,h]
  congr 1
  simp
 ·rw [if_neg h,xA,beq_eq_false_iff_ne.2 h]; rfl
theorem zzo(L:Nat)(ps:List Plc)(hp:ps.length≤1000000)(a:Adr)(k:Int→Option β):∀ (m i:Nat),i≤ps.length→ps.length-i<m →
  ze7 yg L k (k (-1)) m (xD ps) (i:Int) a.v=k (zcA (fun e=>xA e.a a) (ps.drop i) i)
 | 0,i,h1,h2=>by omega
 | m+1,i,h1,h2=>by
  simp only [ze7,zk3,xq,yL]
  by_cases h:i<ps.length
  ·have e1:List.take 3 (List.drop 1 ps[i].v)=ps[i].a.v:=rfl
   rw [zaK (by omega),zbc (zbs h),ya (by show 0+3≤3; omega),e1,zd7,zBF,zaH (by omega),zzo L ps hp a k m (i+1) (by omega) (by omega),List.drop_eq_getElem_cons h,zcA]
   cases xA ps[i].a a <;> rfl
  ·rw [zaW (by omega),List.drop_of_length_le (by omega)]; rfl
theorem zyN(L:Nat)(ps:List Plc)(hp:ps.length≤1000000)(hL:ps.length<L)(a:Adr)(k:Int→Option β):xc β L (xD ps) a.v k=k (zcA (fun e=>xA e.a a) ps 0):=by
 simp only [xc,zlZ,zpG]
 rw [show ((0:Int))=((0:Nat):Int) from rfl]
 exact zzo L ps hp a k L 0 (by omega) (by omega)
end
section
set_option linter.unusedVariables false
set_option linter.unusedSimpArgs false
variable {β:Type}
def zoO(l:List Plc)(i:Nat)(v:Int):Bool:=match l[i-8]? with
 | some e=>decide (8≤i)&&e.b==v
 | none=>false
def zjY(l:List Plc)(i:Nat)(v:Int):Bool:=match l[i-1]? with
 | some e=>decide (0<i)&&decide (e.b>v)
 | none=>false
def znV(l:List Plc)(i:Nat):Bool:=match l[i]? with
 | some e=>zcA (fun x=>xA x.a e.a) l 0==(i:Int)
 | none=>true
def zop(bk:Plc→Int)(l:List Plc)(i:Nat):Bool:=match l[i]? with
 | some e=>e.b==bk e&&!(zjY l i (bk e))&&!(zoO l i (bk e))&&znV l i
 | none=>true
def zll(p:Nat→Bool):Nat→Nat→Bool
 | _,0=>true
 | i,n+1=>p i&&zll p (i+1) n
def zel(bk:Plc→Int)(l:List Plc):Bool:=decide (l.length≤512)&&zll (zop bk l) 0 l.length
theorem zFS(L:Nat)(ps:List Plc)(hp:ps.length≤1000)(hL:ps.length<L)(i:Nat)(h:i<ps.length)(v:Int)(A:Option β)(K:Int→Option β) :
  (ifb (decide ((i:Int)≥(8:Int))) (
 lt (IntKind.wrap .i64 ((i:Int)-(8:Int))) fun x11=>
 idx (xD ps) x11 fun c12=>
 cI .i64 c12 0 fun v13=>
 ifb ((v13:Int)==v) A (
 idx (xD ps) (i:Int) fun c14=>
 xc β L (xD ps) (List.take 3 (List.drop 1 c14)) (fun v15=>
 ifb ((v15:Int) != (i:Int)) A (
 lt (IntKind.wrap .i64 ((i:Int)+(1:Int))) fun x16=>
 K x16)))) (
 idx (xD ps) (i:Int) fun c17=>
 xc β L (xD ps) (List.take 3 (List.drop 1 c17)) (fun v18=>
 ifb ((v18:Int) != (i:Int)) A (
 lt (IntKind.wrap .i64 ((i:Int)+(1:Int))) fun x19=>
 K x19))))=ifb (!(zoO ps i v)&&znV ps i) (K ((i+1:Nat):Int)) A:=by
 have e1:List.take 3 (List.drop 1 ps[i].v)=ps[i].a.v:=rfl
 have key:(idx (xD ps) (i:Int) fun c17=>
   xc β L (xD ps) (List.take 3 (List.drop 1 c17)) (fun v18=>
   ifb ((v18:Int) != (i:Int)) A (
   lt (IntKind.wrap .i64 ((i:Int)+(1:Int))) fun x19=>K x19)))=ifb (znV ps i) (K ((i+1:Nat):Int)) A:=by
  rw [zbc (zbs h),e1,zyN L ps (by omega) hL,xq,zaH (by omega),znV,List.getElem?_eq_getElem h]
  simp only
  rw [zlr,yY]
 rw [key,xN]
 by_cases h8:8≤i
 ·have g:ps[i-8]?=some (ps[i-8]'(by omega)):=List.getElem?_eq_getElem (by omega)
  have e8:IntKind.wrap .i64 ((i:Int)-8)=((i-8:Nat):Int):=by rw [zW (by omega) (by omega)]; omega
  rw [if_pos (by omega),xq,e8,zbc (zbs (by omega)),zz (n:=(ps[i-8]'(by omega)).b) rfl,zoO,g]
  simp only
  rw [decide_eq_true h8,Bool.true_and]
  cases ((ps[i-8]'(by omega)).b==v) <;> rfl
 ·have e:zoO ps i v=false:=by
   unfold zoO
   rw [decide_eq_false h8]
   split <;> rfl
  rw [if_neg (by omega),e]
  rfl
theorem zDw(L:Nat)(ps:List Plc)(hp:ps.length≤1000)(hL:ps.length<L)(i:Nat)(h:i<ps.length)(v:Int)(A:Option β)(K:Int→Option β) :
  (idx (xD ps) (i:Int) fun c6=>
 cI .i64 c6 0 fun v7=>
 ifb ((v7:Int) != v) A (
 ifb (decide ((i:Int)>(0:Int))) (
 lt (IntKind.wrap .i64 ((i:Int)-(1:Int))) fun x8=>
 idx (xD ps) x8 fun c9=>
 cI .i64 c9 0 fun v10=>
 ifb (decide (v10>v)) A (
 ifb (decide ((i:Int)≥(8:Int))) (
 lt (IntKind.wrap .i64 ((i:Int)-(8:Int))) fun x11=>
 idx (xD ps) x11 fun c12=>
 cI .i64 c12 0 fun v13=>
 ifb ((v13:Int)==v) A (
 idx (xD ps) (i:Int) fun c14=>
 xc β L (xD ps) (List.take 3 (List.drop 1 c14)) (fun v15=>
 ifb ((v15:Int) != (i:Int)) A (
 lt (IntKind.wrap .i64 ((i:Int)+(1:Int))) fun x16=>
 K x16)))) (
 idx (xD ps) (i:Int) fun c17=>
 xc β L (xD ps) (List.take 3 (List.drop 1 c17)) (fun v18=>
 ifb ((v18:Int) != (i:Int)) A (
 lt (IntKind.wrap .i64 ((i:Int)+(1:Int))) fun x19=>
 K x19))))) (
 ifb (decide ((i:Int)≥(8:Int))) (
 lt (IntKind.wrap .i64 ((i:Int)-(8:Int))) fun x11=>
 idx (xD ps) x11 fun c12=>
 cI .i64 c12 0 fun v13=>
 ifb ((v13:Int)==v) A (
 idx (xD ps) (i:Int) fun c14=>
 xc β L (xD ps) (List.take 3 (List.drop 1 c14)) (fun v15=>
 ifb ((v15:Int) != (i:Int)) A (
 lt (IntKind.wrap .i64 ((i:Int)+(1:Int))) fun x16=>
 K x16)))) (
 idx (xD ps) (i:Int) fun c17=>
 xc β L (xD ps) (List.take 3 (List.drop 1 c17)) (fun v18=>
 ifb ((v18:Int) != (i:Int)) A (
 lt (IntKind.wrap .i64 ((i:Int)+(1:Int))) fun x19=>
 K x19))))))=ifb (ps[i].b==v&&!(zjY ps i v)&&!(zoO ps i v)&&znV ps i) (K ((i+1:Nat):Int)) A:=by
 rw [zFS L ps hp hL i h,zbc (zbs h),zz (n:=ps[i].b) rfl,zlr]
 by_cases hb:ps[i].b=v
 ·rw [if_pos hb,hb,beq_self_eq_true,Bool.true_and,xN]
  by_cases h0:0<i
  ·have g:ps[i-1]?=some (ps[i-1]'(by omega)):=List.getElem?_eq_getElem (by omega)
   have e8:IntKind.wrap .i64 ((i:Int)-1)=((i-1:Nat):Int):=by rw [zW (by omega) (by omega)]; omega
   rw [if_pos (by omega),xq,e8,zbc (zbs (by omega)),zz (n:=(ps[i-1]'(by omega)).b) rfl,zjY,g]
   simp only
   rw [decide_eq_true h0,Bool.true_and]
   cases decide ((ps[i-1]'(by omega)).b>v) <;> rfl
  ·have e:zjY ps i v=false:=by
    unfold zjY
    rw [decide_eq_false h0]
    split <;> rfl
   rw [if_neg (by omega),e]
   rfl
 ·rw [if_neg hb,beq_eq_false_iff_ne.2 hb]
  rfl
end
section
set_option linter.unusedVariables false
set_option linter.unusedSimpArgs false
def zaG(v:Int)(l:List Plc):Nat:=(l.filter (fun x=>x.b==v)).length
def okS(bk:Plc→Int)(N:List Adr)(pre:List Plc)(e:Plc):Bool:=
 e.b==bk e&&(pre.all (fun x=>decide (x.b≤e.b))&&(decide (zaG e.b pre≤7)&&(!(pre.any (fun x=>xA x.a e.a))&&!(N.any (fun a=>xA a e.a)))))
def okA(bk:Plc→Int)(N:List Adr):List Plc→List Plc→Bool
 | _,[]=>true
 | pre,e::l=>okS bk N pre e&&okA bk N (pre++[e]) l
def Srt(l:List Plc):Prop:=l.Pairwise (fun x y=>x.b≤y.b)
theorem zEa{bk:Plc→Int}{N:List Adr}{pre:List Plc}{e:Plc}(h:okS bk N pre e=true):∀ x∈pre,x.b≤e.b:=by
 simp only [okS,Bool.and_eq_true,List.all_eq_true,decide_eq_true_eq] at h
 exact h.2.1
theorem Srt.snoc{pre:List Plc}{e:Plc}(h:Srt pre)(he:∀ x∈pre,x.b≤e.b):Srt (pre++[e]):=by
 unfold Srt at *
 rw [List.pairwise_append]
 exact ⟨h,by simp,fun x hx y hy=>by simp at hy; subst hy; exact he x hx⟩
theorem Srt.split:∀ {l:List Plc} (v:Int),Srt l→(∀ x∈l,x.b≤v)→∃ A B:List Plc,l=A++B∧(∀ x∈A,x.b<v)∧(∀ x∈B,x.b=v)
 | [],v,_,_=>⟨[],[],rfl,by simp,by simp⟩
 | x::l,v,h,hv=>by
  have h':=List.pairwise_cons.1 h
  obtain ⟨A,B,rfl,hA,hB⟩:=Srt.split v h'.2 (fun y hy=>hv y (by simp [hy]))
  by_cases hx:x.b<v
  ·exact ⟨x::A,B,rfl,by simpa using ⟨hx,hA⟩,hB⟩
  ·have hxv:x.b=v:=by have:=hv x (by simp); omega
   have:A=[]:=by
    cases A with
    | nil=>rfl
    | cons a A=>
     have h1:=hA a (by simp)
     have h2:=h'.1 a (by simp)
     omega
   subst this
   exact ⟨[],x::B,rfl,by simp,by simpa using ⟨hxv,hB⟩⟩
theorem zCS{A B:List Plc}{v:Int}(hA:∀ x∈A,x.b<v)(hB:∀ x∈B,x.b=v):zaG v (A++B)=B.length:=by
 unfold zaG
 rw [List.filter_append,List.filter_eq_nil_iff.2 (fun x hx=>by have:=hA x hx; simp; omega),List.filter_eq_self.2 (fun x hx=>by simp [hB x hx])]
 rfl
theorem zBw{l:List Plc}(h:Srt l)(v:Int)(i:Nat)(hi:i<l.length):(l.take i).all (fun x=>decide (x.b≤v))=!(zjY l i v):=by
 unfold zjY
 cases i with
 | zero=>cases hl:l[0-1]? <;> simp
 | succ i=>
  rw [Nat.add_sub_cancel,List.getElem?_eq_getElem (by omega)]
  simp only
  rw [Bool.eq_iff_iff]
  simp only [List.all_eq_true,decide_eq_true_eq,Bool.not_eq_true',Bool.and_eq_false_imp,decide_eq_false_iff_not]
  constructor
  ·intro H _ hgt
   have:=H l[i] (List.mem_take_iff_getElem.2 ⟨i,by omega,rfl⟩)
   omega
  ·intro H x hx
   have H:=H (by omega)
   obtain ⟨j,hj,rfl⟩:=List.mem_take_iff_getElem.1 hx
   by_cases hji:j=i
   ·subst hji; omega
   ·have:=List.pairwise_iff_getElem.1 h j i (by omega) (by omega) (by omega)
    omega
theorem zGg{l:List Plc}{i:Nat}(hi:i<l.length)(v:Int)(h:Srt (l.take i))(hv:∀ x∈l.take i,x.b≤v):zoO l i v=!(decide (zaG v (l.take i)≤7)):=by
 obtain ⟨A,B,hAB,hA,hB⟩:=h.split v hv
 rw [hAB,zCS hA hB]
 have hlen:i=A.length+B.length:=by
  have:=congrArg List.length hAB
  rw [List.length_take,List.length_append,Nat.min_eq_left (by omega)] at this
  exact this
 unfold zoO
 rw [List.getElem?_eq_getElem (by omega)]
 simp only
 by_cases h8:8≤i
 ·have e:l[i-8]'(by omega)=(A++B)[i-8]'(by rw [List.length_append]; omega):=by
   have:(l.take i)[i-8]'(by rw [List.length_take]; omega)=l[i-8]'(by omega):=List.getElem_take
   rw [← this]
   simp only [hAB]
  rw [decide_eq_true h8,Bool.true_and,e]
  by_cases h7:B.length≤7
  ·rw [decide_eq_true h7,List.getElem_append_left (by omega)]
   have:=hA (A[i-8]'(by omega)) (List.getElem_mem _)
   rw [beq_eq_false_iff_ne.2 (by omega)]; rfl
  ·rw [decide_eq_false h7,List.getElem_append_right (by omega)]
   rw [hB _ (List.getElem_mem _),beq_self_eq_true]; rfl
 ·rw [decide_eq_false h8,Bool.false_and,decide_eq_true (by omega)]; rfl
theorem zs3(a:Adr):xA a a=true:=by simp [xA]
theorem zE9{l:List Plc}{i:Nat}(hi:i<l.length):znV l i=!((l.take i).any (fun x=>xA x.a l[i].a)):=by
 unfold znV
 rw [List.getElem?_eq_getElem hi]
 simp only
 rcases zos (fun x:Plc=>xA x.a l[i].a) l 0 with ⟨h1,h2⟩ | ⟨j,hj,h1,h2,h3⟩
 ·have:=h2 l[i] (List.getElem_mem hi)
  simp only [zs3] at this
  cases this
 ·rw [h1,Nat.zero_add]
  by_cases hij:j=i
  ·subst hij
   rw [beq_self_eq_true]
   have:(l.take j).any (fun x=>xA x.a l[j].a)=false:=by
    rw [List.any_eq_false]
    intro x hx; rw [h2 x hx]; simp
   rw [this]; rfl
  ·have hlt:j<i:=by
    rcases Nat.lt_or_gt_of_ne hij with h | h
    ·exact h
    ·have:=h2 l[i] (List.mem_take_iff_getElem.2 ⟨i,by omega,rfl⟩)
     simp only [zs3] at this
     cases this
   rw [beq_eq_false_iff_ne.2 (by omega)]
   have:(l.take i).any (fun x=>xA x.a l[i].a)=true:=List.any_eq_true.2 ⟨l[j],List.mem_take_iff_getElem.2 ⟨j,by omega,rfl⟩,h3⟩
   rw [this]; rfl
theorem zDV(bk:Plc→Int){l:List Plc}{i:Nat}(hi:i<l.length)(h:Srt (l.take i)):zop bk l i=okS bk [] (l.take i) l[i]:=by
 unfold zop okS
 rw [List.getElem?_eq_getElem hi]
 simp only
 by_cases hb:l[i].b=bk l[i]
 ·rw [beq_iff_eq.2 hb,Bool.true_and,Bool.true_and,← hb,zE9 hi]
  have hl:(l.take i).all (fun x=>decide (x.b≤l[i].b))=!(zjY (l.take i++[l[i]]) i l[i].b):=by
   by_cases ha:∀ x∈l.take i,x.b≤l[i].b
   ·rw [← zBw (h.snoc ha) _ i (by rw [List.length_append,List.length_take]; simp; omega),List.take_left' (by rw [List.length_take]; omega)]
   ·have e1:(l.take i).all (fun x=>decide (x.b≤l[i].b))=false:=by
     rw [Bool.eq_false_iff]
     intro hh
     apply ha
     intro x hx
     have:=List.all_eq_true.1 hh x hx
     simpa using this
    rw [e1]
    have hex:∃ x∈l.take i,l[i].b<x.b:=by
     apply Classical.byContradiction
     intro hn
     exact ha (fun x hx=>by
      apply Classical.byContradiction
      intro h2
      exact hn ⟨x,hx,by omega⟩)
    obtain ⟨x,hx,hlt⟩:=hex
    obtain ⟨j,hj,rfl⟩:=List.mem_take_iff_getElem.1 hx
    unfold zjY
    rw [List.getElem?_append_left (by rw [List.length_take]; omega),List.getElem?_take_of_lt (by omega),List.getElem?_eq_getElem (by omega)]
    simp only
    have:l[j].b≤(l[i-1]'(by omega)).b:=by
     by_cases hji:j=i-1
     ·subst hji; exact Int.le_refl _
     ·have:=List.pairwise_iff_getElem.1 h j (i-1) (by rw [List.length_take]; omega) (by rw [List.length_take]; omega) (by omega)
      simpa using this
    rw [decide_eq_true (by omega:0<i),decide_eq_true (by omega)]
    rfl
  have hl2:zjY (l.take i++[l[i]]) i l[i].b=zjY l i l[i].b:=by
   rw [← List.take_succ_eq_append_getElem hi]
   unfold zjY
   by_cases h0:0<i
   ·rw [List.getElem?_take_of_lt (by omega)]
   ·rw [decide_eq_false h0]
    cases (List.take (i+1) l)[i-1]? <;> cases l[i-1]? <;> simp
  rw [hl2] at hl
  rw [hl]
  cases hless:zjY l i l[i].b with
  | true=>rfl
  | false=>
   rw [hless] at hl
   have ha:∀ x∈l.take i,x.b≤l[i].b:=fun x hx=>by simpa using List.all_eq_true.1 hl x hx
   rw [zGg hi _ h ha]
   simp [Bool.and_assoc]
 ·rw [beq_eq_false_iff_ne.2 hb]; rfl
theorem zxq(bk:Plc→Int)(l:List Plc):∀ (n i:Nat),i+n=l.length→Srt (l.take i)→zll (zop bk l) i n=okA bk [] (l.take i) (l.drop i)
 | 0,i,h,hs=>by rw [List.drop_of_length_le (by omega)]; rfl
 | n+1,i,h,hs=>by
  rw [zll,List.drop_eq_getElem_cons (by omega),okA,zDV bk (by omega) hs]
  cases ho:okS bk [] (l.take i) (l[i]'(by omega)) with
  | false=>rfl
  | true=>
   have hi:i<l.length:=by omega
   rw [Bool.true_and,Bool.true_and,zxq bk l n (i+1) (by omega) (by rw [List.take_succ_eq_append_getElem hi]; exact hs.snoc (zEa ho)),List.take_succ_eq_append_getElem hi]
theorem zpj(bk:Plc→Int)(l:List Plc):zel bk l=(decide (l.length≤512)&&okA bk [] [] l):=by
 unfold zel
 rw [zxq bk l l.length 0 (by omega) (by simp [Srt])]
 rfl
structure TOk (bk:Plc→Int) (N:List Adr) (l:List Plc):Prop where
 b:∀ e∈l,e.b=bk e
 s:Srt l
 c:∀ v,zaG v l≤8
 n:l.Pairwise (fun x y=>xA x.a y.a=false)
 f:∀ e∈l,∀ a∈N,xA a e.a=false
theorem zha(v:Int)(pre:List Plc)(e:Plc):zaG v (pre++[e])=zaG v pre+if e.b=v then 1 else 0:=by
 unfold zaG
 rw [List.filter_append,List.length_append]
 by_cases h:e.b=v <;> simp [h]
theorem TOk.snoc(bk:Plc→Int)(N:List Adr)(pre:List Plc)(e:Plc):TOk bk N (pre++[e])↔TOk bk N pre∧okS bk N pre e=true:=by
 simp only [okS,Bool.and_eq_true,List.all_eq_true,decide_eq_true_eq,beq_iff_eq,Bool.not_eq_true',List.any_eq_false,Bool.not_eq_true]
 constructor
 ·intro h
  have hs:=List.pairwise_append.1 h.s
  have hn:=List.pairwise_append.1 h.n
  refine ⟨⟨fun x hx=>h.b x (by simp [hx]),hs.1,fun v=>?_,hn.1,fun x hx=>h.f x (by simp [hx])⟩,h.b e (by simp),fun x hx=>hs.2.2 x hx e (by simp),?_,fun x hx=>hn.2.2 x hx e (by simp),h.f e (by simp)⟩
  ·have:=h.c v; rw [zha] at this; omega
  ·have:=h.c e.b; rw [zha,if_pos rfl] at this; omega
 ·rintro ⟨h,h1,h2,h3,h4,h5⟩
  refine ⟨?_,h.s.snoc h2,fun v=>?_,?_,?_⟩
  ·intro x hx
   rcases List.mem_append.1 hx with hx | hx
   ·exact h.b x hx
   ·simp at hx; subst hx; exact h1
  ·rw [zha]
   split
   ·rename_i hv; subst hv; omega
   ·have:=h.c v; omega
  ·rw [List.pairwise_append]
   exact ⟨h.n,by simp,fun x hx y hy=>by simp at hy; subst hy; exact h4 x hx⟩
  ·intro x hx
   rcases List.mem_append.1 hx with hx | hx
   ·exact h.f x hx
   ·simp at hx; subst hx; exact h5
theorem TOk.nil(bk:Plc→Int)(N:List Adr):TOk bk N []:=⟨by simp,List.Pairwise.nil,by simp [zaG],List.Pairwise.nil,by simp⟩
theorem zyS(bk:Plc→Int)(N:List Adr):∀ (l pre:List Plc),TOk bk N pre→(okA bk N pre l=true↔TOk bk N (pre++l))
 | [],pre,h=>by simp [okA,h]
 | e::l,pre,h=>by
  rw [okA,Bool.and_eq_true,show pre++e::l=(pre++[e])++l by simp]
  constructor
  ·rintro ⟨h1,h2⟩
   exact (zyS bk N l (pre++[e]) ((TOk.snoc bk N pre e).2 ⟨h,h1⟩)).1 h2
  ·intro H
   have hp:TOk bk N (pre++[e]):=by
    have hs:=List.pairwise_append.1 H.s
    have hn:=List.pairwise_append.1 H.n
    refine ⟨fun x hx=>H.b x (List.mem_append_left _ hx),hs.1,fun v=>?_,hn.1,fun x hx=>H.f x (List.mem_append_left _ hx)⟩
    have:=H.c v
    unfold zaG at this ⊢
    rw [List.filter_append,List.length_append] at this
    omega
   exact ⟨((TOk.snoc bk N pre e).1 hp).2,(zyS bk N l (pre++[e]) hp).2 H⟩
end
section
set_option linter.unusedVariables false
set_option linter.unusedSimpArgs false
variable {β:Type}
theorem zy6(bk:Plc→Int){l:List Plc}{i:Nat}(h:i<l.length):zop bk l i=(l[i].b==bk l[i]&&!(zjY l i (bk l[i]))&&!(zoO l i (bk l[i]))&&znV l i):=by
 unfold zop; rw [List.getElem?_eq_getElem h]
theorem zCl(L:Nat)(s:List Int)(hs:s.length=32)(ps:List Plc)(hp:ps.length≤1000)(hL:ps.length<L)(k:Bool→Option β):∀ (m i:Nat),i≤ps.length→ps.length-i<m →
  za6 zf za xc (L+100) k (k true) m (xD ps) true (i:Int) (row .u8 s)=k (zll (zop (fun e=>hbk s e.a e.s) ps) i (ps.length-i)):=by
 intro m
 induction m with
 | zero=>intro i h1 h2; omega
 | succ m IH=>
  intro i h1 h2
  unfold za6 zfN
  rw [yL]
  by_cases h:i<ps.length
  ·have e1:List.take 3 (List.drop 1 ps[i].v)=ps[i].a.v:=rfl
   have ih:=IH (i+1) (by omega) (by omega)
   have e4:ps.length-i=(ps.length-(i+1))+1:=by omega
   rw [zaK (by omega),zpu hs,ya (by rw [zb1,hs]; omega),zbc (zbs h),e1,zCe L s hs]
   rw [e4,zll,zy6 _ h]
   rw [zdd,ya (by rw [zb1,hs]; omega),zbc (zbs h),zbc (zbs h),zz (n:=ps[i].s) rfl,e1,zFs L s hs]
   refine (zDw (L+100) ps hp (by omega) i h _ _ (fun x=>za6 zf za xc (L+100) k (k true) m (xD ps) true x (row .u8 s))).trans ?_
   rw [ih]
   cases (ps[i].b==hbk s ps[i].a ps[i].s&&!(zjY ps i (hbk s ps[i].a ps[i].s))&&!(zoO ps i (hbk s ps[i].a ps[i].s))&&znV ps i) <;> rfl
  ·rw [zaW (by omega),show ps.length-i=0 by omega]; rfl
theorem zCs(L:Nat)(s:List Int)(hs:s.length=32)(ps:List Plc)(hp:ps.length≤1000)(hL:ps.length<L)(k:Bool→Option β):∀ (m i:Nat),i≤ps.length→ps.length-i<m →
  za6 zf za xc (L+100) k (k true) m (xD ps) false (i:Int) (row .u8 s)=k (zll (zop (fun e=>tbk s e.a) ps) i (ps.length-i)):=by
 intro m
 induction m with
 | zero=>intro i h1 h2; omega
 | succ m IH=>
  intro i h1 h2
  unfold za6 zfN
  rw [yL]
  by_cases h:i<ps.length
  ·have e1:List.take 3 (List.drop 1 ps[i].v)=ps[i].a.v:=rfl
   have ih:=IH (i+1) (by omega) (by omega)
   have e4:ps.length-i=(ps.length-(i+1))+1:=by omega
   rw [zaK (by omega),zpu hs,ya (by rw [zb1,hs]; omega),zbc (zbs h),e1,zCe L s hs]
   rw [e4,zll,zy6 _ h]
   rw [zcD]
   refine (zDw (L+100) ps hp (by omega) i h _ _ (fun x=>za6 zf za xc (L+100) k (k true) m (xD ps) false x (row .u8 s))).trans ?_
   rw [ih]
   cases (ps[i].b==tbk s ps[i].a&&!(zjY ps i (tbk s ps[i].a))&&!(zoO ps i (tbk s ps[i].a))&&znV ps i) <;> rfl
  ·rw [zaW (by omega),show ps.length-i=0 by omega]; rfl
theorem zGW(L:Nat)(s:List Int)(hs:s.length=32)(ps:List Plc)(hp:ps.length≤1000)(hL:ps.length<L)(k:Bool→Option β) :
  ym β (L+100) (row .u8 s) (xD ps) true k=k (zel (fun e=>hbk s e.a e.s) ps):=by
 unfold ym zh3 zkL zel
 rw [yL,xN]
 by_cases h:ps.length≤512
 ·rw [if_neg (by omega),decide_eq_true h,Bool.true_and]
  refine (zCl L s hs ps hp hL k (L+100) 0 (by omega) (by omega)).trans ?_
  rw [Nat.sub_zero]
 ·rw [if_pos (by omega),decide_eq_false h]; rfl
theorem zGN(L:Nat)(s:List Int)(hs:s.length=32)(ps:List Plc)(hp:ps.length≤1000)(hL:ps.length<L)(k:Bool→Option β) :
  ym β (L+100) (row .u8 s) (xD ps) false k=k (zel (fun e=>tbk s e.a) ps):=by
 unfold ym zh3 zkL zel
 rw [yL,xN]
 by_cases h:ps.length≤512
 ·rw [if_neg (by omega),decide_eq_true h,Bool.true_and]
  refine (zCs L s hs ps hp hL k (L+100) 0 (by omega) (by omega)).trans ?_
  rw [Nat.sub_zero]
 ·rw [if_pos (by omega),decide_eq_false h]; rfl
def hbf(s:List Int)(e:Plc):Int:=hbk s e.a e.s
def tbf(s:List Int)(e:Plc):Int:=tbk s e.a
def zfI(b:Bk):Bool:=zel (hbf b.salt) b.H&&(zel (tbf b.salt) b.T&&b.H.all (fun e=>!(b.T.any (fun x=>xA x.a e.a))))
theorem zGa(L:Nat)(b:Bk)(hH:b.H.length≤1000)(hT:b.T.length≤1000)(hL:b.T.length<L)(k:Bool→Option β):∀ (m i:Nat),i≤b.H.length→b.H.length-i<m →
  zeb ym xc L k (k true) m (i:Int) b.v=k ((b.H.drop i).all (fun e=>!(b.T.any (fun x=>xA x.a e.a)))):=by
 intro m
 induction m with
 | zero=>intro i h1 h2; omega
 | succ m IH=>
  intro i h1 h2
  unfold zeb zjl
  rw [zag b.g32,yL]
  by_cases h:i<b.H.length
  ·have e1:List.take 3 (List.drop 1 b.H[i].v)=b.H[i].a.v:=rfl
   rw [zaK (by omega),zag b.g33,zag b.g32,zbc (zbs h),e1,zyN L b.T (by omega) hL,zB3,List.drop_eq_getElem_cons h,List.all_cons,xq,zaH (by omega)]
   have ih:=IH (i+1) (by omega) (by omega)
   cases (b.T.any fun x=>xA x.a b.H[i].a) with
   | true=>rfl
   | false=>exact ih
  ·rw [zaW (by omega),List.drop_of_length_le (by omega)]; rfl
theorem Bk.t32(b:Bk):List.take 32 b.v=row .u8 b.salt:=by
 rw [Bk.v,List.take_left' (by rw [zb1,b.hs])]
theorem zAT(L:Nat)(b:Bk)(hH:b.H.length≤1000)(hT:b.T.length≤1000)(hL:1000<L)(k:Bool→Option β):xG β (L+100) b.v k=k (zfI b):=by
 unfold xG zkJ zow zfI
 rw [ya (by rw [b.len]; omega),zag b.g32,b.t32,zGW L b.salt b.hs b.H hH (by omega)]
 have eH:zel (fun e=>hbk b.salt e.a e.s) b.H=zel (hbf b.salt) b.H:=rfl
 have eT:zel (fun e=>tbk b.salt e.a) b.T=zel (tbf b.salt) b.T:=rfl
 rw [eH]
 cases zel (hbf b.salt) b.H with
 | false=>rfl
 | true=>
  rw [Bool.not_true,zcD,ya (by rw [b.len]; omega),zag b.g33,zGN L b.salt b.hs b.T hT (by omega),eT]
  cases zel (tbf b.salt) b.T with
  | false=>rfl
  | true=>
   rw [Bool.not_true,zcD]
   exact zGa (L+100) b hH hT (by omega) k (L+100) 0 (by omega) (by omega)
end
end Go.Proofs.Ytbimgceighecgaa
