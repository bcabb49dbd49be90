/- Part 12 of the proof of TxSpoilt: an abstract machine over plain values, its soundness, and the functions of the program on plain values. -/
import Derived.Test.YtoeobffjdbdpgaaMTxSpoilt11
namespace Go.Proofs.Ytoeobffjdbdpgaa
set_option linter.unusedVariables false
set_option linter.unusedSimpArgs false
open List renaming length->XM,take->XN,replicate->We,length_drop->XS,map->Xu,length_take->Ww,getD_eq_getElem?_getD->Ws,take_of_length_le->Xv,getElem?_append_right->Wt,mem_cons->Q8,getElem?_append_left->Wv,getElem?_eq_getElem->Wc,flatten->XR
open IntKind renaming wrap->QF
open Int renaming toNat->XO,toNat_natCast->XT
open Nat renaming mul_le_mul_right->WG,pow_le_pow_right->XU
section
set_option maxRecDepth 100000
def zaG:CC:=(.seq (.reg [Qp 80 .lss (tq 79) (tq 78)]) (.seq (.cond (tq 80) .skip (.seq (.mask (bl 32281802128991715362 89) (bl 580284393415022003858953595 89)) (.exit 6))) (.seq (.block 7 (.seq (.reg [Qo 81 1 (tq 77) (tq 79),Qj 82 1 (tq 81),Qh 13 (tq 82)]) (.reg [Qh 83 (tq 5),Qh 84 (tq 13),Qs 85 187 [(Qw 83),(Qw 84)],Qi 5 (tq 85)]))) (.reg [Qp 86 .add (tq 79) (Qf 1),Qh 79 (tq 86)]))))
def zem:CC:=(.reg [Qp 87 .add (tq 64) (Qf 1),Qh 64 (tq 87)])
def zbq:CC:=(.seq (.reg [Qp 65 .lss (tq 64) (tq 63)]) (.seq (.cond (tq 65) .skip (.seq (.mask (bl 32 89) (bl 579934938295289650113140091 89)) (.exit 4))) (.seq (.block 5 (.seq (.reg [Qo 66 35 (tq 62) (tq 64),Qk 67 35 (tq 66),oo 11 (.alloc true (rp 32 (.sc (.int .u8 0)) (rp 2 (.sc (.int .u32 0)) (rp 1 (.gs 1 []) [])))),Qm 35 (tq 11) (tq 67)]) (.seq (.seq (.reg [Qh 68 (tq 1),Qt 69 (tq 68)]) (.cond (tq 69) (.seq (.mask (bl 32 89) (bl 579934938295289650113140091 89)) (.exit 4)) .skip)) (.seq (.reg [Qh 70 (tq 5),Ql 71 34 (tq 11),Qj 72 1 (tq 71),Qr 73 (tq 72),Qu 74 .u64 (tq 73),Qs 75 185 [(Qw 70),(Qw 74)],Qi 5 (tq 75)]) (.seq (.reg [Ql 76 34 (tq 11),Qj 77 1 (tq 76),Qr 78 (tq 77),Qh 79 (Qf 0)]) (.block 6 (.loop (bl 1057842373964929519583266 89) (bl 580284393415022003858953595 89) zaG))))))) zem)))
def zcU:CC:=(.seq (.reg [Qp 49 .lss (tq 48) (tq 47)]) (.seq (.cond (tq 49) .skip (.seq (.mask (bl 38 89) (bl 618970019588646941921113471 89)) (.exit 2))) (.seq (.block 3 (.seq (.reg [Qo 50 2 (tq 46) (tq 48),Qk 51 2 (tq 50),oo 9 (.alloc true [(.sc (.int .i64 0)),(.gs 1 [])]),Qm 2 (tq 9) (tq 51)]) (.reg [Qi 52 (tq 5),Qk 53 2 (tq 9),Qs 54 186 [((tq 53),1)],oo 55 (.append 1 1 (tq 52) (tq 54)),Qi 5 (tq 55)]))) (.reg [Qp 56 .add (tq 48) (Qf 1),Qh 48 (tq 56)]))))
def zhL:CC:=(.seq (.reg [Qi 88 (tq 5),Qi 4 (tq 88)]) .ret)
def zdn:CC:=(.seq (.reg [Qp 27 .lss (tq 26) (tq 25)]) (.seq (.cond (tq 27) .skip (.seq (.mask (bl 38 89) (bl 618970019642689974240802175 89)) (.exit 0))) (.seq (.block 1 (.seq (.reg [Qo 28 35 (tq 24) (tq 26),Qk 29 35 (tq 28),oo 7 (.alloc true (rp 32 (.sc (.int .u8 0)) (rp 2 (.sc (.int .u32 0)) (rp 1 (.gs 1 []) [])))),Qm 35 (tq 7) (tq 29)]) (.dreg [] [(Qi 30 (tq 5),qc [7] []),(Ql 31 0 (tq 7),q0),(Qk 32 33 (tq 31),ql 7 [] []),(Qs 33 138 [(Qw 32)],qc [7] []),(oo 34 (.append 1 1 (tq 30) (tq 33)),qn [7] []),(Ql 35 33 (tq 7),q0),(Qj 36 1 (tq 35),ql 7 [] [34]),(Qs 37 159 [(Qw 34),(Qw 36)],q0),(Qi 5 (tq 37),q0)]))) (.reg [Qp 38 .add (tq 26) (Qf 1),Qh 26 (tq 38)]))))
def zfv:CC:=(.seq (.reg [Qh 57 (tq 5),Ql 58 3 (tq 2),Qj 59 1 (tq 58),Qs 60 159 [(Qw 57),(Qw 59)],Qi 5 (tq 60)]) (.seq (.seq (.reg [Ql 61 1 (tq 2),Qj 62 1 (tq 61),Qr 63 (tq 62),Qh 64 (Qf 0)]) (.block 4 (.loop (bl 32281802128991715362 89) (bl 579934938295289650113140091 89) zbq))) zhL))
def zgT:CC:=(.seq (.reg [Qh 39 (tq 5),Ql 40 2 (tq 2),Qj 41 1 (tq 40),Qr 42 (tq 41),Qu 43 .u64 (tq 42),Qs 44 185 [(Qw 39),(Qw 43)],Qi 5 (tq 44)]) (.seq (.seq (.reg [Ql 45 2 (tq 2),Qj 46 1 (tq 45),Qr 47 (tq 46),Qh 48 (Qf 0)]) (.block 2 (.loop (bl 492581209243686 89) (bl 618970019588646941921113471 89) zcU))) zfv))
def zaD:CF:=⟨89,[.tmp 4],(.seq (.reg [Qv 2 (tq 0),Qi 4 (.const (.gs 1 []))]) (.seq (.reg [Ql 14 0 (tq 2),Qj 15 1 (tq 14),oo 16 (.call 159 [((.const (.gs 1 [])),0),(Qw 15)] []),Qi 5 (tq 16)]) (.seq (.reg [Qh 17 (tq 5),Ql 18 1 (tq 2),Qj 19 1 (tq 18),Qr 20 (tq 19),Qu 21 .u64 (tq 20),Qs 22 185 [(Qw 17),(Qw 21)],Qi 5 (tq 22)]) (.seq (.seq (.reg [Ql 23 1 (tq 2),Qj 24 1 (tq 23),Qr 25 (tq 24),Qh 26 (Qf 0)]) (.block 0 (.loop (bl 117440550 89) (bl 618970019642689974240802175 89) zdn))) zgT))))⟩
def zrJ:Hint:=⟨[(0,0),(0,1),(1,3),(2,6),(5,2),(6,0),(6,8),(8,6),(11,2),(12,0),(12,4),(14,4),(17,2),(19,6),(23,3),(26,0),(26,1)],[],[none,some ((bl 117440550 89),(bl 618970019642689974240802175 89)),none,some ((bl 38 89),(bl 618970019642689974240802175 89)),none,none,some ((bl 492581209243686 89),(bl 618970019588646941921113471 89)),none,some ((bl 38 89),(bl 618970019588646941921113471 89)),none,none,some ((bl 32281802128991715362 89),(bl 579934938295289650113140091 89)),none,some ((bl 32 89),(bl 579934938295289650113140091 89)),none,none,some ((bl 32 89),(bl 579934938295289650113140091 89)),none,some ((bl 1057842373964929519583266 89),(bl 580284393415022003858953595 89)),none,some ((bl 32281802128991715362 89),(bl 580284393415022003858953595 89)),none,none],[],[],false,false,[]⟩
def yB:Nat→Sh:=xT [(15,(.int .u32)),(19,(.sl 35)),(24,(.sl 35)),(36,(.int .u32)),(41,(.sl 2)),(46,(.sl 2)),(59,(.int .u32)),(62,(.sl 35)),(72,(.sl 1)),(77,(.sl 1)),(82,(.sl 1))]
def zB(xd:yr)(zd:xo)(xg:yA)(xh:yG)(xc:zn)(L:Nat):CBC:=(xy 187 (zec xc L) (xy 186 (zpY xh L) (xy 138 (zmF xg L) (xy 185 (zeI zd L) (xy 159 (zfc xd L) noC)))))
def zfw:St→St:=zab 0 (bl 117440550 89) (bl 618970019642689974240802175 89)
def zez:St→St:=zab 0 (bl 492581209243686 89) (bl 618970019588646941921113471 89)
def za4:St→St:=zab 0 (bl 32281802128991715362 89) (bl 579934938295289650113140091 89)
def zbw:St→St:=zab 0 (bl 1057842373964929519583266 89) (bl 580284393415022003858953595 89)
def zd4(C:Bool)(D p:List (List V))(z A:Int)(E:List V):St:=⟨(jn 1 ((V.sc (.bool C))::((V.ptr 2 0)::(jn 2 ((V.gs 1 D)::(jn 18 ((V.sl 35 p)::((Qe z)::((Qe A)::(jn 62 [])))))))))),(gn 2 ((.live true E)::(gn 86 [])))⟩
def zhq(p:Bool)(z:List (List V))(A:List V):St:=⟨(jn 1 ((V.sc (.bool p))::((V.ptr 2 0)::(jn 2 ((V.gs 1 z)::(jn 83 [])))))),(gn 2 ((.live true A)::(gn 86 [])))⟩
def zdv(C:Bool)(D p:List (List V))(z A:Int)(E:List V):St:=⟨(jn 1 ((V.sc (.bool C))::((V.ptr 2 0)::(jn 2 ((V.gs 1 D)::(jn 40 ((V.sl 2 p)::((Qe z)::((Qe A)::(jn 40 [])))))))))),(gn 2 ((.live true E)::(gn 86 [])))⟩
def zhg(p:Bool)(z:List (List V))(A:List V):St:=⟨(jn 1 ((V.sc (.bool p))::((V.ptr 2 0)::(jn 2 ((V.gs 1 z)::(jn 83 [])))))),(gn 2 ((.live true A)::(gn 86 [])))⟩
def za8(C:Bool)(D p:List (List V))(z A:Int):St:=⟨(jn 1 ((V.sc (.bool C))::(jn 3 ((V.gs 1 D)::(jn 56 ((V.sl 35 p)::((Qe z)::((Qe A)::(jn 24 []))))))))),(gn 89 [])⟩
def zhh(p:List (List V)):St:=⟨(jn 5 ((V.gs 1 p)::(jn 83 []))),(gn 89 [])⟩
def zba(F:Bool)(G p:List (List V))(z A:Int)(C:List (List V))(D E:Int):St:=⟨(jn 1 ((V.sc (.bool F))::(jn 3 ((V.gs 1 G)::(jn 56 ((V.sl 35 p)::((Qe z)::((Qe A)::(jn 12 ((V.sl 1 C)::((Qe D)::((Qe E)::(jn 9 []))))))))))))),(gn 89 [])⟩
def zkn(C:Bool)(D p:List (List V))(z A:Int):St:=⟨(jn 1 ((V.sc (.bool C))::(jn 3 ((V.gs 1 D)::(jn 56 ((V.sl 35 p)::((Qe z)::((Qe A)::(jn 24 []))))))))),(gn 89 [])⟩
abbrev zno(β:Type):Type:=Bool→List (List V)→List (List V)→Int→Int→List V→Option β
abbrev zlx(β:Type):Type:=Bool→List (List V)→List (List V)→Int→Int→List V→Option β
abbrev zeR(β:Type):Type:=Bool→List (List V)→List (List V)→Int→Int→List (List V)→Int→Int→Option β
def zpd{β:Type}(xd:yr)(zd:xo)(xg:yA)(xh:yG)(xc:zn)(L:Nat)(z:List V)(C:Bool)(p:zno β):Option β:=cI .u32 z 0 fun D=>xd β L ([]:List (List V)) D (fun E=>cLd 35 z 1 fun F=>lt (QF .u64 ((XM F:Nat):Int)) fun G=>zd β L E G (fun H=>cLd 35 z 1 fun A=>p C H A ((XM A:Nat):Int) (0:Int) z))
theorem zzW{β:Type}(xd:yr)(zd:xo)(xg:yA)(xh:yG)(xc:zn)(L:Nat)(z:List V)(p:Bool)(k:KK β):xq yB (zB xd zd xg xh xc L) L zaD [(V.agg z),(V.sc (.bool p))] [] k=zpd xd zd xg xh xc L z p (fun p E A C D F=>zw (xj yB (zB xd zd xg xh xc L) 0 L zdn) zfw L (zd4 p E A C D F) (yo 0 (zE (xj yB (zB xd zd xg xh xc L) 0 L zgT) (yQ 0 (CF.res zaD) k)))):=by kernel_rfl
def ziQ{β:Type}(xd:yr)(zd:xo)(xg:yA)(xh:yG)(xc:zn)(L:Nat)(H:Bool)(A C:List (List V))(D z:Int)(I:List V)(p:zno β)(E:Bool→List (List V)→List V→Option β):Option β:=ifb (decide (z<D)) (idx C z fun J=>chk ((XM (XN 35 J))=35∧0+35≤35) (lt (xm (We 32 (Qa (0:Int))++[(Qc (0:Int)),(Qc (0:Int)),(V.gs 1 ([]:List (List V)))]) 0 (XN 35 J)) fun F=>chk (0+33≤(XM F)) (xg β L (XN 33 F) (fun G=>chk ((XM A+XM G)*1≤yn∧XM A+XM G≤yn) (lt (A++G) fun P=>cI .u32 F 33 fun M=>xd β L P M (fun N=>lt (QF .i64 ((z:Int)+(1:Int))) fun O=>p H N C D O I)))))) (E H A I)
theorem ztC{β:Type}(xd:yr)(zd:xo)(xg:yA)(xh:yG)(xc:zn)(L:Nat)(C:Bool)(D p:List (List V))(z A:Int)(E:List V)(X:St→Option β)(K:KT β):xj yB (zB xd zd xg xh xc L) 0 L zdn (zd4 C D p z A E) (zU zfw X K)=ziQ xd zd xg xh xc L C D p z A E (fun C D p z A E=>X (zd4 C D p z A E)) (fun C D E=>K (.exit 0) (zhq C D E)):=by kernel_rfl
def zhz{β:Type}(xd:yr)(zd:xo)(xg:yA)(xh:yG)(xc:zn)(L:Nat)(F:Bool)(G:List (List V))(A:List V)(p:zlx β):Option β:=cLd 2 A 2 fun C=>lt (QF .u64 ((XM C:Nat):Int)) fun D=>zd β L G D (fun E=>cLd 2 A 2 fun z=>p F E z ((XM z:Nat):Int) (0:Int) A)
theorem zrP{β:Type}(xd:yr)(zd:xo)(xg:yA)(xh:yG)(xc:zn)(L:Nat)(p:Bool)(z:List (List V))(A:List V)(k:KK β):(yo 0 (zE (xj yB (zB xd zd xg xh xc L) 0 L zgT) (yQ 0 (CF.res zaD) k))) (.exit 0) (zhq p z A)=zhz xd zd xg xh xc L p z A (fun p z C D E A=>zw (xj yB (zB xd zd xg xh xc L) 0 L zcU) zez L (zdv p z C D E A) (yo 2 (zE (xj yB (zB xd zd xg xh xc L) 0 L zfv) (yQ 0 (CF.res zaD) k)))):=by kernel_rfl
def zhy{β:Type}(xd:yr)(zd:xo)(xg:yA)(xh:yG)(xc:zn)(L:Nat)(I:Bool)(C D:List (List V))(E z:Int)(J:List V)(p:zlx β)(H:Bool→List (List V)→List V→Option β):Option β:=ifb (decide (z<E)) (idx D z fun F=>chk ((XM (XN 2 F))=2∧0+2≤2) (lt (xm [(Qe (0:Int)),(V.gs 1 ([]:List (List V)))] 0 (XN 2 F)) fun G=>chk (0+2≤(XM G)) (xh β L (Xu V.dem (XN 2 G)) (fun A=>chk ((XM C+XM A)*1≤yn∧XM C+XM A≤yn) (lt (C++A) fun M=>lt (QF .i64 ((z:Int)+(1:Int))) fun N=>p I M D E N J))))) (H I C J)
theorem zrX{β:Type}(xd:yr)(zd:xo)(xg:yA)(xh:yG)(xc:zn)(L:Nat)(C:Bool)(D p:List (List V))(z A:Int)(E:List V)(X:St→Option β)(K:KT β):xj yB (zB xd zd xg xh xc L) 0 L zcU (zdv C D p z A E) (zU zez X K)=zhy xd zd xg xh xc L C D p z A E (fun C D p z A E=>X (zdv C D p z A E)) (fun C D E=>K (.exit 2) (zhg C D E)):=by kernel_rfl
def zf8{β:Type}(xd:yr)(zd:xo)(xg:yA)(xh:yG)(xc:zn)(L:Nat)(E:Bool)(F:List (List V))(A:List V)(p:Bool→List (List V)→List (List V)→Int→Int→Option β):Option β:=cI .u32 A 3 fun C=>xd β L F C (fun D=>cLd 35 A 1 fun z=>p E D z ((XM z:Nat):Int) (0:Int))
theorem zqs{β:Type}(xd:yr)(zd:xo)(xg:yA)(xh:yG)(xc:zn)(L:Nat)(p:Bool)(z:List (List V))(A:List V)(k:KK β):(yo 2 (zE (xj yB (zB xd zd xg xh xc L) 0 L zfv) (yQ 0 (CF.res zaD) k))) (.exit 2) (zhg p z A)=zf8 xd zd xg xh xc L p z A (fun p z C D E=>zw (xj yB (zB xd zd xg xh xc L) 0 L zbq) za4 L (za8 p z C D E) (yo 4 (zE (xj yB (zB xd zd xg xh xc L) 0 L zhL) (yQ 0 (CF.res zaD) k)))):=by kernel_rfl
def zdz{β:Type}(xd:yr)(zd:xo)(xg:yA)(xh:yG)(xc:zn)(L:Nat)(I:Bool)(H C:List (List V))(D z:Int)(A:List (List V)→Option β)(p:zeR β):Option β:=ifb (decide (z<D)) (idx C z fun E=>chk ((XM (XN 35 E))=35∧0+35≤35) (lt (xm (We 32 (Qa (0:Int))++[(Qc (0:Int)),(Qc (0:Int)),(V.gs 1 ([]:List (List V)))]) 0 (XN 35 E)) fun F=>ifb (!I) (A H) (cLd 1 F 34 fun J=>lt (QF .u64 ((XM J:Nat):Int)) fun M=>zd β L H M (fun N=>cLd 1 F 34 fun G=>p I N C D z G ((XM G:Nat):Int) (0:Int))))) (A H)
theorem zql{β:Type}(xd:yr)(zd:xo)(xg:yA)(xh:yG)(xc:zn)(L:Nat)(D:Bool)(C p:List (List V))(z A:Int)(X:St→Option β)(K:KT β):xj yB (zB xd zd xg xh xc L) 0 L zbq (za8 D C p z A) (zU za4 X K)=zdz xd zd xg xh xc L D C p z A (fun C=>K (.exit 4) (zhh C)) (fun D C p z A E F G=>zw (xj yB (zB xd zd xg xh xc L) 0 L zaG) zbw L (zba D C p z A E F G) (yo 6 (yo 5 (zE (xj yB (zB xd zd xg xh xc L) 0 L zem) (zU za4 X K))))):=by kernel_rfl
def zdg{β:Type}(xd:yr)(zd:xo)(xg:yA)(xh:yG)(xc:zn)(L:Nat)(z:List (List V))(p:List (List V)→Option β):Option β:=p z
theorem zo0{β:Type}(xd:yr)(zd:xo)(xg:yA)(xh:yG)(xc:zn)(L:Nat)(p:List (List V))(k:KK β):(yo 4 (zE (xj yB (zB xd zd xg xh xc L) 0 L zhL) (yQ 0 (CF.res zaD) k))) (.exit 4) (zhh p)=zdg xd zd xg xh xc L p (fun z=>k (V.gs 1 z) []):=by kernel_rfl
def zcW{β:Type}(xd:yr)(zd:xo)(xg:yA)(xh:yG)(xc:zn)(L:Nat)(H:Bool)(I A:List (List V))(C D:Int)(E:List (List V))(F z:Int)(p:zeR β)(G:Bool→List (List V)→List (List V)→Int→Int→Option β):Option β:=ifb (decide (z<F)) (idx E z fun J=>cL 1 J 0 fun M=>xc β L I M (fun N=>lt (QF .i64 ((z:Int)+(1:Int))) fun O=>p H N A C D E F O)) (G H I A C D)
theorem zkf{β:Type}(xd:yr)(zd:xo)(xg:yA)(xh:yG)(xc:zn)(L:Nat)(F:Bool)(G p:List (List V))(z A:Int)(C:List (List V))(D E:Int)(X:St→Option β)(K:KT β):xj yB (zB xd zd xg xh xc L) 0 L zaG (zba F G p z A C D E) (zU zbw X K)=zcW xd zd xg xh xc L F G p z A C D E (fun F G p z A C D E=>X (zba F G p z A C D E)) (fun F G p z A=>K (.exit 6) (zkn F G p z A)):=by kernel_rfl
def zcF{β:Type}(xd:yr)(zd:xo)(xg:yA)(xh:yG)(xc:zn)(L:Nat)(E:Bool)(F z:List (List V))(A C:Int)(p:Bool→List (List V)→List (List V)→Int→Int→Option β):Option β:=lt (QF .i64 ((C:Int)+(1:Int))) fun D=>p E F z A D
theorem zji{β:Type}(xd:yr)(zd:xo)(xg:yA)(xh:yG)(xc:zn)(L:Nat)(C:Bool)(D p:List (List V))(z A:Int)(X:St→Option β)(K:KT β):(yo 6 (yo 5 (zE (xj yB (zB xd zd xg xh xc L) 0 L zem) (zU za4 X K)))) (.exit 6) (zkn C D p z A)=zcF xd zd xg xh xc L C D p z A (fun C D p z A=>X (za8 C D p z A)):=by kernel_rfl
def zdD{β:Type}(xd:yr)(zd:xo)(xg:yA)(xh:yG)(xc:zn)(L:Nat)(p:Bool→List (List V)→List V→Option β):Nat→Bool→List (List V)→List (List V)→Int→Int→List V→Option β
 | 0,_,_,_,_,_,_=>none
 | n+1,D,E,z,A,C,F=>ziQ xd zd xg xh xc L D E z A C F (fun D E z A C F=>zdD xd zd xg xh xc L p n D E z A C F) p
theorem zlw{β:Type}(xd:yr)(zd:xo)(xg:yA)(xh:yG)(xc:zn)(L:Nat)(K:KT β):∀ (n:Nat) (C:Bool) (D p:List (List V)) (z A:Int) (E:List V),zw (xj yB (zB xd zd xg xh xc L) 0 L zdn) zfw n (zd4 C D p z A E) K=zdD xd zd xg xh xc L (fun C D E=>K (.exit 0) (zhq C D E)) n C D p z A E:=by
 intro n
 induction n with
 | zero=>intros; rfl
 | succ n ih=>
  intro C D p z A E
  refine (ztC xd zd xg xh xc L C D p z A E (fun σ=>zw (xj yB (zB xd zd xg xh xc L) 0 L zdn) zfw n σ K) K).trans ?_
  simp only [ih]
  rfl
def zdb{β:Type}(xd:yr)(zd:xo)(xg:yA)(xh:yG)(xc:zn)(L:Nat)(p:Bool→List (List V)→List V→Option β):Nat→Bool→List (List V)→List (List V)→Int→Int→List V→Option β
 | 0,_,_,_,_,_,_=>none
 | n+1,D,E,z,A,C,F=>zhy xd zd xg xh xc L D E z A C F (fun D E z A C F=>zdb xd zd xg xh xc L p n D E z A C F) p
theorem zjV{β:Type}(xd:yr)(zd:xo)(xg:yA)(xh:yG)(xc:zn)(L:Nat)(K:KT β):∀ (n:Nat) (C:Bool) (D p:List (List V)) (z A:Int) (E:List V),zw (xj yB (zB xd zd xg xh xc L) 0 L zcU) zez n (zdv C D p z A E) K=zdb xd zd xg xh xc L (fun C D E=>K (.exit 2) (zhg C D E)) n C D p z A E:=by
 intro n
 induction n with
 | zero=>intros; rfl
 | succ n ih=>
  intro C D p z A E
  refine (zrX xd zd xg xh xc L C D p z A E (fun σ=>zw (xj yB (zB xd zd xg xh xc L) 0 L zcU) zez n σ K) K).trans ?_
  simp only [ih]
  rfl
def zaO{β:Type}(xd:yr)(zd:xo)(xg:yA)(xh:yG)(xc:zn)(L:Nat)(p:Bool→List (List V)→List (List V)→Int→Int→Option β):Nat→Bool→List (List V)→List (List V)→Int→Int→List (List V)→Int→Int→Option β
 | 0,_,_,_,_,_,_,_,_=>none
 | n+1,G,H,z,A,C,D,E,F=>zcW xd zd xg xh xc L G H z A C D E F (fun G H z A C D E F=>zaO xd zd xg xh xc L p n G H z A C D E F) p
theorem zen{β:Type}(xd:yr)(zd:xo)(xg:yA)(xh:yG)(xc:zn)(L:Nat)(K:KT β):∀ (n:Nat) (F:Bool) (G p:List (List V)) (z A:Int) (C:List (List V)) (D E:Int),zw (xj yB (zB xd zd xg xh xc L) 0 L zaG) zbw n (zba F G p z A C D E) K=zaO xd zd xg xh xc L (fun F G p z A=>K (.exit 6) (zkn F G p z A)) n F G p z A C D E:=by
 intro n
 induction n with
 | zero=>intros; rfl
 | succ n ih=>
  intro F G p z A C D E
  refine (zkf xd zd xg xh xc L F G p z A C D E (fun σ=>zw (xj yB (zB xd zd xg xh xc L) 0 L zaG) zbw n σ K) K).trans ?_
  simp only [ih]
  rfl
def zcw{β:Type}(xd:yr)(zd:xo)(xg:yA)(xh:yG)(xc:zn)(L:Nat)(D:Bool)(E z:List (List V))(A C:Int)(F:List (List V)→Option β)(p:Bool→List (List V)→List (List V)→Int→Int→Option β):Option β:=zdz xd zd xg xh xc L D E z A C F (fun D E z A C G H I=>zaO xd zd xg xh xc L (fun D E z A C=>zcF xd zd xg xh xc L D E z A C p) L D E z A C G H I)
theorem zpM{β:Type}(xd:yr)(zd:xo)(xg:yA)(xh:yG)(xc:zn)(L:Nat)(D:Bool)(C p:List (List V))(z A:Int)(X:St→Option β)(K:KT β):xj yB (zB xd zd xg xh xc L) 0 L zbq (za8 D C p z A) (zU za4 X K)=zcw xd zd xg xh xc L D C p z A (fun C=>K (.exit 4) (zhh C)) (fun D C p z A=>X (za8 D C p z A)):=by
 refine (zql xd zd xg xh xc L D C p z A X K).trans ?_
 unfold zcw
 first
  | (simp only [zen,zji]; done)
  | (simp only [zen]; rfl)
def zax{β:Type}(xd:yr)(zd:xo)(xg:yA)(xh:yG)(xc:zn)(L:Nat)(p:List (List V)→Option β):Nat→Bool→List (List V)→List (List V)→Int→Int→Option β
 | 0,_,_,_,_,_=>none
 | n+1,D,E,z,A,C=>zcw xd zd xg xh xc L D E z A C p (fun D E z A C=>zax xd zd xg xh xc L p n D E z A C)
theorem ziw{β:Type}(xd:yr)(zd:xo)(xg:yA)(xh:yG)(xc:zn)(L:Nat)(K:KT β):∀ (n:Nat) (D:Bool) (C p:List (List V)) (z A:Int),zw (xj yB (zB xd zd xg xh xc L) 0 L zbq) za4 n (za8 D C p z A) K=zax xd zd xg xh xc L (fun C=>K (.exit 4) (zhh C)) n D C p z A:=by
 intro n
 induction n with
 | zero=>intros; rfl
 | succ n ih=>
  intro D C p z A
  refine (zpM xd zd xg xh xc L D C p z A (fun σ=>zw (xj yB (zB xd zd xg xh xc L) 0 L zbq) za4 n σ K) K).trans ?_
  simp only [ih]
  rfl
def zdr{β:Type}(xd:yr)(zd:xo)(xg:yA)(xh:yG)(xc:zn)(L:Nat)(A:Bool)(p:List (List V))(F:List V)(z:List (List V)→Option β):Option β:=zf8 xd zd xg xh xc L A p F (fun A p C D E=>zax xd zd xg xh xc L (fun p=>zdg xd zd xg xh xc L p z) L A p C D E)
theorem zpE{β:Type}(xd:yr)(zd:xo)(xg:yA)(xh:yG)(xc:zn)(L:Nat)(p:Bool)(z:List (List V))(A:List V)(k:KK β):(yo 2 (zE (xj yB (zB xd zd xg xh xc L) 0 L zfv) (yQ 0 (CF.res zaD) k))) (.exit 2) (zhg p z A)=zdr xd zd xg xh xc L p z A (fun C=>k (V.gs 1 C) []):=by
 refine (zqs xd zd xg xh xc L p z A k).trans ?_
 unfold zdr
 first
  | (simp only [ziw,zo0]; done)
  | (simp only [ziw]; rfl)
def zd7{β:Type}(xd:yr)(zd:xo)(xg:yA)(xh:yG)(xc:zn)(L:Nat)(p:Bool)(z:List (List V))(A:List V)(C:List (List V)→Option β):Option β:=zhz xd zd xg xh xc L p z A (fun p z D E F A=>zdb xd zd xg xh xc L (fun p z A=>zdr xd zd xg xh xc L p z A C) L p z D E F A)
theorem zqS{β:Type}(xd:yr)(zd:xo)(xg:yA)(xh:yG)(xc:zn)(L:Nat)(p:Bool)(z:List (List V))(A:List V)(k:KK β):(yo 0 (zE (xj yB (zB xd zd xg xh xc L) 0 L zgT) (yQ 0 (CF.res zaD) k))) (.exit 0) (zhq p z A)=zd7 xd zd xg xh xc L p z A (fun C=>k (V.gs 1 C) []):=by
 refine (zrP xd zd xg xh xc L p z A k).trans ?_
 unfold zd7
 first
  | (simp only [zjV,zpE]; done)
  | (simp only [zjV]; rfl)
def zlc{β:Type}(xd:yr)(zd:xo)(xg:yA)(xh:yG)(xc:zn)(L:Nat)(G:List V)(p:Bool)(z:List (List V)→Option β):Option β:=zpd xd zd xg xh xc L G p (fun p A D E F C=>zdD xd zd xg xh xc L (fun p A C=>zd7 xd zd xg xh xc L p A C z) L p A D E F C)
theorem zzs{β:Type}(xd:yr)(zd:xo)(xg:yA)(xh:yG)(xc:zn)(L:Nat)(p:List V)(z:Bool)(k:KK β):xq yB (zB xd zd xg xh xc L) L zaD [(V.agg p),(V.sc (.bool z))] [] k=zlc xd zd xg xh xc L p z (fun p=>k (V.gs 1 p) []):=by
 refine (zzW xd zd xg xh xc L p z k).trans ?_
 unfold zlc
 first
  | (simp only [zlw,zqS]; done)
  | (simp only [zlw]; rfl)
abbrev yx:=∀ (β:Type),Nat→List V→Bool→(List (List V)→Option β)→Option β
def zg(β:Type)(L:Nat)(z:List V)(A:Bool)(p:List (List V)→Option β):Option β:=zlc xd zd xg xh xc L z A p
def zit(zg:yx)(L:Nat)(β:Type)(args:List V)(bor:Bor)(k:KK β):Option β:=match args,bor with
 | [a0,a1],[]=>aG a0 fun p=>aB a1 fun z=>zg β L p z (fun p=>k (V.gs 1 p) [])
 | _,_=>none
theorem zzz(L:Nat)(β:Type)(args:List V)(bor:Bor)(k:KK β)(r:β)(h:zit zg L β args bor k=some r):xq yB (zB xd zd xg xh xc L) L zaD args bor k=some r:=by
 unfold zit at h
 split at h
 ·have q:=zde h; clear h; obtain ⟨p,rfl,h⟩:=q
  have q:=zoH h; clear h; obtain ⟨z,rfl,h⟩:=q
  exact (zzs xd zd xg xh xc L p z k).trans h
 ·cases h
def zbI:CC:=(.seq (.reg [Qp 51 .lss (tq 50) (tq 49)]) (.seq (.cond (tq 51) .skip (.seq (.mask (bl 962072674306 63) (bl 9187343239835811499 63)) (.exit 4))) (.seq (.block 5 (.seq (.reg [Qo 52 1 (tq 48) (tq 50),Qj 53 1 (tq 52),Qh 8 (tq 53)]) (.seq (.reg [Qh 54 (tq 8),Qr 55 (tq 54),Qp 56 .gtr (tq 55) (Qf 520)]) (.cond (tq 56) (.seq (.reg [Qh 2 (Qg false)]) (.seq (.mask (bl 4 63) (bl 9186745105510301357 63)) .ret)) .skip)))) (.reg [Qp 57 .add (tq 50) (Qf 1),Qh 50 (tq 57)]))))
def zew:CC:=(.reg [Qp 58 .add (tq 39) (Qf 1),Qh 39 (tq 58)])
def zc5:CC:=(.seq (.reg [Qp 40 .lss (tq 39) (tq 38)]) (.seq (.cond (tq 40) .skip (.seq (.mask (bl 2 63) (bl 9186745105510301355 63)) (.exit 2))) (.seq (.block 3 (.seq (.reg [Qo 41 35 (tq 37) (tq 39),Qk 42 35 (tq 41),oo 6 (.alloc true (rp 32 (.sc (.int .u8 0)) (rp 2 (.sc (.int .u32 0)) (rp 1 (.gs 1 []) [])))),Qm 35 (tq 6) (tq 42)]) (.seq (.seq (.reg [Ql 43 34 (tq 6),Qj 44 1 (tq 43),Qr 45 (tq 44),Qp 46 .gtr (tq 45) (Qf 32)]) (.cond (tq 46) (.seq (.reg [Qh 2 (Qg false)]) (.seq (.mask (bl 4 63) (bl 9186745105510301357 63)) .ret)) .skip)) (.seq (.reg [Ql 47 34 (tq 6),Qj 48 1 (tq 47),Qr 49 (tq 48),Qh 50 (Qf 0)]) (.block 4 (.loop (bl 1971286909648898 63) (bl 9187343239835811499 63) zbI)))))) zew)))
def zeK:CC:=(.seq (.reg [Qp 23 .lss (tq 22) (tq 21)]) (.seq (.cond (tq 23) .skip (.seq (.mask (bl 2 63) (bl 9223372032559808427 63)) (.exit 0))) (.seq (.block 1 (.seq (.reg [Qo 24 2 (tq 20) (tq 22),Qk 25 2 (tq 24),oo 4 (.alloc true [(.sc (.int .i64 0)),(.gs 1 [])]),Qm 2 (tq 4) (tq 25)]) (.seq (.reg [Ql 26 0 (tq 4),Qj 27 1 (tq 26),Qp 28 .lss (tq 27) (Qf 0),Qh 29 (tq 28),⟨(some 30),false,(some (29,false)),.fieldAddr 1 (tq 4)⟩,⟨(some 31),false,(some (29,false)),.load false 1 (tq 30) false⟩,⟨(some 32),false,(some (29,false)),.lenS (tq 31)⟩,⟨(some 33),false,(some (29,false)),.bin .gtr (tq 32) (Qf 520)⟩,oo 34 (.pick (tq 29) (Qg true) (tq 33))]) (.cond (tq 34) (.seq (.reg [Qh 2 (Qg false)]) (.seq (.mask (bl 4 63) (bl 9223372032559808429 63)) .ret)) .skip)))) (.reg [Qp 35 .add (tq 22) (Qf 1),Qh 22 (tq 35)]))))
def ziG:CC:=(.seq (.reg [Qk 59 4 (tq 1),Qs 60 149 [((tq 59),1),((Qg true),0)],Qr 61 (tq 60),Qp 62 .leq (tq 61) (Qf 20000),Qh 2 (tq 62)]) .ret)
def zho:CC:=(.seq (.seq (.reg [Ql 36 1 (tq 1),Qj 37 1 (tq 36),Qr 38 (tq 37),Qh 39 (Qf 0)]) (.block 2 (.loop (bl 962072674306 63) (bl 9186745105510301355 63) zc5))) ziG)
def zby:CF:=⟨63,[.tmp 2],(.seq (.reg [Qv 1 (tq 0),Qh 2 (Qg false)]) (.seq (.seq (.reg [Ql 9 1 (tq 1),Qj 10 1 (tq 9),Qr 11 (tq 10),Qp 12 .gtr (tq 11) (Qf 64),Qh 13 (tq 12),⟨(some 14),false,(some (13,false)),.fieldAddr 2 (tq 1)⟩,⟨(some 15),false,(some (13,false)),.load false 1 (tq 14) false⟩,⟨(some 16),false,(some (13,false)),.lenS (tq 15)⟩,⟨(some 17),false,(some (13,false)),.bin .gtr (tq 16) (Qf 64)⟩,oo 18 (.pick (tq 13) (Qg true) (tq 17))]) (.cond (tq 18) (.seq (.reg [Qh 2 (Qg false)]) .ret) .skip)) (.seq (.seq (.reg [Ql 19 2 (tq 1),Qj 20 1 (tq 19),Qr 21 (tq 20),Qh 22 (Qf 0)]) (.block 0 (.loop (bl 7340034 63) (bl 9223372032559808427 63) zeK))) zho)))⟩
def ztT:Hint:=⟨[(0,0),(5,2),(11,2)],[],[none,none,none,some ((bl 7340034 63),(bl 9223372032559808427 63)),none,some ((bl 2 63),(bl 9223372032559808427 63)),none,none,some ((bl 4 63),(bl 9223372032559808429 63)),none,some ((bl 962072674306 63),(bl 9186745105510301355 63)),none,some ((bl 2 63),(bl 9186745105510301355 63)),none,none,some ((bl 4 63),(bl 9186745105510301357 63)),none,some ((bl 1971286909648898 63),(bl 9187343239835811499 63)),none,some ((bl 962072674306 63),(bl 9187343239835811499 63)),none,none,some ((bl 4 63),(bl 9186745105510301357 63)),none],[],[],false,false,[]⟩
def yM:Nat→Sh:=xT [(10,(.sl 35)),(15,(.sl 2)),(20,(.sl 2)),(27,(.int .i64)),(31,(.sl 1)),(37,(.sl 35)),(44,(.sl 1)),(48,(.sl 1)),(53,(.sl 1))]
def xM(zg:yx)(L:Nat):CBC:=(xy 149 (zit zg L) noC)
def zh0:St→St:=zab 0 (bl 7340034 63) (bl 9223372032559808427 63)
def zbT:St→St:=zab 0 (bl 962072674306 63) (bl 9186745105510301355 63)
def zc0:St→St:=zab 0 (bl 1971286909648898 63) (bl 9187343239835811499 63)
def zfA(p:List (List V))(z A:Int)(C:List V):St:=⟨(jn 1 ((V.ptr 1 0)::(jn 18 ((V.sl 2 p)::((Qe z)::((Qe A)::(jn 40 []))))))),(gn 1 ((.live true C)::(gn 61 [])))⟩
def zaP(p:Bool):St:=⟨(jn 2 ((V.sc (.bool p))::(jn 60 []))),(gn 63 [])⟩
def ziT(p:List V):St:=⟨(jn 1 ((V.ptr 1 0)::(jn 61 []))),(gn 1 ((.live true p)::(gn 61 [])))⟩
def zcA(p:List (List V))(z A:Int)(C:List V):St:=⟨(jn 1 ((V.ptr 1 0)::(jn 35 ((V.sl 35 p)::((Qe z)::((Qe A)::(jn 23 []))))))),(gn 1 ((.live true C)::(gn 61 [])))⟩
def zct(p:List (List V))(z A:Int)(C:List (List V))(D E:Int)(F:List V):St:=⟨(jn 1 ((V.ptr 1 0)::(jn 35 ((V.sl 35 p)::((Qe z)::((Qe A)::(jn 8 ((V.sl 1 C)::((Qe D)::((Qe E)::(jn 12 []))))))))))),(gn 1 ((.live true F)::(gn 61 [])))⟩
def zja(p:List V):St:=⟨(jn 1 ((V.ptr 1 0)::(jn 61 []))),(gn 1 ((.live true p)::(gn 61 [])))⟩
def zm1(p:List (List V))(z A:Int)(C:List V):St:=⟨(jn 1 ((V.ptr 1 0)::(jn 35 ((V.sl 35 p)::((Qe z)::((Qe A)::(jn 23 []))))))),(gn 1 ((.live true C)::(gn 61 [])))⟩
abbrev zia(β:Type):Type:=List (List V)→Int→Int→List (List V)→Int→Int→List V→Option β
def ztt{β:Type}(zg:yx)(L:Nat)(A:List V)(z:Bool→Option β)(p:List (List V)→Int→Int→List V→Option β):Option β:=cLd 35 A 1 fun D=>ifb (decide (((XM D:Nat):Int)>(64:Int))) (z false) (cLd 2 A 2 fun E=>ifb (decide (((XM E:Nat):Int)>(64:Int))) (z false) (cLd 2 A 2 fun C=>p C ((XM C:Nat):Int) (0:Int) A))
theorem zCl{β:Type}(zg:yx)(L:Nat)(p:List V)(k:KK β):xq yM (xM zg L) L zby [(V.agg p)] [] k=ztt zg L p (fun p=>k (V.sc (.bool p)) []) (fun z A C D=>zw (xj yM (xM zg L) 0 L zeK) zh0 L (zfA z A C D) (yo 0 (zE (xj yM (xM zg L) 0 L zho) (yQ 0 (CF.res zby) k)))):=by kernel_rfl
def zlQ{β:Type}(zg:yx)(L:Nat)(C:List (List V))(D A:Int)(F:List V)(z:Bool→Option β)(p:List (List V)→Int→Int→List V→Option β)(E:List V→Option β):Option β:=ifb (decide (A<D)) (idx C A fun G=>chk ((XM (XN 2 G))=2∧0+2≤2) (lt (xm [(Qe (0:Int)),(V.gs 1 ([]:List (List V)))] 0 (XN 2 G)) fun H=>cI .i64 H 0 fun I=>ifb (decide (I<(0:Int))) (z false) (cLd 1 H 1 fun J=>ifb (decide (((XM J:Nat):Int)>(520:Int))) (z false) (lt (QF .i64 ((A:Int)+(1:Int))) fun M=>p C D M F)))) (E F)
theorem zxe{β:Type}(zg:yx)(L:Nat)(p:List (List V))(z A:Int)(C:List V)(X:St→Option β)(K:KT β):xj yM (xM zg L) 0 L zeK (zfA p z A C) (zU zh0 X K)=zlQ zg L p z A C (fun D=>K .ret (zaP D)) (fun p z A C=>X (zfA p z A C)) (fun C=>K (.exit 0) (ziT C)):=by kernel_rfl
def zje{β:Type}(zg:yx)(L:Nat)(z:Bool)(p:Bool→Option β):Option β:=p z
theorem ztF{β:Type}(zg:yx)(L:Nat)(p:Bool)(k:KK β):(yo 0 (zE (xj yM (xM zg L) 0 L zho) (yQ 0 (CF.res zby) k))) .ret (zaP p)=zje zg L p (fun z=>k (V.sc (.bool z)) []):=by kernel_rfl
def zjI{β:Type}(zg:yx)(L:Nat)(z:List V)(p:List (List V)→Int→Int→List V→Option β):Option β:=cLd 35 z 1 fun A=>p A ((XM A:Nat):Int) (0:Int) z
theorem zuP{β:Type}(zg:yx)(L:Nat)(p:List V)(k:KK β):(yo 0 (zE (xj yM (xM zg L) 0 L zho) (yQ 0 (CF.res zby) k))) (.exit 0) (ziT p)=zjI zg L p (fun z A C p=>zw (xj yM (xM zg L) 0 L zc5) zbT L (zcA z A C p) (yo 2 (zE (xj yM (xM zg L) 0 L ziG) (yQ 0 (CF.res zby) k)))):=by kernel_rfl
def zkp{β:Type}(zg:yx)(L:Nat)(C:List (List V))(D z:Int)(H:List V)(A:Bool→Option β)(p:zia β)(G:List V→Option β):Option β:=ifb (decide (z<D)) (idx C z fun I=>chk ((XM (XN 35 I))=35∧0+35≤35) (lt (xm (We 32 (Qa (0:Int))++[(Qc (0:Int)),(Qc (0:Int)),(V.gs 1 ([]:List (List V)))]) 0 (XN 35 I)) fun E=>cLd 1 E 34 fun J=>ifb (decide (((XM J:Nat):Int)>(32:Int))) (A false) (cLd 1 E 34 fun F=>p C D z F ((XM F:Nat):Int) (0:Int) H))) (G H)
theorem zvI{β:Type}(zg:yx)(L:Nat)(p:List (List V))(z A:Int)(C:List V)(X:St→Option β)(K:KT β):xj yM (xM zg L) 0 L zc5 (zcA p z A C) (zU zbT X K)=zkp zg L p z A C (fun G=>K .ret (zaP G)) (fun p z A D E F C=>zw (xj yM (xM zg L) 0 L zbI) zc0 L (zct p z A D E F C) (yo 4 (yo 3 (zE (xj yM (xM zg L) 0 L zew) (zU zbT X K))))) (fun C=>K (.exit 2) (zja C)):=by kernel_rfl
def zis{β:Type}(zg:yx)(L:Nat)(z:Bool)(p:Bool→Option β):Option β:=p z
theorem zsO{β:Type}(zg:yx)(L:Nat)(p:Bool)(k:KK β):(yo 2 (zE (xj yM (xM zg L) 0 L ziG) (yQ 0 (CF.res zby) k))) .ret (zaP p)=zis zg L p (fun z=>k (V.sc (.bool z)) []):=by kernel_rfl
def zi3{β:Type}(zg:yx)(L:Nat)(z:List V)(p:Bool→Option β):Option β:=chk (0+4≤(XM z)) (zg β L (Xu V.dem (XN 4 z)) true (fun A=>p (decide (((XM A:Nat):Int)≤(20000:Int)))))
theorem ztN{β:Type}(zg:yx)(L:Nat)(p:List V)(k:KK β):(yo 2 (zE (xj yM (xM zg L) 0 L ziG) (yQ 0 (CF.res zby) k))) (.exit 2) (zja p)=zi3 zg L p (fun z=>k (V.sc (.bool z)) []):=by kernel_rfl
def zeC{β:Type}(zg:yx)(L:Nat)(C:List (List V))(D E:Int)(F:List (List V))(G z:Int)(I:List V)(A:Bool→Option β)(p:zia β)(H:List (List V)→Int→Int→List V→Option β):Option β:=ifb (decide (z<G)) (idx F z fun J=>cL 1 J 0 fun M=>ifb (decide (((XM M:Nat):Int)>(520:Int))) (A false) (lt (QF .i64 ((z:Int)+(1:Int))) fun N=>p C D E F G N I)) (H C D E I)
theorem zom{β:Type}(zg:yx)(L:Nat)(p:List (List V))(z A:Int)(C:List (List V))(D E:Int)(F:List V)(X:St→Option β)(K:KT β):xj yM (xM zg L) 0 L zbI (zct p z A C D E F) (zU zc0 X K)=zeC zg L p z A C D E F (fun G=>K .ret (zaP G)) (fun p z A C D E F=>X (zct p z A C D E F)) (fun p z A F=>K (.exit 4) (zm1 p z A F)):=by kernel_rfl
def zdG{β:Type}(zg:yx)(L:Nat)(z:Bool)(p:Bool→Option β):Option β:=p z
theorem zlY{β:Type}(zg:yx)(L:Nat)(p:Bool)(X:St→Option β)(K:KT β):(yo 4 (yo 3 (zE (xj yM (xM zg L) 0 L zew) (zU zbT X K)))) .ret (zaP p)=zdG zg L p (fun p=>K .ret (zaP p)):=by kernel_rfl
def zd0{β:Type}(zg:yx)(L:Nat)(z:List (List V))(A C:Int)(E:List V)(p:List (List V)→Int→Int→List V→Option β):Option β:=lt (QF .i64 ((C:Int)+(1:Int))) fun D=>p z A D E
theorem zm8{β:Type}(zg:yx)(L:Nat)(p:List (List V))(z A:Int)(C:List V)(X:St→Option β)(K:KT β):(yo 4 (yo 3 (zE (xj yM (xM zg L) 0 L zew) (zU zbT X K)))) (.exit 4) (zm1 p z A C)=zd0 zg L p z A C (fun p z A C=>X (zcA p z A C)):=by kernel_rfl
def ze8{β:Type}(zg:yx)(L:Nat)(p:Bool→Option β)(z:List V→Option β):Nat→List (List V)→Int→Int→List V→Option β
 | 0,_,_,_,_=>none
 | n+1,A,C,D,E=>zlQ zg L A C D E p (fun A C D E=>ze8 zg L p z n A C D E) z
theorem zoz{β:Type}(zg:yx)(L:Nat)(K:KT β):∀ (n:Nat) (p:List (List V)) (z A:Int) (C:List V),zw (xj yM (xM zg L) 0 L zeK) zh0 n (zfA p z A C) K=ze8 zg L (fun D=>K .ret (zaP D)) (fun C=>K (.exit 0) (ziT C)) n p z A C:=by
 intro n
 induction n with
 | zero=>intros; rfl
 | succ n ih=>
  intro p z A C
  refine (zxe zg L p z A C (fun σ=>zw (xj yM (xM zg L) 0 L zeK) zh0 n σ K) K).trans ?_
  simp only [ih]
  rfl
def zbS{β:Type}(zg:yx)(L:Nat)(p:Bool→Option β)(z:List (List V)→Int→Int→List V→Option β):Nat→List (List V)→Int→Int→List (List V)→Int→Int→List V→Option β
 | 0,_,_,_,_,_,_,_=>none
 | n+1,A,C,D,E,F,G,H=>zeC zg L A C D E F G H p (fun A C D E F G H=>zbS zg L p z n A C D E F G H) z
theorem zg4{β:Type}(zg:yx)(L:Nat)(K:KT β):∀ (n:Nat) (p:List (List V)) (z A:Int) (C:List (List V)) (D E:Int) (F:List V),zw (xj yM (xM zg L) 0 L zbI) zc0 n (zct p z A C D E F) K=zbS zg L (fun G=>K .ret (zaP G)) (fun p z A F=>K (.exit 4) (zm1 p z A F)) n p z A C D E F:=by
 intro n
 induction n with
 | zero=>intros; rfl
 | succ n ih=>
  intro p z A C D E F
  refine (zom zg L p z A C D E F (fun σ=>zw (xj yM (xM zg L) 0 L zbI) zc0 n σ K) K).trans ?_
  simp only [ih]
  rfl
def zgg{β:Type}(zg:yx)(L:Nat)(p:List (List V))(z A:Int)(E:List V)(D:Bool→Option β)(F:List V→Option β)(C:List (List V)→Int→Int→List V→Option β):Option β:=zkp zg L p z A E D (fun p z A G H I E=>zbS zg L (fun J=>zdG zg L J D) (fun p z A E=>zd0 zg L p z A E C) L p z A G H I E) F
theorem zvg{β:Type}(zg:yx)(L:Nat)(p:List (List V))(z A:Int)(C:List V)(X:St→Option β)(K:KT β):xj yM (xM zg L) 0 L zc5 (zcA p z A C) (zU zbT X K)=zgg zg L p z A C (fun D=>K .ret (zaP D)) (fun C=>K (.exit 2) (zja C)) (fun p z A C=>X (zcA p z A C)):=by
 refine (zvI zg L p z A C X K).trans ?_
 unfold zgg
 first
  | (simp only [zg4,zlY,zm8]; done)
  | (simp only [zg4]; rfl)
def zeJ{β:Type}(zg:yx)(L:Nat)(p:Bool→Option β)(z:List V→Option β):Nat→List (List V)→Int→Int→List V→Option β
 | 0,_,_,_,_=>none
 | n+1,A,C,D,E=>zgg zg L A C D E p z (fun A C D E=>zeJ zg L p z n A C D E)
theorem znj{β:Type}(zg:yx)(L:Nat)(K:KT β):∀ (n:Nat) (p:List (List V)) (z A:Int) (C:List V),zw (xj yM (xM zg L) 0 L zc5) zbT n (zcA p z A C) K=zeJ zg L (fun D=>K .ret (zaP D)) (fun C=>K (.exit 2) (zja C)) n p z A C:=by
 intro n
 induction n with
 | zero=>intros; rfl
 | succ n ih=>
  intro p z A C
  refine (zvg zg L p z A C (fun σ=>zw (xj yM (xM zg L) 0 L zc5) zbT n σ K) K).trans ?_
  simp only [ih]
  rfl
def zfx{β:Type}(zg:yx)(L:Nat)(z:List V)(p:Bool→Option β):Option β:=zjI zg L z (fun A C D z=>zeJ zg L (fun E=>zis zg L E p) (fun z=>zi3 zg L z p) L A C D z)
theorem ztO{β:Type}(zg:yx)(L:Nat)(p:List V)(k:KK β):(yo 0 (zE (xj yM (xM zg L) 0 L zho) (yQ 0 (CF.res zby) k))) (.exit 0) (ziT p)=zfx zg L p (fun z=>k (V.sc (.bool z)) []):=by
 refine (zuP zg L p k).trans ?_
 unfold zfx
 first
  | (simp only [znj,zsO,ztN]; done)
  | (simp only [znj]; rfl)
def znW{β:Type}(zg:yx)(L:Nat)(E:List V)(p:Bool→Option β):Option β:=ztt zg L E p (fun A C D z=>ze8 zg L (fun F=>zje zg L F p) (fun z=>zfx zg L z p) L A C D z)
theorem zBA{β:Type}(zg:yx)(L:Nat)(p:List V)(k:KK β):xq yM (xM zg L) L zby [(V.agg p)] [] k=znW zg L p (fun p=>k (V.sc (.bool p)) []):=by
 refine (zCl zg L p k).trans ?_
 unfold znW
 first
  | (simp only [zoz,ztF,ztO]; done)
  | (simp only [zoz]; rfl)
abbrev zok:=∀ (β:Type),Nat→List V→(Bool→Option β)→Option β
def zaA(β:Type)(L:Nat)(z:List V)(p:Bool→Option β):Option β:=znW zg L z p
def zop(zaA:zok)(L:Nat)(β:Type)(args:List V)(bor:Bor)(k:KK β):Option β:=match args,bor with
 | [a0],[]=>aG a0 fun p=>zaA β L p (fun p=>k (V.sc (.bool p)) [])
 | _,_=>none
theorem zB8(L:Nat)(β:Type)(args:List V)(bor:Bor)(k:KK β)(r:β)(h:zop zaA L β args bor k=some r):xq yM (xM zg L) L zby args bor k=some r:=by
 unfold zop at h
 split at h
 ·have q:=zde h; clear h; obtain ⟨p,rfl,h⟩:=q
  exact (zBA zg L p k).trans h
 ·cases h
def zj1:CF:=⟨12,[.tmp 4,.tmp 5],(.seq (.reg [Qv 2 (tq 0),Qi 4 (.const (.gs 1 [])),Qh 5 (Qf 0)]) (.seq (.seq (.reg [Qk 6 4 (tq 2),Qs 7 148 [((tq 6),1)],Qt 8 (tq 7)]) (.cond (tq 8) (.seq (.reg [Qi 4 (.const (.gs 1 [])),Qh 5 (Qf 4)]) .ret) .skip)) (.seq (.reg [Qk 9 4 (tq 2),Qh 10 (tq 1),Qs 11 149 [((tq 9),1),(Qw 10)],Qi 4 (tq 11),Qh 5 (Qf 0)]) .ret)))⟩
def zrB:Hint:=⟨[(0,0),(0,1),(2,0),(3,3)],[],[none,none,none],[],[],false,false,[]⟩
def znV:Nat→Sh:=xT []
def znL(zaA:zok)(zg:yx)(L:Nat):CBC:=(xy 149 (zit zg L) (xy 148 (zop zaA L) noC))
def zpv{β:Type}(zaA:zok)(zg:yx)(L:Nat)(z:List V)(A:Bool)(p:List (List V)→Int→Option β):Option β:=chk (0+4≤(XM z)) (zaA β L (Xu V.dem (XN 4 z)) (fun C=>ifb (!C) (p ([]:List (List V)) (4:Int)) (chk (0+4≤(XM z)) (zg β L (Xu V.dem (XN 4 z)) A (fun D=>p D (0:Int))))))
theorem zzU{β:Type}(zaA:zok)(zg:yx)(L:Nat)(A:List V)(C:Bool)(k:KK β):xq znV (znL zaA zg L) L zj1 [(V.agg A),(V.sc (.bool C))] [] k=zpv zaA zg L A C (fun p z=>k (V.tup [(V.gs 1 p),(Qe z)]) []):=by kernel_rfl
abbrev zlg:=∀ (β:Type),Nat→List V→Bool→(List (List V)→Int→Option β)→Option β
def z7(β:Type)(L:Nat)(z:List V)(A:Bool)(p:List (List V)→Int→Option β):Option β:=zpv zaA zg L z A p
def zlt(z7:zlg)(L:Nat)(β:Type)(args:List V)(bor:Bor)(k:KK β):Option β:=match args,bor with
 | [a0,a1],[]=>aG a0 fun A=>aB a1 fun C=>z7 β L A C (fun p z=>k (V.tup [(V.gs 1 p),(Qe z)]) [])
 | _,_=>none
theorem zzP(L:Nat)(β:Type)(args:List V)(bor:Bor)(k:KK β)(r:β)(h:zlt z7 L β args bor k=some r):xq znV (znL zaA zg L) L zj1 args bor k=some r:=by
 unfold zlt at h
 split at h
 ·have q:=zde h; clear h; obtain ⟨p,rfl,h⟩:=q
  have q:=zoH h; clear h; obtain ⟨z,rfl,h⟩:=q
  exact (zzU zaA zg L p z k).trans h
 ·cases h
def zh1:CF:=⟨78,[.tmp 8],(.seq (.reg [Qv 4 (tq 0),Qh 8 (Qg false)]) (.seq (.seq (.reg [Qs 15 126 [],Qt 16 (tq 15)]) (.cond (tq 16) (.seq (.reg [Qh 8 (Qg false)]) .ret) .skip)) (.seq (.seq (.reg [Qk 17 4 (tq 4),Qs 18 127 [((tq 17),1)],Qt 19 (tq 18),Qh 20 (tq 19),⟨(some 21),false,(some (20,false)),.fieldAddr 1 (tq 4)⟩,⟨(some 22),false,(some (20,false)),.load false 1 (tq 21) false⟩,⟨(some 23),false,(some (20,false)),.lenS (tq 22)⟩,⟨(some 24),false,(some (20,false)),.fieldAddr 2 (tq 4)⟩,⟨(some 25),false,(some (20,false)),.load false 1 (tq 24) false⟩,⟨(some 26),false,(some (20,false)),.lenS (tq 25)⟩,⟨(some 27),false,(some (20,false)),.bin .add (tq 23) (tq 26)⟩,⟨(some 28),false,(some (20,false)),.bin .gtr (tq 27) (Qf 8)⟩,oo 29 (.pick (tq 20) (Qg true) (tq 28))]) (.cond (tq 29) (.seq (.reg [Qh 8 (Qg true)]) .ret) .skip)) (.seq (.reg [Qk 31 4 (tq 4),Qs 32 129 [((tq 31),1),((Qg true),0)],Qi 30 (tq 32),⟨(some 33),true,none,.extract (tq 30) 0⟩,Qq 34 (tq 30) 1,Qi 9 (tq 33),Qh 10 (tq 34)]) (.seq (.seq (.reg [Qh 35 (tq 10),Qp 36 .neq (tq 35) (Qf 0)]) (.cond (tq 36) (.seq (.reg [Qh 8 (Qg true)]) .ret) .skip)) (.seq (.reg [Qh 37 (tq 9),Qh 38 (tq 1),Qu 39 .i64 (tq 38),Qh 40 (tq 9),Qr 41 (tq 40),Qp 42 .rem (tq 39) (tq 41),Qo 43 1 (tq 37) (tq 42),Qj 44 1 (tq 43),Qh 45 (tq 2),Qp 46 .add (tq 44) (tq 45),Qo 47 1 (tq 37) (tq 42),Qm 1 (tq 47) (tq 46)]) (.seq (.reg [Qh 48 (tq 9),Qh 49 (tq 9),Qr 50 (tq 49),Qh 51 (tq 3),Qu 52 .i64 (tq 51),Qh 53 (tq 9),Qr 54 (tq 53),Qp 55 .add (tq 54) (Qf 1),Qp 56 .rem (tq 52) (tq 55),Qp 57 .rem (tq 56) (Qf 3),Qp 58 .sub (tq 50) (tq 57),oo 59 (.sliceS 1 (tq 48) none (some (tq 58)) none),Qi 9 (tq 59)]) (.seq (.reg [Qh 61 (tq 9),Qs 62 141 [(Qw 61)],Qi 60 (tq 62),Qq 63 (tq 60) 0,Qq 64 (tq 60) 1,oo 11 (.alloc true [(.sc (.int .u32 0)),(.gs 35 []),(.gs 2 []),(.sc (.int .u32 0))]),Qm 4 (tq 11) (tq 63),Qh 12 (tq 64)]) (.seq (.reg [Qh 66 (tq 9),Qs 67 142 [(Qw 66)],Qi 65 (tq 67),Qq 68 (tq 65) 0,Qq 69 (tq 65) 1,oo 13 (.alloc true [(.sc (.int .u32 0)),(.gs 35 []),(.gs 2 []),(.sc (.int .u32 0))]),Qm 4 (tq 13) (tq 68),Qh 14 (tq 69)]) (.seq (.reg [Qh 70 (tq 12),Qh 71 (tq 14),Qp 72 .eql (tq 70) (tq 71),Qh 73 (tq 72),⟨(some 74),false,(some (73,true)),.load true 4 (tq 11) false⟩,⟨(some 75),false,(some (73,true)),.load true 4 (tq 13) false⟩,⟨(some 76),false,(some (73,true)),.call 143 [((tq 74),1),((tq 75),1)] []⟩,oo 77 (.pick (tq 73) (tq 76) (Qg false)),Qh 8 (tq 77)]) .ret))))))))))⟩
def zo5:Hint:=⟨[(0,0),(5,2),(5,3),(5,5),(9,12),(10,2),(10,5),(11,2),(11,5)],[(5,3)],[none,none,none,none,none,none,none],[],[],false,false,[]⟩
def zlP:Nat→Sh:=xT [(22,(.sl 35)),(25,(.sl 2)),(44,(.int .u8))]
def zlF(xQ:zeB)(zaN:znr)(z7:zlg)(zQ:zfC)(xN:zfQ)(zD:zdp)(L:Nat):CBC:=(xy 143 (zfP zD L) (xy 142 (zim xN L) (xy 141 (zjo zQ L) (xy 129 (frD (zlt z7 L)) (xy 127 (zqq zaN L) (xy 126 (ziq xQ L) noC))))))
def znf{β:Type}(xQ:zeB)(zaN:znr)(z7:zlg)(zQ:zfC)(xN:zfQ)(zD:zdp)(L:Nat)(F:List V)(T p2 p3:Int)(p:Bool→Option β):Option β:=xQ β L  (fun v0=>ifb (!v0) (p false) (chk (0+4≤(XM F)) (zaN β L (Xu V.dem (XN 4 F)) (fun v1=>ifb (!v1) (p true) (cLd 35 F 1 fun v2=>cLd 2 F 2 fun v3=>lt (QF .i64 ((((XM v2:Nat):Int):Int)+((XM v3:Nat):Int))) fun x4=>ifb (decide (x4>(8:Int))) (p true) (chk (0+4≤(XM F)) (z7 β L (Xu V.dem (XN 4 F)) true (fun z U=>ifb (zqZ z) (ifb ((U:Int) != (0:Int)) (p true) (lt (QF .i64 T) fun x7=>chk ((((XM z):Nat):Int)≠0) (lt (Int.tmod x7 (((XM z):Nat):Int)) fun D=>chk (0≤D∧D<(((XM z):Nat):Int)) (cI .u8 (XR z) (0+((XO D)*1)) fun v9=>lt (QF .u8 ((v9:Int)+p2)) fun W=>chk (0≤D∧D<(((XM z):Nat):Int)) (chk (1=1∧(0+((XO D)*1))+1≤(XM (XR z))) (lt (xm (XR z) (0+((XO D)*1)) [(Qa W)]) fun A=>lt (QF .i64 p3) fun X=>lt (QF .i64 (((((XM z):Nat):Int):Int)+(1:Int))) fun G=>chk (G≠0) (lt (Int.tmod X G) fun Y=>lt (Int.tmod Y (3:Int)) fun Z=>lt (QF .i64 (((((XM z):Nat):Int):Int)-Z)) fun C=>chk (0≤C∧C≤(((XM z):Nat):Int)) (ifb (List.isEmpty A) (zQ β L (zl 1 ((XO C)-0) A) (fun H I=>chk ((XM H)=4∧0+4≤4) (lt (xm [(Qc (0:Int)),(V.gs 35 ([]:List (List V))),(V.gs 2 ([]:List (List V))),(Qc (0:Int))] 0 H) fun E=>ifb (List.isEmpty A) (xN β L (zl 1 ((XO C)-0) A) (fun J aa=>chk ((XM J)=4∧0+4≤4) (lt (xm [(Qc (0:Int)),(V.gs 35 ([]:List (List V))),(V.gs 2 ([]:List (List V))),(Qc (0:Int))] 0 J) fun M=>ifb ((I:Int)==aa) (chk (0+4≤(XM E)) (chk (0+4≤(XM M)) (zD β L (Xu V.dem (XN 4 E)) (Xu V.dem (XN 4 M)) (fun ab=>p ab)))) (p false)))) (xN β L (zl 1 ((XO C)-0) A) (fun N ac=>chk ((XM N)=4∧0+4≤4) (lt (xm [(Qc (0:Int)),(V.gs 35 ([]:List (List V))),(V.gs 2 ([]:List (List V))),(Qc (0:Int))] 0 N) fun O=>ifb ((I:Int)==ac) (chk (0+4≤(XM E)) (chk (0+4≤(XM O)) (zD β L (Xu V.dem (XN 4 E)) (Xu V.dem (XN 4 O)) (fun ad=>p ad)))) (p false))))))) (zQ β L (zl 1 ((XO C)-0) A) (fun P ae=>chk ((XM P)=4∧0+4≤4) (lt (xm [(Qc (0:Int)),(V.gs 35 ([]:List (List V))),(V.gs 2 ([]:List (List V))),(Qc (0:Int))] 0 P) fun Q=>xN β L (zl 1 ((XO C)-0) A) (fun R af=>chk ((XM R)=4∧0+4≤4) (lt (xm [(Qc (0:Int)),(V.gs 35 ([]:List (List V))),(V.gs 2 ([]:List (List V))),(Qc (0:Int))] 0 R) fun S=>ifb ((ae:Int)==af) (chk (0+4≤(XM Q)) (chk (0+4≤(XM S)) (zD β L (Xu V.dem (XN 4 Q)) (Xu V.dem (XN 4 S)) (fun ag=>p ag)))) (p false)))))))))))))) (ifb ((U:Int) != (0:Int)) (p true) (lt (QF .i64 T) fun aq=>none))))))))))
theorem zxV{β:Type}(xQ:zeB)(zaN:znr)(z7:zlg)(zQ:zfC)(xN:zfQ)(zD:zdp)(L:Nat)(p:List V)(z A C:Int)(k:KK β):xq zlP (zlF xQ zaN z7 zQ xN zD L) L zh1 [(V.agg p),(Qb z),(Qa A),(Qa C)] [] k=znf xQ zaN z7 zQ xN zD L p z A C (fun p=>k (V.sc (.bool p)) []):=by kernel_rfl
abbrev zAG:=∀ (β:Type),Nat→List V→Int→Int→Int→(Bool→Option β)→Option β
def zcH(β:Type)(L:Nat)(z:List V)(A C D:Int)(p:Bool→Option β):Option β:=znf xQ zaN z7 zQ xN zD L z A C D p
def zjh(zcH:zAG)(L:Nat)(β:Type)(args:List V)(bor:Bor)(k:KK β):Option β:=match args,bor with
 | [a0,a1,a2,a3],[]=>aG a0 fun p=>aI .u16 a1 fun z=>aI .u8 a2 fun A=>aI .u8 a3 fun C=>zcH β L p z A C (fun p=>k (V.sc (.bool p)) [])
 | _,_=>none
theorem zxM(L:Nat)(β:Type)(args:List V)(bor:Bor)(k:KK β)(r:β)(h:zjh zcH L β args bor k=some r):xq zlP (zlF xQ zaN z7 zQ xN zD L) L zh1 args bor k=some r:=by
 unfold zjh at h
 split at h
 ·have q:=zde h; clear h; obtain ⟨p,rfl,h⟩:=q
  have q:=yy h; clear h; obtain ⟨z,rfl,h⟩:=q
  have q:=yy h; clear h; obtain ⟨A,rfl,h⟩:=q
  have q:=yy h; clear h; obtain ⟨C,rfl,h⟩:=q
  exact (zxV xQ zaN z7 zQ xN zD L p z A C k).trans h
 ·cases h
def zud:CF:=⟨70,[.tmp 4],(.seq (.reg [Qv 2 (tq 0),Qh 4 (Qg false)]) (.seq (.seq (.reg [Qs 13 126 [],Qt 14 (tq 13)]) (.cond (tq 14) (.seq (.reg [Qh 4 (Qg false)]) .ret) .skip)) (.seq (.seq (.reg [Qk 15 4 (tq 2),Qs 16 127 [((tq 15),1)],Qt 17 (tq 16),Qh 18 (tq 17),⟨(some 19),false,(some (18,false)),.move (tq 1) false⟩,⟨(some 20),false,(some (18,false)),.lenS (tq 19)⟩,⟨(some 21),false,(some (18,false)),.bin .gtr (tq 20) (Qf 3000)⟩,oo 22 (.pick (tq 18) (Qg true) (tq 21))]) (.cond (tq 22) (.seq (.reg [Qh 4 (Qg true)]) .ret) .skip)) (.seq (.seq (.reg [Qk 24 4 (tq 2),Qs 25 128 [((tq 24),1),((Qg true),0)],Qi 23 (tq 25),oo 26 (.extract (tq 23) 0),Qq 27 (tq 23) 1,Qh 5 (tq 26),Qh 6 (tq 27)]) (.seq (.reg [Qh 28 (tq 6),Qp 29 .eql (tq 28) (Qf 0)]) (.cond (tq 29) (.seq (.reg [Qh 31 (tq 5),Qs 32 141 [(Qw 31)],Qi 30 (tq 32),Qq 33 (tq 30) 0,Qq 34 (tq 30) 1,oo 7 (.alloc true [(.sc (.int .u32 0)),(.gs 35 []),(.gs 2 []),(.sc (.int .u32 0))]),Qm 4 (tq 7) (tq 33),Qh 8 (tq 34)]) (.seq (.reg [Qh 35 (tq 8),Qp 36 .neq (tq 35) (Qf 0),Qh 37 (tq 36),⟨(some 38),false,(some (37,false)),.load true 4 (tq 2) false⟩,⟨(some 39),false,(some (37,false)),.load true 4 (tq 7) false⟩,⟨(some 40),false,(some (37,false)),.call 143 [((tq 38),1),((tq 39),1)] []⟩,⟨(some 41),false,(some (37,false)),.un .not (tq 40)⟩,oo 42 (.pick (tq 37) (Qg true) (tq 41))]) (.cond (tq 42) (.seq (.reg [Qh 4 (Qg false)]) .ret) .skip))) .skip))) (.seq (.reg [Qh 44 (tq 1),Qs 45 141 [(Qw 44)],Qi 43 (tq 45),Qq 46 (tq 43) 0,Qq 47 (tq 43) 1,oo 9 (.alloc true [(.sc (.int .u32 0)),(.gs 35 []),(.gs 2 []),(.sc (.int .u32 0))]),Qm 4 (tq 9) (tq 46),Qh 10 (tq 47)]) (.seq (.seq (.reg [Qh 48 (tq 10),Qp 49 .neq (tq 48) (Qf 0)]) (.cond (tq 49) (.seq (.reg [Ql 50 1 (tq 9),Qj 51 1 (tq 50),Qr 52 (tq 51),Ql 53 2 (tq 9),Qj 54 1 (tq 53),Qr 55 (tq 54),Qp 56 .add (tq 52) (tq 55),Qp 57 .eql (tq 56) (Qf 0),Qh 4 (tq 57)]) .ret) .skip)) (.seq (.reg [Qk 59 4 (tq 9),Qs 60 128 [((tq 59),1),((Qg true),0)],Qi 58 (tq 60),oo 61 (.extract (tq 58) 0),Qq 62 (tq 58) 1,Qh 11 (tq 61),Qh 12 (tq 62)]) (.seq (.reg [Qh 63 (tq 12),Qp 64 .eql (tq 63) (Qf 0),Qh 65 (tq 64),⟨(some 66),false,(some (65,true)),.move (tq 11) false⟩,⟨(some 67),false,(some (65,true)),.move (tq 1) false⟩,⟨(some 68),false,(some (65,true)),.call 130 [(Qw 66),(Qw 67)] []⟩,oo 69 (.pick (tq 65) (tq 68) (Qg false)),Qh 4 (tq 69)]) .ret))))))))⟩
def zrH:Hint:=⟨[(0,0),(5,2),(5,3),(7,2),(7,5),(10,2),(10,5),(13,2),(13,3)],[],[none,none,none,none,none,none,none,none,none,none],[],[],false,false,[]⟩
def zLg:Nat→Sh:=xT [(51,(.sl 35)),(54,(.sl 2))]
def zLf(xQ:zeB)(zaN:znr)(y5:zjm)(zQ:zfC)(zD:zdp)(zh:xA)(L:Nat):CBC:=(xy 130 (zih zh L) (xy 143 (zfP zD L) (xy 141 (zjo zQ L) (xy 128 (zl8 y5 L) (xy 127 (zqq zaN L) (xy 126 (ziq xQ L) noC))))))
def zCZ{β:Type}(xQ:zeB)(zaN:znr)(y5:zjm)(zQ:zfC)(zD:zdp)(zh:xA)(L:Nat)(C:List V)(D:List (List V))(p:Bool→Option β):Option β:=xQ β L  (fun Y=>ifb (!Y) (p false) (chk (0+4≤(XM C)) (zaN β L (Xu V.dem (XN 4 C)) (fun Z=>ifb (!Z) (p true) (ifb (decide (((XM D:Nat):Int)>(3000:Int))) (p true) (chk (0+4≤(XM C)) (y5 β L (Xu V.dem (XN 4 C)) true (fun v2 v3=>ifb ((v3:Int)==(0:Int)) (zQ β L v2 (fun F v5=>chk ((XM F)=4∧0+4≤4) (lt (xm [(Qc (0:Int)),(V.gs 35 ([]:List (List V))),(V.gs 2 ([]:List (List V))),(Qc (0:Int))] 0 F) fun G=>ifb ((v5:Int) != (0:Int)) (p false) (chk (0+4≤(XM C)) (chk (0+4≤(XM G)) (zD β L (Xu V.dem (XN 4 C)) (Xu V.dem (XN 4 G)) (fun v7=>ifb (!v7) (p false) (zQ β L D (fun H v9=>chk ((XM H)=4∧0+4≤4) (lt (xm [(Qc (0:Int)),(V.gs 35 ([]:List (List V))),(V.gs 2 ([]:List (List V))),(Qc (0:Int))] 0 H) fun z=>ifb ((v9:Int) != (0:Int)) (cLd 35 z 1 fun I=>cLd 2 z 2 fun J=>lt (QF .i64 ((((XM I:Nat):Int):Int)+((XM J:Nat):Int))) fun M=>p ((M:Int)==(0:Int))) (chk (0+4≤(XM z)) (y5 β L (Xu V.dem (XN 4 z)) true (fun N O=>ifb ((O:Int)==(0:Int)) (zh β L N D (fun P=>p P)) (p false)))))))))))))) (zQ β L D (fun E Q=>chk ((XM E)=4∧0+4≤4) (lt (xm [(Qc (0:Int)),(V.gs 35 ([]:List (List V))),(V.gs 2 ([]:List (List V))),(Qc (0:Int))] 0 E) fun A=>ifb ((Q:Int) != (0:Int)) (cLd 35 A 1 fun R=>cLd 2 A 2 fun S=>lt (QF .i64 ((((XM R:Nat):Int):Int)+((XM S:Nat):Int))) fun T=>p ((T:Int)==(0:Int))) (chk (0+4≤(XM A)) (y5 β L (Xu V.dem (XN 4 A)) true (fun U W=>ifb ((W:Int)==(0:Int)) (zh β L U D (fun X=>p X)) (p false)))))))))))))))
abbrev zDI:=∀ (β:Type),Nat→List V→List (List V)→(Bool→Option β)→Option β
def zvz(β:Type)(L:Nat)(z:List V)(A:List (List V))(p:Bool→Option β):Option β:=zCZ xQ zaN y5 zQ zD zh L z A p
def zLJ(zvz:zDI)(L:Nat)(β:Type)(args:List V)(bor:Bor)(k:KK β):Option β:=match args,bor with
 | [a0,a1],[]=>aG a0 fun p=>aL 1 a1 fun z=>zvz β L p z (fun p=>k (V.sc (.bool p)) [])
 | _,_=>none
def gls:List (Nat × List V):=[]
def fg:List (Nat × Nat):=[(3,119),(4,120),(5,121),(6,122),(7,123),(8,124),(9,125),(10,126),(11,127),(12,128),(13,129),(14,130),(15,131),(16,132),(17,133),(18,134),(19,135),(20,136),(21,137),(22,138),(23,139),(24,140),(25,141),(26,142),(27,143),(28,144),(29,145),(30,146),(31,147),(32,148),(33,149),(34,150),(35,151),(36,152),(37,153),(38,154),(39,155),(40,156),(41,157),(42,158),(43,159),(44,160),(45,161),(46,162),(47,163),(48,164),(49,165),(50,166),(51,167),(52,168),(53,169),(54,170),(55,171),(56,172),(57,173),(58,174),(59,175),(60,176),(61,177),(62,178),(63,179),(64,180),(65,181),(66,182),(67,183),(68,184),(69,185),(70,186),(71,187),(72,188),(73,189),(74,190),(75,191),(76,192),(77,193),(78,194),(79,195),(80,196),(81,197),(82,198),(83,199),(84,200),(85,201),(86,202),(87,203),(88,204),(89,205),(90,206),(91,207),(92,208),(93,209),(94,210)]
def rows:List Row:=[⟨76,192,zrG,zdL⟩,⟨75,191,zrI,zkc⟩,⟨41,157,zoK,zg7⟩,⟨89,205,zoE,zhi⟩,⟨67,183,znT,zhd⟩,⟨66,182,zni,zgI⟩,⟨42,158,znq,zgm⟩,⟨21,137,zxB,zp0⟩,⟨68,184,zl6,zfz⟩,⟨31,147,zwq,zbE⟩,⟨30,146,zyi,zdh⟩,⟨12,128,zvl,zoS⟩,⟨28,144,zvs,zov⟩,⟨34,150,zxE,zfD⟩,⟨72,188,zyG,zrS⟩,⟨35,151,zs0,zlq⟩,⟨15,131,zxy,zfE⟩,⟨10,126,zt1,zmE⟩,⟨82,198,ztY,zmS⟩,⟨81,197,zmg,zb5⟩,⟨54,170,zwi,zoO⟩,⟨53,169,zo6,zhY⟩,⟨91,207,znA,zcm⟩,⟨79,195,zxw,zqi⟩,⟨92,208,zmi,zb4⟩,⟨80,196,zvC,znN⟩,⟨83,199,zme,zb3⟩,⟨57,173,zv0,zoX⟩,⟨48,164,zt2,zmG⟩,⟨47,163,zs9,zk7⟩,⟨46,162,zpa,zfd⟩,⟨45,161,zvo,zon⟩,⟨56,172,zum,zmX⟩,⟨55,171,znh,zgB⟩,⟨52,168,ztf,zk8⟩,⟨51,167,ztm,zlu⟩,⟨50,166,zqB,ziS⟩,⟨49,165,zwb,znS⟩,⟨23,139,zyS,zcM⟩,⟨93,209,zrE,zdC⟩,⟨84,200,zwk,zoL⟩,⟨58,174,zma,zfk⟩,⟨85,201,zug,zmP⟩,⟨59,175,zlX,zfn⟩,⟨86,202,zun,zmu⟩,⟨60,176,zl0,zfm⟩,⟨94,210,zvF,zoV⟩,⟨87,203,zml,zft⟩,⟨77,193,zrA,zj9⟩,⟨88,204,zsI,zlr⟩,⟨62,178,zlA,zeU⟩,⟨61,177,zkl,zet⟩,⟨24,140,zuk,zbd⟩,⟨63,179,zvX,zoB⟩,⟨25,141,zwe,zog⟩,⟨64,180,zvK,zor⟩,⟨26,142,zrK,zkb⟩,⟨14,130,ztV,zmB⟩,⟨65,181,zqu,ziJ⟩,⟨27,143,zrw,za3⟩,⟨7,123,zqL,zsU⟩,⟨29,145,ztW,zdX⟩,⟨11,127,zyx,zdf⟩,⟨78,194,zry,zdM⟩,⟨43,159,zoQ,zhp⟩,⟨69,185,zny,zgx⟩,⟨44,160,znv,zgk⟩,⟨22,138,ztj,zll⟩,⟨90,206,zn7,zgY⟩,⟨71,187,zmm,zfg⟩,⟨70,186,zvE,zoP⟩,⟨33,149,zrJ,zaD⟩,⟨32,148,ztT,zby⟩,⟨13,129,zrB,zj1⟩,⟨8,124,zo5,zh1⟩,⟨9,125,zrH,zud⟩]
theorem zBD:zR Try.prog (xK fg gls) zrG 76=some zdL:=by kernel_rfl
theorem zB0:zR Try.prog (xK fg gls) zrI 75=some zkc:=by kernel_rfl
theorem zy6:zR Try.prog (xK fg gls) zoK 41=some zg7:=by kernel_rfl
theorem zyg:zR Try.prog (xK fg gls) zoE 89=some zhi:=by kernel_rfl
theorem zyu:zR Try.prog (xK fg gls) znT 67=some zhd:=by kernel_rfl
theorem zxP:zR Try.prog (xK fg gls) zni 66=some zgI:=by kernel_rfl
theorem zxN:zR Try.prog (xK fg gls) znq 42=some zgm:=by kernel_rfl
theorem zG3:zR Try.prog (xK fg gls) zxB 21=some zp0:=by kernel_rfl
theorem zwH:zR Try.prog (xK fg gls) zl6 68=some zfz:=by kernel_rfl
theorem zGG:zR Try.prog (xK fg gls) zwq 31=some zbE:=by kernel_rfl
theorem zH6:zR Try.prog (xK fg gls) zyi 30=some zdh:=by kernel_rfl
theorem zGA:zR Try.prog (xK fg gls) zvl 12=some zoS:=by kernel_rfl
theorem zFj:zR Try.prog (xK fg gls) zvs 28=some zov:=by kernel_rfl
theorem zGW:zR Try.prog (xK fg gls) zxE 34=some zfD:=by kernel_rfl
theorem zIz:zR Try.prog (xK fg gls) zyG 72=some zrS:=by kernel_rfl
theorem zCK:zR Try.prog (xK fg gls) zs0 35=some zlq:=by kernel_rfl
theorem zG1:zR Try.prog (xK fg gls) zxy 15=some zfE:=by kernel_rfl
theorem zER:zR Try.prog (xK fg gls) zt1 10=some zmE:=by kernel_rfl
theorem zEz:zR Try.prog (xK fg gls) ztY 82=some zmS:=by kernel_rfl
theorem zw8:zR Try.prog (xK fg gls) zmg 81=some zb5:=by kernel_rfl
theorem zFF:zR Try.prog (xK fg gls) zwi 54=some zoO:=by kernel_rfl
theorem zzC:zR Try.prog (xK fg gls) zo6 53=some zhY:=by kernel_rfl
theorem zxY:zR Try.prog (xK fg gls) znA 91=some zcm:=by kernel_rfl
theorem zHb:zR Try.prog (xK fg gls) zxw 79=some zqi:=by kernel_rfl
theorem zwW:zR Try.prog (xK fg gls) zmi 92=some zb4:=by kernel_rfl
theorem zFi:zR Try.prog (xK fg gls) zvC 80=some znN:=by kernel_rfl
theorem zwL:zR Try.prog (xK fg gls) zme 83=some zb3:=by kernel_rfl
theorem zF9:zR Try.prog (xK fg gls) zv0 57=some zoX:=by kernel_rfl
theorem zEM:zR Try.prog (xK fg gls) zt2 48=some zmG:=by kernel_rfl
theorem zDa:zR Try.prog (xK fg gls) zs9 47=some zk7:=by kernel_rfl
theorem zzS:zR Try.prog (xK fg gls) zpa 46=some zfd:=by kernel_rfl
theorem zGI:zR Try.prog (xK fg gls) zvo 45=some zon:=by kernel_rfl
theorem zEX:zR Try.prog (xK fg gls) zum 56=some zmX:=by kernel_rfl
theorem zxL:zR Try.prog (xK fg gls) znh 55=some zgB:=by kernel_rfl
theorem zDD:zR Try.prog (xK fg gls) ztf 52=some zk8:=by kernel_rfl
theorem zDH:zR Try.prog (xK fg gls) ztm 51=some zlu:=by kernel_rfl
theorem zAv:zR Try.prog (xK fg gls) zqB 50=some ziS:=by kernel_rfl
theorem zFn:zR Try.prog (xK fg gls) zwb 49=some znS:=by kernel_rfl
theorem zIa:zR Try.prog (xK fg gls) zyS 23=some zcM:=by kernel_rfl
theorem zCn:zR Try.prog (xK fg gls) zrE 93=some zdC:=by kernel_rfl
theorem zGR:zR Try.prog (xK fg gls) zwk 84=some zoL:=by kernel_rfl
theorem zwN:zR Try.prog (xK fg gls) zma 58=some zfk:=by kernel_rfl
theorem zEN:zR Try.prog (xK fg gls) zug 85=some zmP:=by kernel_rfl
theorem zwT:zR Try.prog (xK fg gls) zlX 59=some zfn:=by kernel_rfl
theorem zEZ:zR Try.prog (xK fg gls) zun 86=some zmu:=by kernel_rfl
theorem zwF:zR Try.prog (xK fg gls) zl0 60=some zfm:=by kernel_rfl
theorem zF7:zR Try.prog (xK fg gls) zvF 94=some zoV:=by kernel_rfl
theorem zwM:zR Try.prog (xK fg gls) zml 87=some zft:=by kernel_rfl
theorem zCH:zR Try.prog (xK fg gls) zrA 77=some zj9:=by kernel_rfl
theorem zDh:zR Try.prog (xK fg gls) zsI 88=some zlr:=by kernel_rfl
theorem zvB:zR Try.prog (xK fg gls) zlA 62=some zeU:=by kernel_rfl
theorem zuH:zR Try.prog (xK fg gls) zkl 61=some zet:=by kernel_rfl
theorem zE3:zR Try.prog (xK fg gls) zuk 24=some zbd:=by kernel_rfl
theorem zGa:zR Try.prog (xK fg gls) zvX 63=some zoB:=by kernel_rfl
theorem zGC:zR Try.prog (xK fg gls) zwe 25=some zog:=by kernel_rfl
theorem zGf:zR Try.prog (xK fg gls) zvK 64=some zor:=by kernel_rfl
theorem zBh:zR Try.prog (xK fg gls) zrK 26=some zkb:=by kernel_rfl
theorem zEW:zR Try.prog (xK fg gls) ztV 14=some zmB:=by kernel_rfl
theorem zAz:zR Try.prog (xK fg gls) zqu 65=some ziJ:=by kernel_rfl
theorem zBd:zR Try.prog (xK fg gls) zrw 27=some za3:=by kernel_rfl
theorem zAk:zR Try.prog (xK fg gls) zqL 7=some zsU:=by kernel_rfl
theorem zED:zR Try.prog (xK fg gls) ztW 29=some zdX:=by kernel_rfl
theorem zIs:zR Try.prog (xK fg gls) zyx 11=some zdf:=by kernel_rfl
theorem zCo:zR Try.prog (xK fg gls) zry 78=some zdM:=by kernel_rfl
theorem zyR:zR Try.prog (xK fg gls) zoQ 43=some zhp:=by kernel_rfl
theorem zxQ:zR Try.prog (xK fg gls) zny 69=some zgx:=by kernel_rfl
theorem zxT:zR Try.prog (xK fg gls) znv 44=some zgk:=by kernel_rfl
theorem zDl:zR Try.prog (xK fg gls) ztj 22=some zll:=by kernel_rfl
theorem zy2:zR Try.prog (xK fg gls) zn7 90=some zgY:=by kernel_rfl
theorem zwP:zR Try.prog (xK fg gls) zmm 71=some zfg:=by kernel_rfl
theorem zGy:zR Try.prog (xK fg gls) zvE 70=some zoP:=by kernel_rfl
theorem zB9:zR Try.prog (xK fg gls) zrJ 33=some zaD:=by kernel_rfl
theorem zEQ:zR Try.prog (xK fg gls) ztT 32=some zby:=by kernel_rfl
theorem zA9:zR Try.prog (xK fg gls) zrB 13=some zj1:=by kernel_rfl
theorem zzB:zR Try.prog (xK fg gls) zo5 8=some zh1:=by kernel_rfl
theorem zBg:zR Try.prog (xK fg gls) zrH 9=some zud:=by kernel_rfl
theorem zL3:∀ r∈rows,(r.f,r.g)∈fg∧zfU Try.prog r.f=true∧zR Try.prog (xK fg gls) r.h r.f=some r.c:=by
 intro r hr
 simp only [rows,Q8,List.not_mem_nil,or_false] at hr
 rcases hr with rfl | rfl | rfl | rfl | rfl | rfl | rfl | rfl | rfl | rfl | rfl | rfl | rfl | rfl | rfl | rfl | rfl | rfl | rfl | rfl | rfl | rfl | rfl | rfl | rfl | rfl | rfl | rfl | rfl | rfl | rfl | rfl | rfl | rfl | rfl | rfl | rfl | rfl | rfl | rfl | rfl | rfl | rfl | rfl | rfl | rfl | rfl | rfl | rfl | rfl | rfl | rfl | rfl | rfl | rfl | rfl | rfl | rfl | rfl | rfl | rfl | rfl | rfl | rfl | rfl | rfl | rfl | rfl | rfl | rfl | rfl | rfl | rfl | rfl | rfl | rfl
 ·exact ⟨of_decide_eq_true (by kernel_rfl),by kernel_rfl,zBD⟩
 ·exact ⟨of_decide_eq_true (by kernel_rfl),by kernel_rfl,zB0⟩
 ·exact ⟨of_decide_eq_true (by kernel_rfl),by kernel_rfl,zy6⟩
 ·exact ⟨of_decide_eq_true (by kernel_rfl),by kernel_rfl,zyg⟩
 ·exact ⟨of_decide_eq_true (by kernel_rfl),by kernel_rfl,zyu⟩
 ·exact ⟨of_decide_eq_true (by kernel_rfl),by kernel_rfl,zxP⟩
 ·exact ⟨of_decide_eq_true (by kernel_rfl),by kernel_rfl,zxN⟩
 ·exact ⟨of_decide_eq_true (by kernel_rfl),by kernel_rfl,zG3⟩
 ·exact ⟨of_decide_eq_true (by kernel_rfl),by kernel_rfl,zwH⟩
 ·exact ⟨of_decide_eq_true (by kernel_rfl),by kernel_rfl,zGG⟩
 ·exact ⟨of_decide_eq_true (by kernel_rfl),by kernel_rfl,zH6⟩
 ·exact ⟨of_decide_eq_true (by kernel_rfl),by kernel_rfl,zGA⟩
 ·exact ⟨of_decide_eq_true (by kernel_rfl),by kernel_rfl,zFj⟩
 ·exact ⟨of_decide_eq_true (by kernel_rfl),by kernel_rfl,zGW⟩
 ·exact ⟨of_decide_eq_true (by kernel_rfl),by kernel_rfl,zIz⟩
 ·exact ⟨of_decide_eq_true (by kernel_rfl),by kernel_rfl,zCK⟩
 ·exact ⟨of_decide_eq_true (by kernel_rfl),by kernel_rfl,zG1⟩
 ·exact ⟨of_decide_eq_true (by kernel_rfl),by kernel_rfl,zER⟩
 ·exact ⟨of_decide_eq_true (by kernel_rfl),by kernel_rfl,zEz⟩
 ·exact ⟨of_decide_eq_true (by kernel_rfl),by kernel_rfl,zw8⟩
 ·exact ⟨of_decide_eq_true (by kernel_rfl),by kernel_rfl,zFF⟩
 ·exact ⟨of_decide_eq_true (by kernel_rfl),by kernel_rfl,zzC⟩
 ·exact ⟨of_decide_eq_true (by kernel_rfl),by kernel_rfl,zxY⟩
 ·exact ⟨of_decide_eq_true (by kernel_rfl),by kernel_rfl,zHb⟩
 ·exact ⟨of_decide_eq_true (by kernel_rfl),by kernel_rfl,zwW⟩
 ·exact ⟨of_decide_eq_true (by kernel_rfl),by kernel_rfl,zFi⟩
 ·exact ⟨of_decide_eq_true (by kernel_rfl),by kernel_rfl,zwL⟩
 ·exact ⟨of_decide_eq_true (by kernel_rfl),by kernel_rfl,zF9⟩
 ·exact ⟨of_decide_eq_true (by kernel_rfl),by kernel_rfl,zEM⟩
 ·exact ⟨of_decide_eq_true (by kernel_rfl),by kernel_rfl,zDa⟩
 ·exact ⟨of_decide_eq_true (by kernel_rfl),by kernel_rfl,zzS⟩
 ·exact ⟨of_decide_eq_true (by kernel_rfl),by kernel_rfl,zGI⟩
 ·exact ⟨of_decide_eq_true (by kernel_rfl),by kernel_rfl,zEX⟩
 ·exact ⟨of_decide_eq_true (by kernel_rfl),by kernel_rfl,zxL⟩
 ·exact ⟨of_decide_eq_true (by kernel_rfl),by kernel_rfl,zDD⟩
 ·exact ⟨of_decide_eq_true (by kernel_rfl),by kernel_rfl,zDH⟩
 ·exact ⟨of_decide_eq_true (by kernel_rfl),by kernel_rfl,zAv⟩
 ·exact ⟨of_decide_eq_true (by kernel_rfl),by kernel_rfl,zFn⟩
 ·exact ⟨of_decide_eq_true (by kernel_rfl),by kernel_rfl,zIa⟩
 ·exact ⟨of_decide_eq_true (by kernel_rfl),by kernel_rfl,zCn⟩
 ·exact ⟨of_decide_eq_true (by kernel_rfl),by kernel_rfl,zGR⟩
 ·exact ⟨of_decide_eq_true (by kernel_rfl),by kernel_rfl,zwN⟩
 ·exact ⟨of_decide_eq_true (by kernel_rfl),by kernel_rfl,zEN⟩
 ·exact ⟨of_decide_eq_true (by kernel_rfl),by kernel_rfl,zwT⟩
 ·exact ⟨of_decide_eq_true (by kernel_rfl),by kernel_rfl,zEZ⟩
 ·exact ⟨of_decide_eq_true (by kernel_rfl),by kernel_rfl,zwF⟩
 ·exact ⟨of_decide_eq_true (by kernel_rfl),by kernel_rfl,zF7⟩
 ·exact ⟨of_decide_eq_true (by kernel_rfl),by kernel_rfl,zwM⟩
 ·exact ⟨of_decide_eq_true (by kernel_rfl),by kernel_rfl,zCH⟩
 ·exact ⟨of_decide_eq_true (by kernel_rfl),by kernel_rfl,zDh⟩
 ·exact ⟨of_decide_eq_true (by kernel_rfl),by kernel_rfl,zvB⟩
 ·exact ⟨of_decide_eq_true (by kernel_rfl),by kernel_rfl,zuH⟩
 ·exact ⟨of_decide_eq_true (by kernel_rfl),by kernel_rfl,zE3⟩
 ·exact ⟨of_decide_eq_true (by kernel_rfl),by kernel_rfl,zGa⟩
 ·exact ⟨of_decide_eq_true (by kernel_rfl),by kernel_rfl,zGC⟩
 ·exact ⟨of_decide_eq_true (by kernel_rfl),by kernel_rfl,zGf⟩
 ·exact ⟨of_decide_eq_true (by kernel_rfl),by kernel_rfl,zBh⟩
 ·exact ⟨of_decide_eq_true (by kernel_rfl),by kernel_rfl,zEW⟩
 ·exact ⟨of_decide_eq_true (by kernel_rfl),by kernel_rfl,zAz⟩
 ·exact ⟨of_decide_eq_true (by kernel_rfl),by kernel_rfl,zBd⟩
 ·exact ⟨of_decide_eq_true (by kernel_rfl),by kernel_rfl,zAk⟩
 ·exact ⟨of_decide_eq_true (by kernel_rfl),by kernel_rfl,zED⟩
 ·exact ⟨of_decide_eq_true (by kernel_rfl),by kernel_rfl,zIs⟩
 ·exact ⟨of_decide_eq_true (by kernel_rfl),by kernel_rfl,zCo⟩
 ·exact ⟨of_decide_eq_true (by kernel_rfl),by kernel_rfl,zyR⟩
 ·exact ⟨of_decide_eq_true (by kernel_rfl),by kernel_rfl,zxQ⟩
 ·exact ⟨of_decide_eq_true (by kernel_rfl),by kernel_rfl,zxT⟩
 ·exact ⟨of_decide_eq_true (by kernel_rfl),by kernel_rfl,zDl⟩
 ·exact ⟨of_decide_eq_true (by kernel_rfl),by kernel_rfl,zy2⟩
 ·exact ⟨of_decide_eq_true (by kernel_rfl),by kernel_rfl,zwP⟩
 ·exact ⟨of_decide_eq_true (by kernel_rfl),by kernel_rfl,zGy⟩
 ·exact ⟨of_decide_eq_true (by kernel_rfl),by kernel_rfl,zB9⟩
 ·exact ⟨of_decide_eq_true (by kernel_rfl),by kernel_rfl,zEQ⟩
 ·exact ⟨of_decide_eq_true (by kernel_rfl),by kernel_rfl,zA9⟩
 ·exact ⟨of_decide_eq_true (by kernel_rfl),by kernel_rfl,zzB⟩
 ·exact ⟨of_decide_eq_true (by kernel_rfl),by kernel_rfl,zBg⟩
theorem zNj:Try.prog.follows .mixedOrders=true:=by kernel_rfl
theorem zNl:zJ2 fg=true:=by kernel_rfl
theorem zNi:zhG Try.prog (xK fg gls) zw6:=zLM (zLI (by kernel_rfl)) (zMQ (by kernel_rfl))
theorem zM9(L d:Nat):zhG Try.prog (xK fg gls) (zpK (evF (xH rows) zw6 L d)):=zL4 zNj zNl zNi zL3 L d
theorem zng(L:Nat):FOk (xH rows) L 192 (zfM xx L) 1:=xC (D:=0) (by kernel_rfl) fun m hm=>⟨zbN,zbJ L,zC,zzN L⟩
theorem zdi(L:Nat):FOk (xH rows) L 191 (zcf zi L) 1:=xC (D:=0) (by kernel_rfl) fun m hm=>⟨znX,znZ L,zC,zzE L⟩
theorem zjP(L:Nat):FOk (xH rows) L 157 (zdV yd L) 2:=xC (D:=1) (by kernel_rfl) fun m hm=>⟨zku,zkh xx zi L,(xl (xl zC (zng L m (by omega))) (zdi L m (by omega))),zwG L⟩
theorem zxO(L:Nat):FOk (xH rows) L 205 (zh3 z0 L) 2:=xC (D:=1) (by kernel_rfl) fun m hm=>⟨zkz,zkS xx zi L,(xl (xl zC (zng L m (by omega))) (zdi L m (by omega))),zw2 L⟩
theorem zpc(L:Nat):FOk (xH rows) L 183 (zfb xe L) 2:=xC (D:=1) (by kernel_rfl) fun m hm=>⟨zk6,zkm xx zi L,(xl (xl zC (zng L m (by omega))) (zdi L m (by omega))),zwA L⟩
theorem zoh(L:Nat):FOk (xH rows) L 182 (zeE ze L) 3:=xC (D:=2) (by kernel_rfl) fun m hm=>⟨zjL,zjz zi z0 yd xe L,(xl (xl (xl (xl zC (zdi L m (by omega))) (zxO L m (by omega))) (zjP L m (by omega))) (zpc L m (by omega))),zvZ L⟩
theorem zxk(L:Nat):FOk (xH rows) L 158 (zhk zX L) 2:=xC (D:=1) (by kernel_rfl) fun m hm=>⟨zjH,zjv zi L,(xl zC (zdi L m (by omega))),zwj L⟩
theorem zGu(L:Nat):FOk (xH rows) L 137 (zr6 yi L) 3:=xC (D:=2) (by kernel_rfl) fun m hm=>⟨zuQ,zu6 zX yd L,(xl (xl zC (zxk L m (by omega))) (zjP L m (by omega))),zEw L⟩
theorem zv4(L:Nat):FOk (xH rows) L 184 (zgu ye L) 4:=xC (D:=3) (by kernel_rfl) fun m hm=>⟨ziD,ziK ze zi L,(xl (xl zC (zoh L m (by omega))) (zdi L m (by omega))),zuB L⟩
theorem zrn(L:Nat):FOk (xH rows) L 147 (zjl yh L) 5:=xC (D:=4) (by kernel_rfl) fun m hm=>⟨zK,xJ yd ze yi xe ye L,(xl (xl (xl (xl (xl zC (zjP L m (by omega))) (zoh L m (by omega))) (zGu L m (by omega))) (zpc L m (by omega))) (zv4 L m (by omega))),zDN L⟩
theorem zu9(L:Nat):FOk (xH rows) L 146 (znk yu L) 6:=xC (D:=5) (by kernel_rfl) fun m hm=>⟨zY,xY yh L,(xl zC (zrn L m (by omega))),zGq L⟩
theorem zE5(L:Nat):FOk (xH rows) L 128 (zl8 y5 L) 7:=xC (D:=6) (by kernel_rfl) fun m hm=>⟨ztk,zsz yu yh L,(xl (xl zC (zu9 L m (by omega))) (zrn L m (by omega))),zCL L⟩
theorem zEL(L:Nat):FOk (xH rows) L 144 (zqb zbi L) 7:=xC (D:=6) (by kernel_rfl) fun m hm=>⟨zsK,zsl yu yh L,(xl (xl zC (zu9 L m (by omega))) (zrn L m (by omega))),zCX L⟩
theorem zFS(L:Nat):FOk (xH rows) L 150 (zrZ xB L) 1:=xC (D:=0) (by kernel_rfl) fun m hm=>⟨zc8,zdd L,zC,zEv L⟩
theorem zHa(L:Nat):FOk (xH rows) L 188 (zuh zcI L) 1:=xC (D:=0) (by kernel_rfl) fun m hm=>⟨zww,zwx L,zC,zFu L⟩
theorem zA4(L:Nat):FOk (xH rows) L 151 (zmU xu L) 2:=xC (D:=1) (by kernel_rfl) fun m hm=>⟨zpR,zpm zcI L,(xl zC (zHa L m (by omega))),zAB L⟩
theorem zFs(L:Nat):FOk (xH rows) L 131 (zrY zbZ L) 7:=xC (D:=6) (by kernel_rfl) fun m hm=>⟨zc6,zda yu xB xu L,(xl (xl (xl zC (zu9 L m (by omega))) (zFS L m (by omega))) (zA4 L m (by omega))),zEU L⟩
theorem zCQ(L:Nat):FOk (xH rows) L 126 (ziq xQ L) 8:=xC (D:=7) (by kernel_rfl) fun m hm=>⟨zro,zrh y5 zbi zbZ L,(xl (xl (xl zC (zE5 L m (by omega))) (zEL L m (by omega))) (zFs L m (by omega))),zBy L⟩
theorem zh8(L:Nat):FOk (xH rows) L 198 (zeG zf L) 1:=xC (D:=0) (by kernel_rfl) fun m hm=>⟨zq2,zrm L,zC,zB7 L⟩
theorem zwl(L:Nat):FOk (xH rows) L 197 (zgv zP L) 2:=xC (D:=1) (by kernel_rfl) fun m hm=>⟨zaq,zap zf L,(xl zC (zh8 L m (by omega))),zus L⟩
theorem zxG(L:Nat):FOk (xH rows) L 170 (zmr xP L) 3:=xC (D:=2) (by kernel_rfl) fun m hm=>⟨zsP,zsn zP L,(xl zC (zwl L m (by omega))),zDo L⟩
theorem zyo(L:Nat):FOk (xH rows) L 169 (zjc yc L) 4:=xC (D:=3) (by kernel_rfl) fun m hm=>⟨zlJ,zlD xP L,(xl zC (zxG L m (by omega))),zxX L⟩
theorem zw1(L:Nat):FOk (xH rows) L 207 (zg8 yV L) 2:=xC (D:=1) (by kernel_rfl) fun m hm=>⟨zaI,zaK zf L,(xl zC (zh8 L m (by omega))),zvw L⟩
theorem zFN(L:Nat):FOk (xH rows) L 195 (zr3 zbf L) 3:=xC (D:=2) (by kernel_rfl) fun m hm=>⟨zuE,zuu yV L,(xl zC (zw1 L m (by omega))),zEA L⟩
theorem zwt(L:Nat):FOk (xH rows) L 208 (zgC xR L) 2:=xC (D:=1) (by kernel_rfl) fun m hm=>⟨zat,zau zf L,(xl zC (zh8 L m (by omega))),zuT L⟩
theorem zET(L:Nat):FOk (xH rows) L 196 (zpW zaW L) 3:=xC (D:=2) (by kernel_rfl) fun m hm=>⟨ztb,zsH xR L,(xl zC (zwt L m (by omega))),zDM L⟩
theorem zvD(L:Nat):FOk (xH rows) L 199 (zgo yR L) 2:=xC (D:=1) (by kernel_rfl) fun m hm=>⟨zas,zao zf L,(xl zC (zh8 L m (by omega))),zva L⟩
theorem zxD(L:Nat):FOk (xH rows) L 173 (zmh yT L) 3:=xC (D:=2) (by kernel_rfl) fun m hm=>⟨zsu,zsC yR L,(xl zC (zvD L m (by omega))),zDk L⟩
theorem zwd(L:Nat):FOk (xH rows) L 164 (zkx xO L) 4:=xC (D:=3) (by kernel_rfl) fun m hm=>⟨zq9,zrl zbf zaW xP yT L,(xl (xl (xl (xl zC (zFN L m (by omega))) (zET L m (by omega))) (zxG L m (by omega))) (zxD L m (by omega))),zBG L⟩
theorem zB2(L:Nat):FOk (xH rows) L 163 (zmJ zan L) 5:=xC (D:=4) (by kernel_rfl) fun m hm=>⟨zpt,zpx xO L,(xl zC (zwd L m (by omega))),zAj L⟩
theorem zy7(L:Nat):FOk (xH rows) L 162 (ziN yX L) 6:=xC (D:=5) (by kernel_rfl) fun m hm=>⟨zlI,zlM zan L,(xl zC (zB2 L m (by omega))),zxR L⟩
theorem zEx(L:Nat):FOk (xH rows) L 161 (zp8 xf L) 7:=xC (D:=6) (by kernel_rfl) fun m hm=>⟨zs8,zsm yX L,(xl zC (zy7 L m (by omega))),zDG L⟩
theorem zDs(L:Nat):FOk (xH rows) L 172 (znQ zaw L) 2:=xC (D:=1) (by kernel_rfl) fun m hm=>⟨zq3,zq6 zf L,(xl zC (zh8 L m (by omega))),zBo L⟩
theorem zwE(L:Nat):FOk (xH rows) L 171 (zg6 xb L) 3:=xC (D:=2) (by kernel_rfl) fun m hm=>⟨zju,zjE zaw L,(xl zC (zDs L m (by omega))),zwa L⟩
theorem zvM(L:Nat):FOk (xH rows) L 162 (zgw xa L) 4:=xC (D:=3) (by kernel_rfl) fun m hm=>⟨zi4,zjb yT L,(xl zC (zxD L m (by omega))),zvd L⟩
theorem zA5(L:Nat):FOk (xH rows) L 168 (zmR zad L) 5:=xC (D:=4) (by kernel_rfl) fun m hm=>⟨zpJ,zpn xO zi L,(xl (xl zC (zwd L m (by omega))) (zdi L m (by omega))),zAV L⟩
theorem zA3(L:Nat):FOk (xH rows) L 167 (zmv zam L) 6:=xC (D:=5) (by kernel_rfl) fun m hm=>⟨zpF,zpu zad L,(xl zC (zA5 L m (by omega))),zAy L⟩
theorem zzL(L:Nat):FOk (xH rows) L 166 (zke z4 L) 7:=xC (D:=6) (by kernel_rfl) fun m hm=>⟨zm9,zm7 zam L,(xl zC (zA3 L m (by omega))),zyY L⟩
theorem zEE(L:Nat):FOk (xH rows) L 165 (zqj yf L) 8:=xC (D:=7) (by kernel_rfl) fun m hm=>⟨zs7,ztn z4 L,(xl zC (zzL L m (by omega))),zDL L⟩
theorem zHd(L:Nat):FOk (xH rows) L 139 (zqF zac L) 9:=xC (D:=8) (by kernel_rfl) fun m hm=>⟨xS,yS yc xf xb xa yf L,(xl (xl (xl (xl (xl zC (zyo L m (by omega))) (zEx L m (by omega))) (zwE L m (by omega))) (zvM L m (by omega))) (zEE L m (by omega))),zFo L⟩
theorem zm6(L:Nat):FOk (xH rows) L 209 (zfO yw L) 1:=xC (D:=0) (by kernel_rfl) fun m hm=>⟨zbM,zbL L,zC,zzK L⟩
theorem zEP(L:Nat):FOk (xH rows) L 200 (zqa zaZ L) 2:=xC (D:=1) (by kernel_rfl) fun m hm=>⟨zs1,zsV yw L,(xl zC (zm6 L m (by omega))),zDv L⟩
theorem zvt(L:Nat):FOk (xH rows) L 174 (zgc zb L) 3:=xC (D:=2) (by kernel_rfl) fun m hm=>⟨ziM,ziX zaZ L,(xl zC (zEP L m (by omega))),zu2 L⟩
theorem zwu(L:Nat):FOk (xH rows) L 201 (zkB zO L) 2:=xC (D:=1) (by kernel_rfl) fun m hm=>⟨zqX,zrg yw L,(xl zC (zm6 L m (by omega))),zBn L⟩
theorem zwn(L:Nat):FOk (xH rows) L 175 (zgA yb L) 3:=xC (D:=2) (by kernel_rfl) fun m hm=>⟨zi1,ziC zO L,(xl zC (zwu L m (by omega))),zuo L⟩
theorem zCU(L:Nat):FOk (xH rows) L 202 (zoZ zaC L) 1:=xC (D:=0) (by kernel_rfl) fun m hm=>⟨zrj,zqU L,zC,zCb L⟩
theorem zvm(L:Nat):FOk (xH rows) L 176 (zgj zc L) 2:=xC (D:=1) (by kernel_rfl) fun m hm=>⟨zi8,ziR zaC L,(xl zC (zCU L m (by omega))),zuI L⟩
theorem zEY(L:Nat):FOk (xH rows) L 210 (zp9 zaX L) 2:=xC (D:=1) (by kernel_rfl) fun m hm=>⟨ztu,zts yw L,(xl zC (zm6 L m (by omega))),zCJ L⟩
theorem zvU(L:Nat):FOk (xH rows) L 203 (zge yP L) 3:=xC (D:=2) (by kernel_rfl) fun m hm=>⟨ziL,ziE zaX L,(xl zC (zEY L m (by omega))),zuv L⟩
theorem zei(L:Nat):FOk (xH rows) L 193 (zcP xi L) 1:=xC (D:=0) (by kernel_rfl) fun m hm=>⟨znK,znR L,zC,zzR L⟩
theorem zCk(L:Nat):FOk (xH rows) L 204 (zmV zae L) 3:=xC (D:=2) (by kernel_rfl) fun m hm=>⟨zpk,zpD zO xi L,(xl (xl zC (zwu L m (by omega))) (zei L m (by omega))),zA0 L⟩
theorem zl7(L:Nat):FOk (xH rows) L 178 (zdJ za L) 4:=xC (D:=3) (by kernel_rfl) fun m hm=>⟨zip,zif zae L,(xl zC (zCk L m (by omega))),ztD L⟩
theorem ztK(L:Nat):FOk (xH rows) L 177 (ze0 ya L) 5:=xC (D:=4) (by kernel_rfl) fun m hm=>⟨zhr,zhB yP za L,(xl (xl zC (zvU L m (by omega))) (zl7 L m (by omega))),zs4 L⟩
theorem zCW(L:Nat):FOk (xH rows) L 140 (zkk yU L) 6:=xC (D:=5) (by kernel_rfl) fun m hm=>⟨yF,xF zb yb zc ya za L,(xl (xl (xl (xl (xl zC (zvt L m (by omega))) (zwn L m (by omega))) (zvm L m (by omega))) (ztK L m (by omega))) (zl7 L m (by omega))),zCG L⟩
theorem zEO(L:Nat):FOk (xH rows) L 179 (zqd za1 L) 1:=xC (D:=0) (by kernel_rfl) fun m hm=>⟨ztw,zto L,zC,zC5 L⟩
theorem zE2(L:Nat):FOk (xH rows) L 141 (zjo zQ L) 10:=xC (D:=9) (by kernel_rfl) fun m hm=>⟨zsT,zsq zac za1 L,(xl (xl zC (zHd L m (by omega))) (zEO L m (by omega))),zDm L⟩
theorem zE6(L:Nat):FOk (xH rows) L 180 (zqh za0 L) 1:=xC (D:=0) (by kernel_rfl) fun m hm=>⟨zta,zti L,zC,zDA L⟩
theorem zAJ(L:Nat):FOk (xH rows) L 142 (zim xN L) 7:=xC (D:=6) (by kernel_rfl) fun m hm=>⟨zn3,zot yU za0 L,(xl (xl zC (zCW L m (by omega))) (zE6 L m (by omega))),zzH L⟩
theorem zwh(L:Nat):FOk (xH rows) L 130 (zih zh L) 1:=xC (D:=0) (by kernel_rfl) fun m hm=>⟨zrd,zq1 L,zC,zBJ L⟩
theorem zzT(L:Nat):FOk (xH rows) L 181 (zkd yg L) 2:=xC (D:=1) (by kernel_rfl) fun m hm=>⟨zm3,zne zh L,(xl zC (zwh L m (by omega))),zyt L⟩
theorem zAN(L:Nat):FOk (xH rows) L 143 (zfP zD L) 3:=xC (D:=2) (by kernel_rfl) fun m hm=>⟨yE,xE zh yg L,(xl (xl zC (zwh L m (by omega))) (zzT L m (by omega))),zzI L⟩
theorem zCS(L:Nat):FOk (xH rows) L 145 (zn5 xk L) 1:=xC (D:=0) (by kernel_rfl) fun m hm=>⟨zb9,zb7 L,zC,zBa L⟩
theorem zG9(L:Nat):FOk (xH rows) L 127 (zqq zaN L) 2:=xC (D:=1) (by kernel_rfl) fun m hm=>⟨zaU,zaV xk L,(xl zC (zCS L m (by omega))),zFU L⟩
theorem zm2(L:Nat):FOk (xH rows) L 194 (zfR zr L) 1:=xC (D:=0) (by kernel_rfl) fun m hm=>⟨zbK,zbQ L,zC,zzM L⟩
theorem zo3(L:Nat):FOk (xH rows) L 159 (zfc xd L) 2:=xC (D:=1) (by kernel_rfl) fun m hm=>⟨zkH,zkg zr xi L,(xl (xl zC (zm2 L m (by omega))) (zei L m (by omega))),zwJ L⟩
theorem zn6(L:Nat):FOk (xH rows) L 185 (zeI zd L) 2:=xC (D:=1) (by kernel_rfl) fun m hm=>⟨zjN,zjw zr xi L,(xl (xl zC (zm2 L m (by omega))) (zei L m (by omega))),zwg L⟩
theorem zwU(L:Nat):FOk (xH rows) L 160 (zhl zV L) 2:=xC (D:=1) (by kernel_rfl) fun m hm=>⟨zjK,zjM xi L,(xl zC (zei L m (by omega))),zvG L⟩
theorem zB1(L:Nat):FOk (xH rows) L 138 (zmF xg L) 3:=xC (D:=2) (by kernel_rfl) fun m hm=>⟨zpr,zpz zV xd L,(xl (xl zC (zwU L m (by omega))) (zo3 L m (by omega))),zAn L⟩
theorem zxS(L:Nat):FOk (xH rows) L 206 (zhO xU L) 2:=xC (D:=1) (by kernel_rfl) fun m hm=>⟨zkW,zkv zr xi L,(xl (xl zC (zm2 L m (by omega))) (zei L m (by omega))),zwV L⟩
theorem znw(L:Nat):FOk (xH rows) L 187 (zec xc L) 3:=xC (D:=2) (by kernel_rfl) fun m hm=>⟨zi5,zi9 zd xi L,(xl (xl zC (zn6 L m (by omega))) (zei L m (by omega))),zup L⟩
theorem zEV(L:Nat):FOk (xH rows) L 186 (zpY xh L) 4:=xC (D:=3) (by kernel_rfl) fun m hm=>⟨zs3,ztA xU xc L,(xl (xl zC (zxS L m (by omega))) (znw L m (by omega))),zDf L⟩
theorem zsS(L:Nat):FOk (xH rows) L 149 (zit zg L) 5:=xC (D:=4) (by kernel_rfl) fun m hm=>⟨yB,zB xd zd xg xh xc L,(xl (xl (xl (xl (xl zC (zo3 L m (by omega))) (zn6 L m (by omega))) (zB1 L m (by omega))) (zEV L m (by omega))) (znw L m (by omega))),zzz L⟩
theorem zDF(L:Nat):FOk (xH rows) L 148 (zop zaA L) 6:=xC (D:=5) (by kernel_rfl) fun m hm=>⟨yM,xM zg L,(xl zC (zsS L m (by omega))),zB8 L⟩
theorem zAp(L:Nat):FOk (xH rows) L 129 (frD (zlt z7 L)) 7:=zMH (D:=6) (by rfl) (by kernel_rfl) fun m hm=>⟨znV,znL zaA zg L,(xl (xl zC (zDF L m (by omega))) (zsS L m (by omega))),zzP L⟩
theorem zyC(L:Nat):FOk (xH rows) L 124 (zjh zcH L) 11:=xC (D:=10) (by kernel_rfl) fun m hm=>⟨zlP,zlF xQ zaN z7 zQ xN zD L,(xl (xl (xl (xl (xl (xl zC (zCQ L m (by omega))) (zG9 L m (by omega))) (zAp L m (by omega))) (zE2 L m (by omega))) (zAJ L m (by omega))) (zAN L m (by omega))),zxM L⟩
end
section
set_option maxRecDepth 100000
variable {β:Type}
def Byt(l:List Int):Prop:=∀ x∈l,0≤x∧x≤255
def zoR(j:List Int)(i:Nat):Nat:=(j.getD i 0).toNat
theorem zpQ{j:List Int}(hb:Byt j)(i:Nat):zoR j i≤255∧j.getD i 0=((zoR j i:Nat):Int):=by
 have:0≤j.getD i 0∧j.getD i 0≤255:=by
  rw [Ws]
  by_cases hi:i<j.length
  ·rw [Wc hi]; exact hb _ (List.getElem_mem hi)
  ·rw [List.getElem?_eq_none (by omega)]; simp
 unfold zoR
 omega
def le(j:List Int)(a:Nat):Nat→Nat
 | 0=>0
 | n+1=>le j a n+zoR j (a+n)*256 ^ n
theorem ztS{j:List Int}(hb:Byt j)(a:Nat):∀ n,le j a n<256 ^ n
 | 0=>by simp [le]
 | n+1=>by
  have h1:=ztS hb a n
  have h2:=WG (256 ^ n) (zpQ hb (a+n)).1
  rw [le,Nat.pow_succ]
  omega
theorem zC7(j:List Int)(a:Nat):∀ n,le j a (n+1)=zoR j a+256*le j (a+1) n
 | 0=>by simp [le]
 | n+1=>by
  rw [le,zC7 j a n,le,Nat.pow_succ,show a+1+n=a+(n+1) by omega,Nat.mul_add]
  have:zoR j (a+(n+1))*(256 ^ n*256)=256*(zoR j (a+(n+1))*256 ^ n):=by
   rw [Nat.mul_comm (256 ^ n) 256,← Nat.mul_assoc,← Nat.mul_assoc,Nat.mul_comm 256]
  omega
theorem zGv(i:Nat):256 ^ i=2 ^ (8*i):=by rw [Nat.pow_mul]
theorem zD8(n x:Nat)(h:x<2 ^ n):(BitVec.ofInt n (x:Int)).toNat=x:=by
 rw [BitVec.toNat_ofInt,← Int.natCast_emod,XT,Nat.mod_eq_of_lt h]
theorem zJE{x n:Nat}(h:x<2 ^ n):((x:Nat):Int)<2 ^ n:=by
 have:((x:Nat):Int)<((2 ^ n:Nat):Int):=by omega
 rwa [Int.natCast_pow] at this
theorem zHz(kd:IntKind)(hk:kd.signed=false){a m y:Nat}(hy:y<2 ^ m)(hs:a*2 ^ m+y<2 ^ kd.bits):ior kd ((a*2 ^ m:Nat):Int) ((y:Nat):Int)=((a*2 ^ m+y:Nat):Int):=by
 unfold ior
 rw [BitVec.toNat_or,zD8 _ _ (by omega),zD8 _ _ (by omega),← Nat.shiftLeft_eq,← Nat.shiftLeft_add_eq_or_of_lt hy,Nat.shiftLeft_eq]
 exact zwr hk (by omega) (zJE hs)
theorem zJc(k:IntKind)(a b:Int):ior k a b=ior k b a:=by unfold ior; rw [BitVec.or_comm]
theorem zFQ(kd:IntKind)(hk:kd.signed=false){a m:Nat}(hm:m≤kd.bits)(hs:a*2 ^ m<2 ^ kd.bits):zq5 kd ((a:Nat):Int) ((m:Nat):Int)=((a*2 ^ m:Nat):Int):=by
 unfold zq5
 rw [XT,Nat.min_eq_left hm]
 have e:((a:Nat):Int)*2 ^ m=((a*2 ^ m:Nat):Int):=by rw [Int.natCast_mul,Int.natCast_pow]; rfl
 rw [e]
 exact zwr hk (by omega) (zJE hs)
theorem zuj(kd:IntKind)(hk:kd.signed=false){j:List Int}(hb:Byt j)(a i:Nat)(hi:8*i+8≤kd.bits):ior kd ((le j a i:Nat):Int) (zq5 kd (j.getD (a+i) 0) ((8*i:Nat):Int))=((le j a (i+1):Nat):Int):=by
 obtain ⟨b1,b2⟩:=zpQ hb (a+i)
 have h1:=ztS hb a i
 have hp:2 ^ (8*i+8)≤2 ^ kd.bits:=XU (by decide) hi
 have hq:2 ^ (8*i+8)=2 ^ (8*i)*256:=by rw [Nat.pow_add]
 have h2:=WG (2 ^ (8*i)) b1
 have h3:0<2 ^ (8*i):=Nat.pow_pos (by decide)
 rw [zGv] at h1
 rw [b2,zFQ kd hk (by omega) (by omega),zJc,zHz kd hk h1 (by omega),le,zGv,Nat.add_comm]
theorem zvy{l:List Int}{i:Nat}(h:i<l.length):(yk .u8 l)[i]?=some [.sc (.int .u8 (l.getD i 0))]:=by rw [zKX _ h]; simp [h]
theorem cI8(n:Int)(k:Int→Option β):cI .u8 [V.sc (.int .u8 n)] 0 k=k n:=zpf rfl k
theorem zvN(L:Nat)(j:List Int){a w:Nat}(ha:a≤j.length)(hj:j.length≤100000000)(hw:w≤100)(k:Int→Option β):zf β L (yk .u8 j) (a:Int) (w:Int) k=if a+w≤j.length then k 0 else k 1:=by
 unfold zf zol
 rw [xz (by omega),y7,xz (by omega),yH (by omega) (by omega),zk,zbc]
 by_cases h:a+w≤j.length
 ·rw [if_neg (by omega),if_pos h]
 ·rw [if_pos (by omega),if_neg h]
theorem zKZ(L:Nat)(j:List Int){a:Int}(w:Int)(ha:a<0∨a>(j.length:Int))(k:Int→Option β):zf β L (yk .u8 j) a w k=k 5:=by
 unfold zf zol
 by_cases h:a<0
 ·rw [zG h]
 ·rw [xz h,y7,zG (by omega)]
theorem zFH(L:Nat){j:List Int}(hb:Byt j)(hj:j.length≤100000000){a:Nat}(h:a+1≤j.length)(kx:Int→Int→Int→Option β):∀ (n i:Nat),i≤1→1-i<n →
  zcG zf L kx n (yk .u8 j) (a:Int) 1 ((le j a i:Nat):Int) 1 (i:Int)=kx a 1 ((le j a 1:Nat):Int)
 | 0,i,h1,h2=>by omega
 | n+1,i,h1,h2=>by
  rw [zcG]
  unfold zf1
  by_cases hi:i<1
  ·have w1:QF .i64 ((a:Int)+i)=((a+i:Nat):Int):=by rw [yH (by omega) (by omega)]; omega
   have w2:QF .i64 ((8:Int)*i)=((8*i:Nat):Int):=by rw [yH (by omega) (by omega)]; omega
   have hg:=zpQ hb (a+i)
   rw [zG (by omega),w1,zk,zbX (zvy (by omega)),cI8,w2,zk,zj (by omega),zk,zuj .u8 rfl hb a i (by show 8*i+8≤8; omega),zk,zaM (by omega),zk]
   exact zFH L hb hj h kx n (i+1) (by omega) (by omega)
  ·have hi:i=1:=by omega
   subst hi
   rw [xz (by omega)]
theorem zM7{L:Nat}(hL:20≤L){j:List Int}(hb:Byt j)(hj:j.length≤100000000){a:Nat}(ha:a≤j.length)(k:Int→Int→Int→Option β):zbf β L (yk .u8 j) (a:Int) k=if a+1≤j.length then k ((le j a 1:Nat):Int) ((a+1:Nat):Int) 0 else k 0 0 1:=by
 unfold zbf zxm yV zhj zkD
 rw [show (1:Int)=((1:Nat):Int) from rfl,zvN L j ha hj (by decide)]
 by_cases h:a+1≤j.length
 ·rw [if_pos h,if_pos h,xw,if_pos rfl]
  refine (zFH L hb hj h _ L 0 (by omega) (by omega)).trans ?_
  unfold ze2
  rw [yH (by omega) (by omega),zk]
  congr 1
 ·rw [if_neg h,if_neg h,xw,if_neg (by decide)]; rfl
theorem zEo(L:Nat){j:List Int}(hb:Byt j)(hj:j.length≤100000000){a:Nat}(h:a+2≤j.length)(kx:Int→Int→Int→Option β):∀ (n i:Nat),i≤2→2-i<n →
  zcy zf L kx n (yk .u8 j) (a:Int) 2 ((le j a i:Nat):Int) 2 (i:Int)=kx a 2 ((le j a 2:Nat):Int)
 | 0,i,h1,h2=>by omega
 | n+1,i,h1,h2=>by
  rw [zcy]
  unfold zfj
  by_cases hi:i<2
  ·have w1:QF .i64 ((a:Int)+i)=((a+i:Nat):Int):=by rw [yH (by omega) (by omega)]; omega
   have w2:QF .i64 ((8:Int)*i)=((8*i:Nat):Int):=by rw [yH (by omega) (by omega)]; omega
   have hg:=zpQ hb (a+i)
   rw [zG (by omega),w1,zk,zbX (zvy (by omega)),cI8,zKw (by omega) (by omega),zk,w2,zk,zj (by omega),zk,zuj .u16 rfl hb a i (by show 8*i+8≤16; omega),zk,zaM (by omega),zk]
   exact zEo L hb hj h kx n (i+1) (by omega) (by omega)
  ·have hi:i=2:=by omega
   subst hi
   rw [xz (by omega)]
theorem zMv{L:Nat}(hL:20≤L){j:List Int}(hb:Byt j)(hj:j.length≤100000000){a:Nat}(ha:a≤j.length)(k:Int→Int→Int→Option β):zaW β L (yk .u8 j) (a:Int) k=if a+2≤j.length then k ((le j a 2:Nat):Int) ((a+2:Nat):Int) 0 else k 0 0 1:=by
 unfold zaW zu4 xR zgH zjB
 rw [show (2:Int)=((2:Nat):Int) from rfl,zvN L j ha hj (by decide)]
 by_cases h:a+2≤j.length
 ·rw [if_pos h,if_pos h,xw,if_pos rfl]
  refine (zEo L hb hj h _ L 0 (by omega) (by omega)).trans ?_
  unfold zeN
  rw [yH (by omega) (by omega),zk]
  congr 1
 ·rw [if_neg h,if_neg h,xw,if_neg (by decide)]
theorem zD7(L:Nat){j:List Int}(hb:Byt j)(hj:j.length≤100000000){a:Nat}(h:a+4≤j.length)(kx:Int→Int→Int→Option β):∀ (n i:Nat),i≤4→4-i<n →
  zcr zf L kx n (yk .u8 j) (a:Int) 4 ((le j a i:Nat):Int) 4 (i:Int)=kx a 4 ((le j a 4:Nat):Int)
 | 0,i,h1,h2=>by omega
 | n+1,i,h1,h2=>by
  rw [zcr]
  unfold zfy
  by_cases hi:i<4
  ·have w1:QF .i64 ((a:Int)+i)=((a+i:Nat):Int):=by rw [yH (by omega) (by omega)]; omega
   have w2:QF .i64 ((8:Int)*i)=((8*i:Nat):Int):=by rw [yH (by omega) (by omega)]; omega
   have hg:=zpQ hb (a+i)
   rw [zG (by omega),w1,zk,zbX (zvy (by omega)),cI8,zAr (by omega) (by omega),zk,w2,zk,zj (by omega),zk,zuj .u32 rfl hb a i (by show 8*i+8≤32; omega),zk,zaM (by omega),zk]
   exact zD7 L hb hj h kx n (i+1) (by omega) (by omega)
  ·have hi:i=4:=by omega
   subst hi
   rw [xz (by omega)]
theorem zJZ{L:Nat}(hL:20≤L){j:List Int}(hb:Byt j)(hj:j.length≤100000000){a:Nat}(ha:a≤j.length)(k:Int→Int→Int→Option β):xP β L (yk .u8 j) (a:Int) k=if a+4≤j.length then k ((le j a 4:Nat):Int) ((a+4:Nat):Int) 0 else k 0 0 1:=by
 unfold xP zpT zP zeh zgq
 rw [show (4:Int)=((4:Nat):Int) from rfl,zvN L j ha hj (by decide)]
 by_cases h:a+4≤j.length
 ·rw [if_pos h,if_pos h,xw,if_pos rfl]
  refine (zD7 L hb hj h _ L 0 (by omega) (by omega)).trans ?_
  unfold zeH
  rw [yH (by omega) (by omega),zk]
  congr 1
 ·rw [if_neg h,if_neg h,xw,if_neg (by decide)]
theorem zDS(L:Nat){j:List Int}(hb:Byt j)(hj:j.length≤100000000){a:Nat}(h:a+8≤j.length)(kx:Int→Int→Int→Option β):∀ (n i:Nat),i≤8→8-i<n →
  zcv zf L kx n (yk .u8 j) (a:Int) 8 ((le j a i:Nat):Int) 8 (i:Int)=kx a 8 ((le j a 8:Nat):Int)
 | 0,i,h1,h2=>by omega
 | n+1,i,h1,h2=>by
  rw [zcv]
  unfold zfi
  by_cases hi:i<8
  ·have w1:QF .i64 ((a:Int)+i)=((a+i:Nat):Int):=by rw [yH (by omega) (by omega)]; omega
   have w2:QF .i64 ((8:Int)*i)=((8*i:Nat):Int):=by rw [yH (by omega) (by omega)]; omega
   have hg:=zpQ hb (a+i)
   rw [zG (by omega),w1,zk,zbX (zvy (by omega)),cI8,zbY (by omega) (by omega),zk,w2,zk,zj (by omega),zk,zuj .u64 rfl hb a i (by show 8*i+8≤64; omega),zk,zaM (by omega),zk]
   exact zDS L hb hj h kx n (i+1) (by omega) (by omega)
  ·have hi:i=8:=by omega
   subst hi
   rw [xz (by omega)]
theorem zJF{L:Nat}(hL:20≤L){j:List Int}(hb:Byt j)(hj:j.length≤100000000){a:Nat}(ha:a≤j.length)(k:Int→Int→Int→Option β):yT β L (yk .u8 j) (a:Int) k=if a+8≤j.length then k ((le j a 8:Nat):Int) ((a+8:Nat):Int) 0 else k 0 0 1:=by
 unfold yT zuC yR zgF zjA
 rw [show (8:Int)=((8:Nat):Int) from rfl,zvN L j ha hj (by decide)]
 by_cases h:a+8≤j.length
 ·rw [if_pos h,if_pos h,xw,if_pos rfl]
  refine (zDS L hb hj h _ L 0 (by omega) (by omega)).trans ?_
  unfold zeM
  rw [yH (by omega) (by omega),zk]
  congr 1
 ·rw [if_neg h,if_neg h,xw,if_neg (by decide)]
theorem zMf(L:Nat)(j:List Int){a:Int}(ha:a<0∨a>(j.length:Int))(k:Int→Int→Int→Option β):xP β L (yk .u8 j) a k=k 0 0 5:=by
 unfold xP zpT zP zeh zgq
 rw [zKZ L j _ ha,xw,if_neg (by decide)]
theorem zFt(L:Nat){j:List Int}(hb:Byt j)(hj:j.length≤100000000){a w:Nat}(hw:w≤8)(h:a+w≤j.length)(kx:Int→Int→Int→Option β):∀ (n i:Nat),i≤w→i<n →
  zcz L kx n (yk .u8 j) (a:Int) (w:Int) ((le j (a+i) (w-i):Nat):Int) ((i:Int)-1)=kx a w ((le j a w:Nat):Int)
 | 0,i,h1,h2=>by omega
 | n+1,0,h1,h2=>by
  rw [zcz]
  unfold zeX
  rw [xz (by omega)]; rfl
 | n+1,i+1,h1,h2=>by
  have e0:((i+1:Nat):Int)-1=(i:Int):=by omega
  have w1:QF .i64 ((a:Int)+i)=((a+i:Nat):Int):=by rw [yH (by omega) (by omega)]; omega
  have w3:QF .i64 ((i:Int)-1)=(i:Int)-1:=yH (by omega) (by omega)
  have hl:=ztS hb (a+(i+1)) (w-(i+1))
  have hp:256 ^ (w-(i+1))≤256 ^ 7:=XU (by decide) (by omega)
  have hg:=zpQ hb (a+i)
  have e1:le j (a+i) (w-i)=le j (a+(i+1)) (w-(i+1))*2 ^ 8+zoR j (a+i):=by
   rw [show w-i=(w-(i+1))+1 by omega,zC7,show a+i+1=a+(i+1) by omega]; omega
  have hx:le j (a+(i+1)) (w-(i+1))*2 ^ 8+zoR j (a+i)<2 ^ (IntKind.bits .u64):=by
   show _<2 ^ 64
   have:(256:Nat) ^ 7=72057594037927936:=by decide
   have:(2:Nat) ^ 64=18446744073709551616:=by decide
   omega
  rw [zcz]
  unfold zeX
  rw [e0,zG (by omega),show (8:Int)=((8:Nat):Int) from rfl,zFQ .u64 rfl (by decide) (by omega),zk,w1,zk,zbX (zvy (by omega)),cI8,zbY (by omega) (by omega),zk,hg.2,zHz .u64 rfl (by omega) hx,zk,w3,zk,← e1]
  exact zFt L hb hj hw h kx n i (by omega) (by omega)
theorem zvY{L:Nat}(hL:20≤L){j:List Int}(hb:Byt j)(hj:j.length≤100000000){a w:Nat}(ha:a≤j.length)(hw:w≤8)(k:Int→Int→Int→Option β):yw β L (yk .u8 j) (a:Int) (w:Int) k=if a+w≤j.length then k ((le j a w:Nat):Int) ((a+w:Nat):Int) 0 else k 0 0 1:=by
 unfold yw zlo zpg
 rw [xz (by omega),y7,xz (by omega),yH (by omega) (by omega),zk]
 by_cases h:a+w≤j.length
 ·rw [if_pos h,xz (by omega),yH (by omega) (by omega),zk]
  have key:=zFt L hb hj hw h (fun p1 p2 p9=>zd8 L p1 p2 p9 k) L w (Nat.le_refl _) (by omega)
  rw [Nat.sub_self] at key
  refine key.trans ?_
  unfold zd8
  rw [yH (by omega) (by omega),zk]
  congr 1
 ·rw [if_neg h,zG (by omega)]
theorem zLG{L:Nat}(hL:20≤L){j:List Int}(hb:Byt j)(hj:j.length≤100000000){a:Nat}(ha:a≤j.length)(k:Int→Int→Int→Option β):zaZ β L (yk .u8 j) (a:Int) k=if a+4≤j.length then k ((le j a 4:Nat):Int) ((a+4:Nat):Int) 0 else k 0 0 1:=by
 unfold zaZ zuY
 rw [show (4:Int)=((4:Nat):Int) from rfl,zvY hL hb hj ha (by decide)]
 have h4:=ztS hb a 4
 have:(256:Nat) ^ 4=4294967296:=by decide
 by_cases h:a+4≤j.length
 ·rw [if_pos h,if_pos h,zAr (by omega) (by omega),zk]
 ·rw [if_neg h,if_neg h,zAr (by decide) (by decide),zk]
theorem zL7{L:Nat}(hL:20≤L){j:List Int}(hb:Byt j)(hj:j.length≤100000000){a:Nat}(ha:a≤j.length)(k:Int→Int→Int→Option β):zaX β L (yk .u8 j) (a:Int) k=if a+8≤j.length then k ((le j a 8:Nat):Int) ((a+8:Nat):Int) 0 else k 0 0 1:=by
 unfold zaX zuU
 rw [show (8:Int)=((8:Nat):Int) from rfl,zvY hL hb hj ha (by decide)]
end
section
set_option maxRecDepth 100000
variable {β:Type}
def zdZ{α:Type}(r:Except Int (α × Nat))(k:α→Nat→Option β)(b:Int→Option β):Option β:=match r with
 | .ok (v,a)=>k v a
 | .error e=>b e
theorem zaa{α:Type}(v:α)(a:Nat)(k:α→Nat→Option β)(b:Int→Option β):zdZ (.ok (v,a)) k b=k v a:=rfl
theorem y9{α:Type}(e:Int)(k:α→Nat→Option β)(b:Int→Option β):zdZ (.error e) k b=b e:=rfl
def gN(j:List Int)(w a:Nat):Except Int (Nat × Nat):=if a+w≤j.length then .ok (le j a w,a+w) else .error 1
theorem zCF(j:List Int)(w a:Nat)(k:Nat→Nat→Option β)(b:Int→Option β):zdZ (gN j w a) k b=if a+w≤j.length then k (le j a w) (a+w) else b 1:=by
 unfold gN; split <;> rfl
def zst(j:List Int)(w lo most a:Nat):Except Int (Nat × Nat):=if a+w≤j.length then (if le j a w<lo then .error 3 else if le j a w>most then .error 4 else .ok (le j a w,a+w)) else .error 1
def zbP(j:List Int)(most a:Nat):Except Int (Nat × Nat):=if a+1≤j.length then
  (if le j a 1<253 then (if le j a 1>most then .error 4 else .ok (le j a 1,a+1))
  else if le j a 1=253 then zst j 2 253 most (a+1) else if le j a 1=254 then zst j 4 65536 most (a+1) else zst j 8 4294967296 most (a+1))
 else .error 1
theorem zpe(j:List Int)(w lo most a:Nat)(k:Nat→Nat→Option β)(b:Int→Option β):zdZ (zst j w lo most a) k b=if a+w≤j.length then (if le j a w<lo then b 3 else if le j a w>most then b 4 else k (le j a w) (a+w)) else b 1:=by
 unfold zst; (repeat' split) <;> rfl
theorem lt1{j:List Int}(hb:Byt j)(a:Nat):le j a 1<256:=ztS hb a 1
theorem lt2{j:List Int}(hb:Byt j)(a:Nat):le j a 2<65536:=ztS hb a 2
theorem lt4{j:List Int}(hb:Byt j)(a:Nat):le j a 4<4294967296:=ztS hb a 4
theorem lt8{j:List Int}(hb:Byt j)(a:Nat):le j a 8<18446744073709551616:=ztS hb a 8
theorem zHh{L:Nat}(hL:20≤L){j:List Int}(hb:Byt j)(hj:j.length≤100000000){a:Nat}(most:Nat)(ha:a≤j.length)(k:Int→Int→Int→Option β):xO β L (yk .u8 j) (a:Int) (most:Int) k=zdZ (zbP j most a) (fun v a'=>k (v:Int) (a':Int) 0) (fun e=>k 0 0 e):=by
 have h1:=lt1 hb a
 unfold xO zsN
 rw [zM7 hL hb hj ha]
 unfold zbP
 by_cases h:a+1≤j.length
 ·rw [if_pos h,if_pos h]
  try dsimp only
  rw [xw,if_pos rfl,zbY (by omega) (by omega),zk]
  rcases (by omega:le j a 1<253∨le j a 1=253∨le j a 1=254∨le j a 1=255) with hc | hc | hc | hc
  ·rw [zag (by omega),zag (by omega),zag (by omega),xw,if_pos rfl,xz (by omega),zbc,if_pos hc]
   by_cases hm:le j a 1>most
   ·rw [if_pos (by omega),if_pos hm]; rfl
   ·rw [if_neg (by omega),if_neg hm]; rfl
  ·have h2:=lt2 hb (a+1)
   rw [if_neg (by omega),if_pos hc,zpe,zaJ (by omega),zMv hL hb hj h]
   by_cases h3:a+1+2≤j.length
   ·rw [if_pos h3,if_pos h3]
    try dsimp only
    rw [zbY (by omega) (by omega),zk,xw,if_pos rfl,zbc,zbc]
    by_cases h4:le j (a+1) 2<253
    ·rw [if_pos (by omega),if_pos h4]
    ·rw [if_neg (by omega),if_neg h4]
     by_cases h5:le j (a+1) 2>most
     ·rw [if_pos (by omega),if_pos h5]
     ·rw [if_neg (by omega),if_neg h5]
   ·rw [if_neg h3,if_neg h3]
    try dsimp only
    rw [zbY (by decide) (by decide),zk,xw,if_neg (by decide)]
  ·have h2:=lt4 hb (a+1)
   rw [if_neg (by omega),if_neg (by omega),if_pos hc,zpe,zag (by omega),zaJ (by omega),zJZ hL hb hj h]
   by_cases h3:a+1+4≤j.length
   ·rw [if_pos h3,if_pos h3]
    try dsimp only
    rw [zbY (by omega) (by omega),zk,xw,if_pos rfl,zbc,zbc]
    by_cases h4:le j (a+1) 4<65536
    ·rw [if_pos (by omega),if_pos h4]
    ·rw [if_neg (by omega),if_neg h4]
     by_cases h5:le j (a+1) 4>most
     ·rw [if_pos (by omega),if_pos h5]
     ·rw [if_neg (by omega),if_neg h5]
   ·rw [if_neg h3,if_neg h3]
    try dsimp only
    rw [zbY (by decide) (by decide),zk,xw,if_neg (by decide)]
  ·have h2:=lt8 hb (a+1)
   rw [if_neg (by omega),if_neg (by omega),if_neg (by omega),zpe,zag (by omega),zag (by omega),zaJ (by omega),zJF hL hb hj h]
   by_cases h3:a+1+8≤j.length
   ·rw [if_pos h3,if_pos h3]
    try dsimp only
    rw [xw,if_pos rfl,zbc,zbc]
    by_cases h4:le j (a+1) 8<4294967296
    ·rw [if_pos (by omega),if_pos h4]
    ·rw [if_neg (by omega),if_neg h4]
     by_cases h5:le j (a+1) 8>most
     ·rw [if_pos (by omega),if_pos h5]
     ·rw [if_neg (by omega),if_neg h5]
   ·rw [if_neg h3,if_neg h3]
    try dsimp only
    rw [xw,if_neg (by decide)]
 ·rw [if_neg h,if_neg h]
  try dsimp only
  rw [xw,if_neg (by decide)]
  rfl
theorem zFC{L:Nat}(hL:20≤L){j:List Int}(hb:Byt j)(hj:j.length≤100000000){a:Nat}(most:Nat)(ha:a≤j.length)(k:Int→Int→Int→Option β):zO β L (yk .u8 j) (a:Int) (most:Int) k=zdZ (zbP j most a) (fun v a'=>k (v:Int) (a':Int) 0) (fun e=>k 0 0 e):=by
 have h1:=lt1 hb a
 unfold zO zs6
 refine (zvY hL hb hj ha (w:=1) (by decide) _).trans ?_
 unfold zbP
 by_cases h:a+1≤j.length
 ·rw [if_pos h,if_pos h]
  try dsimp only
  rw [xw,if_pos rfl]
  rcases (by omega:le j a 1<253∨le j a 1=253∨le j a 1=254∨le j a 1=255) with hc | hc | hc | hc
  ·rw [xz (by omega),zbc,if_pos hc]
   by_cases hm:le j a 1>most
   ·rw [if_pos (by omega),if_pos hm]; rfl
   ·rw [if_neg (by omega),if_neg hm]; rfl
  ·have h2:=lt2 hb (a+1)
   rw [if_neg (by omega),if_pos hc,zpe,zG (by omega),show QF .u64 (((le j a 1:Nat):Int)-253)=0 by rw [hc]; decide,zk,zj (by decide),show zq5 .i64 (2:Int) 0=((2:Nat):Int) by decide,zk,zvY hL hb hj h (by decide)]
   by_cases h3:a+1+2≤j.length
   ·rw [if_pos h3,if_pos h3]
    try dsimp only
    rw [xw,if_pos rfl,zaJ (by omega),zbc]
    by_cases h4:le j (a+1) 2<253
    ·rw [if_pos (by omega),if_pos h4]
    ·rw [if_neg (by omega),if_neg h4,zag (by omega),zag (by omega),zbc]
     by_cases h5:le j (a+1) 2>most
     ·rw [if_pos (by omega),if_pos h5]
     ·rw [if_neg (by omega),if_neg h5]
   ·rw [if_neg h3,if_neg h3]
    try dsimp only
    rw [xw,if_neg (by decide)]
  ·have h2:=lt4 hb (a+1)
   rw [if_neg (by omega),if_neg (by omega),if_pos hc,zpe,zG (by omega),show QF .u64 (((le j a 1:Nat):Int)-253)=1 by rw [hc]; decide,zk,zj (by decide),show zq5 .i64 (2:Int) 1=((4:Nat):Int) by decide,zk,zvY hL hb hj h (by decide)]
   by_cases h3:a+1+4≤j.length
   ·rw [if_pos h3,if_pos h3]
    try dsimp only
    rw [xw,if_pos rfl,zag (by omega),zaJ (by omega),zbc]
    by_cases h4:le j (a+1) 4<65536
    ·rw [if_pos (by omega),if_pos h4]
    ·rw [if_neg (by omega),if_neg h4,zag (by omega),zbc]
     by_cases h5:le j (a+1) 4>most
     ·rw [if_pos (by omega),if_pos h5]
     ·rw [if_neg (by omega),if_neg h5]
   ·rw [if_neg h3,if_neg h3]
    try dsimp only
    rw [xw,if_neg (by decide)]
  ·have h2:=lt8 hb (a+1)
   rw [if_neg (by omega),if_neg (by omega),if_neg (by omega),zpe,zG (by omega),show QF .u64 (((le j a 1:Nat):Int)-253)=2 by rw [hc]; decide,zk,zj (by decide),show zq5 .i64 (2:Int) 2=((8:Nat):Int) by decide,zk,zvY hL hb hj h (by decide)]
   by_cases h3:a+1+8≤j.length
   ·rw [if_pos h3,if_pos h3]
    try dsimp only
    rw [xw,if_pos rfl,zag (by omega),zag (by omega),zaJ (by omega),zbc]
    by_cases h4:le j (a+1) 8<4294967296
    ·rw [if_pos (by omega),if_pos h4]
    ·rw [if_neg (by omega),if_neg h4,zbc]
     by_cases h5:le j (a+1) 8>most
     ·rw [if_pos (by omega),if_pos h5]
     ·rw [if_neg (by omega),if_neg h5]
   ·rw [if_neg h3,if_neg h3]
    try dsimp only
    rw [xw,if_neg (by decide)]
 ·rw [if_neg h,if_neg h]
  try dsimp only
  rw [xw,if_neg (by decide)]
  rfl
end
section
def zak(w:List (List Int)):List (List V):=w.map fun b=>[V.sl 1 (yk .u8 b)]
structure Inp where
 pv:List Int
 seq:Int
 wit:List (List Int)
structure Outp where
 val:Int
 scr:List Int
structure TxT where
 ver:Int
 ins:List Inp
 outs:List Outp
 lock:Int
def zbh(x:Inp):List V:=[V.sc (.int .u8 (x.pv.getD 0 0)),V.sc (.int .u8 (x.pv.getD 1 0)),V.sc (.int .u8 (x.pv.getD 2 0)),V.sc (.int .u8 (x.pv.getD 3 0)),V.sc (.int .u8 (x.pv.getD 4 0)),V.sc (.int .u8 (x.pv.getD 5 0)),V.sc (.int .u8 (x.pv.getD 6 0)),V.sc (.int .u8 (x.pv.getD 7 0)),V.sc (.int .u8 (x.pv.getD 8 0)),V.sc (.int .u8 (x.pv.getD 9 0)),V.sc (.int .u8 (x.pv.getD 10 0)),V.sc (.int .u8 (x.pv.getD 11 0)),V.sc (.int .u8 (x.pv.getD 12 0)),V.sc (.int .u8 (x.pv.getD 13 0)),V.sc (.int .u8 (x.pv.getD 14 0)),V.sc (.int .u8 (x.pv.getD 15 0)),V.sc (.int .u8 (x.pv.getD 16 0)),V.sc (.int .u8 (x.pv.getD 17 0)),V.sc (.int .u8 (x.pv.getD 18 0)),V.sc (.int .u8 (x.pv.getD 19 0)),V.sc (.int .u8 (x.pv.getD 20 0)),V.sc (.int .u8 (x.pv.getD 21 0)),V.sc (.int .u8 (x.pv.getD 22 0)),V.sc (.int .u8 (x.pv.getD 23 0)),V.sc (.int .u8 (x.pv.getD 24 0)),V.sc (.int .u8 (x.pv.getD 25 0)),V.sc (.int .u8 (x.pv.getD 26 0)),V.sc (.int .u8 (x.pv.getD 27 0)),V.sc (.int .u8 (x.pv.getD 28 0)),V.sc (.int .u8 (x.pv.getD 29 0)),V.sc (.int .u8 (x.pv.getD 30 0)),V.sc (.int .u8 (x.pv.getD 31 0)),V.sc (.int .u32 (x.pv.getD 32 0)),V.sc (.int .u32 x.seq),V.sl 1 (zak x.wit)]
def zaL(o:Outp):List V:=[V.sc (.int .i64 o.val),V.sl 1 (yk .u8 o.scr)]
def zbR(t:TxT):List V:=[V.sc (.int .u32 t.ver),V.sl 35 (t.ins.map zbh),V.sl 2 (t.outs.map zaL),V.sc (.int .u32 t.lock)]
section
variable {β:Type}
theorem zm0(x:Inp)(k:Int→Option β):cI .u32 (zbh x) 33 k=k x.seq:=zpf rfl k
theorem zwc(x:Outp)(k:Int→Option β):cI .i64 (zaL x) 0 k=k x.val:=zpf rfl k
theorem zvA(x:TxT)(k:Int→Option β):cI .u32 (zbR x) 0 k=k x.ver:=zpf rfl k
theorem zpA(x:TxT)(k:Int→Option β):cI .u32 (zbR x) 3 k=k x.lock:=zpf rfl k
end
theorem znd(x:Inp):(zbh x).length=35:=by simp [zbh]
theorem zkZ(x:Inp):XN 35 (zbh x)=zbh x:=by simp [zbh]
theorem zpw(x:Outp):(zaL x).length=2:=by simp [zaL]
theorem ztP(x:Outp):XN 2 (zaL x)=zaL x:=by simp [zaL]
theorem zhv(x:TxT):(zbR x).length=4:=by simp [zbR]
theorem zGn(x:TxT):[V.sc (.int .u32 x.ver),V.sl 35 (x.ins.map zbh),V.sl 2 (x.outs.map zaL),V.sc (.int .u32 x.lock)]=zbR x:=(by simp [zbR])
def zDj(l:List Int):Prop:=∀ n∈l,0≤n∧n≤255
structure InpOk (x:Inp):Prop where
 pv:x.pv.length=33
 by_:∀ j,j<32→0≤x.pv.getD j 0∧x.pv.getD j 0≤255
 ix:0≤x.pv.getD 32 0∧x.pv.getD 32 0≤4294967295
 seq:0≤x.seq∧x.seq≤4294967295
 wit:∀ b∈x.wit,zDj b∧b.length≤maxLen
 wl:x.wit.length≤maxLen
structure OutpOk (x:Outp):Prop where
 val:-9223372036854775808≤x.val∧x.val≤9223372036854775807
 scr:zDj x.scr
 sl:x.scr.length≤maxLen
structure TxOk (t:TxT):Prop where
 ver:0≤t.ver∧t.ver≤4294967295
 lock:0≤t.lock∧t.lock≤4294967295
 ins:∀ x∈t.ins,InpOk x
 outs:∀ x∈t.outs,OutpOk x
 il:t.ins.length≤maxLen
 ol:t.outs.length≤maxLen
theorem HasRow.tail{ct:CT}{cts:List CT}{vs:List V}(h:HasRow (ct::cts) vs):∃ v r,vs=v::r∧HasC ct v∧HasRow cts r:=by
 cases vs with
 | nil=>have:=h.1; simp at this
 | cons v r=>exact ⟨v,r,rfl,h.2 0 v ct rfl rfl,⟨by simpa using h.1,fun i c ct hc hct=>h.2 (i+1) c ct (by simpa using hc) (by simpa using hct)⟩⟩
theorem HasRow.nil{vs:List V}(h:HasRow [] vs):vs=[]:=List.length_eq_zero_iff.1 (by simpa using h.1)
theorem zFJ:∀ {es:List (List V)},(∀ e∈es,HasRow [.sl [.int .u8]] e)→∃ w:List (List Int),es=zak w∧∀ b∈w,zDj b∧b.length≤maxLen
 | [],_=>⟨[],rfl,by simp⟩
 | e::es,h=>by
  obtain ⟨v,r,rfl,h1,h2⟩:=(h e (by simp)).tail
  obtain rfl:=h2.nil
  obtain ⟨xs,rfl,hl,hx⟩:=h1.sl_inv
  obtain ⟨l,rfl,hw⟩:=zCT hx
  obtain ⟨w,rfl,hw'⟩:=zFJ (es:=es) (fun x hx=>h x (by simp [hx]))
  refine ⟨l::w,rfl,fun b hb=>?_⟩
  rcases Q8.1 hb with rfl | hb
  ·exact ⟨fun n hn=>zE9 (hw n hn),by simpa [yk] using hl⟩
  ·exact hw' b hb
theorem zHv:∀ {es:List (List V)},(∀ e∈es,HasRow [.int .i64,.sl [.int .u8]] e)→∃ w:List Outp,es=w.map zaL∧∀ b∈w,OutpOk b
 | [],_=>⟨[],rfl,by simp⟩
 | e::es,h=>by
  obtain ⟨v,r,rfl,h1,h2⟩:=(h e (by simp)).tail
  obtain ⟨v2,r2,rfl,h3,h4⟩:=h2.tail
  obtain rfl:=h4.nil
  obtain ⟨n,rfl,hn⟩:=h1.int_inv
  obtain ⟨xs,rfl,hl,hx⟩:=h3.sl_inv
  obtain ⟨l,rfl,hw⟩:=zCT hx
  obtain ⟨w,rfl,hw'⟩:=zHv (es:=es) (fun x hx=>h x (by simp [hx]))
  refine ⟨⟨n,l⟩::w,rfl,fun b hb=>?_⟩
  rcases Q8.1 hb with rfl | hb
  ·exact ⟨zMK hn,fun n hn=>zE9 (hw n hn),by simpa [yk] using hl⟩
  ·exact hw' b hb
theorem zIG{a b:List CT}{vs:List V}(h:HasRow (a++b) vs):∃ r s,vs=r++s∧HasRow a r∧HasRow b s:=by
 refine ⟨vs.take a.length,vs.drop a.length,(List.take_append_drop _ _).symm,⟨?_,fun i c ct hc hct=>?_⟩,⟨?_,fun i c ct hc hct=>?_⟩⟩
 ·have:=h.1; simp at this ⊢; omega
 ·have hi:i<a.length:=(List.getElem?_eq_some_iff.1 hct).1
  refine h.2 i c ct ?_ (by rw [Wv hi]; exact hct)
  rw [List.getElem?_take,if_pos hi] at hc; exact hc
 ·have:=h.1; simp at this ⊢; omega
 ·refine h.2 (a.length+i) c ct (by rw [List.getElem?_drop] at hc; exact hc) ?_
  rw [Wt (by omega)]; simpa using hct
theorem zGU{l:List Int}(hl:l.length=32)(i s:Int)(w:List (List Int)):row .u8 l++[V.sc (.int .u32 i),V.sc (.int .u32 s),V.sl 1 (zak w)]=zbh ⟨l++[i],s,w⟩:=by
 match l,hl with
 | [x0,x1,x2,x3,x4,x5,x6,x7,x8,x9,x10,x11,x12,x13,x14,x15,x16,x17,x18,x19,x20,x21,x22,x23,x24,x25,x26,x27,x28,x29,x30,x31],_=>rfl
theorem zJ1:∀ {es:List (List V)},(∀ e∈es,HasRow (We 32 (.int .u8)++[.int .u32,.int .u32,.sl [.sl [.int .u8]]]) e)→∃ w:List Inp,es=w.map zbh∧∀ b∈w,InpOk b
 | [],_=>⟨[],rfl,by simp⟩
 | e::es,h=>by
  obtain ⟨r,s,rfl,h1,h2⟩:=zIG (h e (by simp))
  obtain ⟨l,rfl,hl,hw⟩:=zJW h1
  obtain ⟨v1,r1,rfl,g1,h2⟩:=h2.tail
  obtain ⟨v2,r2,rfl,g2,h2⟩:=h2.tail
  obtain ⟨v3,r3,rfl,g3,h2⟩:=h2.tail
  obtain rfl:=h2.nil
  obtain ⟨i,rfl,hi⟩:=g1.int_inv
  obtain ⟨q,rfl,hq⟩:=g2.int_inv
  obtain ⟨xs,rfl,hxl,hx⟩:=g3.sl_inv
  obtain ⟨wt,rfl,hwt⟩:=zFJ hx
  obtain ⟨w,rfl,hw'⟩:=zJ1 (es:=es) (fun x hx=>h x (by simp [hx]))
  refine ⟨⟨l++[i],q,wt⟩::w,by rw [List.map_cons,← zGU hl]; rfl,fun b hb=>?_⟩
  rcases Q8.1 hb with rfl | hb
  ·refine ⟨by simp [hl],fun j hj=>?_,?_,zB3 hq,hwt,by simpa [zak] using hxl⟩
   ·have:(l++[i]).getD j 0=l[j]'(by omega):=by
     rw [Ws,Wv (by omega),Wc (by omega)]; rfl
    show 0≤(l++[i]).getD j 0∧(l++[i]).getD j 0≤255
    rw [this]; exact zE9 (hw _ (List.getElem_mem _))
   ·have:(l++[i]).getD 32 0=i:=by
     rw [Ws,Wt (by omega),hl]; rfl
    show 0≤(l++[i]).getD 32 0∧(l++[i]).getD 32 0≤4294967295
    rw [this]; exact zB3 hi
  ·exact hw' b hb
theorem zM4{a:List V}(h:HasRow ([.int .u32]++[.sl (We 32 (.int .u8)++We 2 (.int .u32)++[.sl ([.sl ([.int .u8])])])]++[.sl ([.int .i64]++[.sl ([.int .u8])])]++[.int .u32]) a):∃ t,a=zbR t∧TxOk t:=by
 obtain ⟨v1,r1,rfl,g1,h⟩:=h.tail
 obtain ⟨v2,r2,rfl,g2,h⟩:=h.tail
 obtain ⟨v3,r3,rfl,g3,h⟩:=h.tail
 obtain ⟨v4,r4,rfl,g4,h⟩:=h.tail
 obtain rfl:=h.nil
 obtain ⟨n,rfl,hn⟩:=g1.int_inv
 obtain ⟨m,rfl,hm⟩:=g4.int_inv
 obtain ⟨xs,rfl,hxl,hx⟩:=g2.sl_inv
 obtain ⟨ys,rfl,hyl,hy⟩:=g3.sl_inv
 obtain ⟨is,rfl,his⟩:=zJ1 (fun e he=>by
  have:=hx e he
  rw [List.append_assoc] at this
  exact this)
 obtain ⟨os,rfl,hos⟩:=zHv (fun e he=>hy e he)
 exact ⟨⟨n,is,os,m⟩,rfl,⟨zB3 hn,zB3 hm,his,hos,by simpa using hxl,by simpa using hyl⟩⟩
end
section
set_option maxRecDepth 100000
variable {β:Type}
theorem zDE{j:List Int}{w lo most a n a1:Nat}(h:zst j w lo most a=.ok (n,a1)):a1≤j.length∧n≤most:=by
 unfold zst at h
 split at h
 ·split at h
  ·cases h
  ·split at h
   ·cases h
   ·cases h; omega
 ·cases h
theorem zC2{j:List Int}{w lo most a:Nat}{e:Int}(h:zst j w lo most a=.error e):e≠0:=by
 unfold zst at h
 split at h
 ·split at h
  ·cases h; decide
  ·split at h
   ·cases h; decide
   ·cases h
 ·cases h; decide
theorem zcV{j:List Int}{most a n a1:Nat}(h:zbP j most a=.ok (n,a1)):a1≤j.length∧n≤most:=by
 unfold zbP at h
 split at h
 ·split at h
  ·split at h
   ·cases h
   ·cases h; omega
  ·split at h
   ·exact zDE h
   ·split at h
    ·exact zDE h
    ·exact zDE h
 ·cases h
theorem zhC{j:List Int}{most a:Nat}{e:Int}(h:zbP j most a=.error e):e≠0:=by
 unfold zbP at h
 split at h
 ·split at h
  ·split at h
   ·cases h; decide
   ·cases h
  ·split at h
   ·exact zC2 h
   ·split at h
    ·exact zC2 h
    ·exact zC2 h
 ·cases h; decide
theorem zhU{j:List Int}{w a n a1:Nat}(h:gN j w a=.ok (n,a1)):a1≤j.length:=by
 unfold gN at h
 split at h
 ·cases h; assumption
 ·cases h
theorem zp2{j:List Int}{w a:Nat}{e:Int}(h:gN j w a=.error e):e≠0:=by
 unfold gN at h
 split at h
 ·cases h
 ·cases h; decide
def zhN(j:List Int)(a:Nat):Except Int (List Int × Nat):=if a+32≤j.length then .ok ((j.drop a).take 32,a+32) else .error 1
def zc7(j:List Int)(most a:Nat):Except Int (List Int × Nat):=match zbP j most a with
 | .error e=>.error e
 | .ok (n,a1)=>if a1+n≤j.length then .ok ((j.drop a1).take n,a1+n) else .error 1
theorem zs2{j h:List Int}{a a1:Nat}(hh:zhN j a=.ok (h,a1)):a1≤j.length∧h.length=32:=by
 unfold zhN at hh
 split at hh
 ·cases hh; rw [Ww,XS]; omega
 ·cases hh
theorem zAl{j:List Int}{a:Nat}{e:Int}(h:zhN j a=.error e):e≠0:=by
 unfold zhN at h
 split at h
 ·cases h
 ·cases h; decide
theorem zqt{j h:List Int}{most a a1:Nat}(hh:zc7 j most a=.ok (h,a1)):a1≤j.length∧h.length≤most:=by
 unfold zc7 at hh
 split at hh
 ·cases hh
 ·rename_i n a2 hz
  have:=zcV hz
  split at hh
  ·cases hh; rw [Ww,XS]; omega
  ·cases hh
theorem zqA{j:List Int}{most a:Nat}{e:Int}(h:zc7 j most a=.error e):e≠0:=by
 unfold zc7 at h
 split at h
 ·rename_i e' hz; cases h; exact zhC hz
 ·split at h
  ·cases h
  ·cases h; decide
theorem zIR(L:Nat){x:List Int}(hx:x.length≤100000000)(k:List (List V)→Option β):zi β L (yk .u8 x) ([]:List (List V)) k=k (yk .u8 x):=by
 unfold zi zpG
 have hs:(100000000:Nat)≤yn:=by decide
 rw [y7,yH (by simp <;> omega) (by simp <;> omega),zk,zj (by simp; omega),zj (by simp [y7]; omega),zk,zj (by simp [y7]; omega),zk]
 simp
theorem zJi(L:Nat){x:List Int}(hx:x.length≤100000000)(k:List (List V)→Option β):xi β L ([]:List (List V)) (yk .u8 x) k=k (yk .u8 x):=by
 unfold xi zls
 have hs:(100000000:Nat)≤yn:=by decide
 rw [y7,yH (by simp <;> omega) (by simp <;> omega),zk,zj (by simp; omega),zj (by simp),zk,zj (by simp [y7]; omega),zk]
 simp
theorem zKv{L:Nat}(hL:20≤L){j:List Int}(hb:Byt j)(hj:j.length≤100000000){a:Nat}(most:Nat)(hm:most≤1000000)(ha:a≤j.length)(k:List (List V)→Int→Int→Option β):zad β L (yk .u8 j) (a:Int) (most:Int) k=zdZ (zc7 j most a) (fun v a'=>k (yk .u8 v) (a':Int) 0) (fun e=>k [] 0 e):=by
 unfold zad zrp
 rw [xz (by omega),zbY (by omega) (by omega),zk,zHh hL hb hj most ha]
 unfold zc7
 cases hz:zbP j most a with
 | error e=>rw [y9,xw,if_neg (zhC hz)]; rfl
 | ok p=>
  obtain ⟨n,a1⟩:=p
  obtain ⟨h1,h2⟩:=zcV hz
  rw [zaa,xw,if_pos rfl,y7,yH (by omega) (by omega),zk,zbY (by omega) (by omega),zk,zbc]
  by_cases h:a1+n≤j.length
  ·have e1:XO ((a1:Int)+(n:Int))=a1+n:=by omega
   have e2:((a1:Int)+(n:Int))=((a1+n:Nat):Int):=by omega
   rw [if_neg (by omega),yH (by omega) (by omega),zk,yH (by omega) (by omega),zk,zj (by omega),zj (by omega),e1,XT,show a1+n-a1=n by omega,zx5,zuf,zIR L (by rw [Ww,XS]; omega),e2]
   simp only [if_pos h,zaa]
  ·rw [if_pos (by omega)]
   simp only [if_neg h,y9]
theorem zIQ{L:Nat}(hL:20≤L){j:List Int}(hb:Byt j)(hj:j.length≤100000000){a:Nat}(most:Nat)(hm:most≤1000000)(ha:a≤j.length)(k:List (List V)→Int→Int→Option β):zae β L (yk .u8 j) (a:Int) (most:Int) k=zdZ (zc7 j most a) (fun v a'=>k (yk .u8 v) (a':Int) 0) (fun e=>k [] 0 e):=by
 unfold zae zqT
 rw [xz (by omega),zbY (by omega) (by omega),zk,zFC hL hb hj most ha]
 unfold zc7
 cases hz:zbP j most a with
 | error e=>rw [y9,xw,if_neg (zhC hz)]; rfl
 | ok p=>
  obtain ⟨n,a1⟩:=p
  obtain ⟨h1,h2⟩:=zcV hz
  rw [zaa,xw,if_pos rfl,y7,yH (by omega) (by omega),zk,zbY (by omega) (by omega),zk,zbc]
  by_cases h:a1+n≤j.length
  ·have e1:XO ((a1:Int)+(n:Int))=a1+n:=by omega
   have e2:((a1:Int)+(n:Int))=((a1+n:Nat):Int):=by omega
   rw [if_neg (by omega),yH (by omega) (by omega),zk,yH (by omega) (by omega),zk,zj (by omega),zj (by omega),e1,XT,show a1+n-a1=n by omega,zx5,zuf,zJi L (by rw [Ww,XS]; omega),zk,zk,e2,yH (by omega) (by omega)]
   simp only [if_pos h,zaa]
  ·rw [if_pos (by omega)]
   simp only [if_neg h,y9]
def zbF:List V:=We 32 (Qa (0:Int))
theorem zt0(k:IntKind)(l:List Int):(yk k l).flatten=row k l:=by
 induction l with
 | nil=>rfl
 | cons x l ih=>simp only [yk,row,List.map_cons,List.flatten_cons] at ih ⊢; rw [ih]; rfl
theorem zpO{w:List Int}(hw:w.length=32):xm (We 32 (Qa (0:Int))) 0 (row .u8 w)=row .u8 w:=zfH (by rw [zcd,hw,List.length_replicate])
theorem zxo{w:List Int}(hw:w.length=32):XN 32 (row .u8 w)=row .u8 w:=Xv (by rw [zcd]; omega)
theorem zFB{j:List Int}{a:Nat}(h:a+32≤j.length):xm (We 32 (Qa (0:Int))) 0 (XR (XN (min (XM (XN ((XM (yk .u8 j))-(XO (a:Int))) (List.drop (XO (a:Int)) (yk .u8 j)))) 32) (XN ((XM (yk .u8 j))-(XO (a:Int))) (List.drop (XO (a:Int)) (yk .u8 j)))))=row .u8 ((j.drop a).take 32):=by
 rw [XT,zx5,y7,zuf,y7,Xv (l:=j.drop a) (by rw [XS]; omega),XS,Nat.min_eq_right (by omega),zuf,zt0]
 exact zpO (by rw [Ww,XS]; omega)
theorem zsp(k:Option β):chk (0=0∧(XM zbF)=32∧32≠0) k=k:=zj (by simp [zbF]) k
theorem zLQ{L:Nat}(hL:20≤L){j:List Int}(hj:j.length≤100000000){a:Nat}(ha:a≤j.length)(k:List V→Int→Int→Option β):zaw β L (yk .u8 j) (a:Int) k=zdZ (zhN j a) (fun v a'=>k (row .u8 v) (a':Int) 0) (fun e=>k zbF 0 e):=by
 unfold zaw zsJ
 refine (zvN L j ha hj (w:=32) (by decide) _).trans ?_
 unfold zhN
 by_cases h:a+32≤j.length
 ·have hl:((j.drop a).take 32).length=32:=by rw [Ww,XS]; omega
  rw [if_pos h,if_pos h,xw,if_pos rfl,zj (by rw [y7]; omega),zFB h,zk,zj (by rw [zcd]; omega),yH (by omega) (by omega),zk,zxo hl,zj (by rw [zcd]; omega),zpO hl,zk,zj (by rw [zcd]; omega)]
  rfl
 ·rw [if_neg h,if_neg h,xw,if_neg (by decide),zk]
  exact zsp _
theorem zKA{L:Nat}(hL:20≤L){j:List Int}(hj:j.length≤100000000){a:Nat}(ha:a≤j.length)(k:List V→Int→Int→Option β):zaC β L (yk .u8 j) (a:Int) k=zdZ (zhN j a) (fun v a'=>k (row .u8 v) (a':Int) 0) (fun e=>k zbF 0 e):=by
 unfold zaC ztd
 rw [xz (by omega),y7,xz (by omega),yH (by omega) (by omega),zk]
 unfold zhN
 by_cases h:a+32≤j.length
 ·have hl:((j.drop a).take 32).length=32:=by rw [Ww,XS]; omega
  have hr:=zFB h
  rw [y7] at hr
  rw [if_pos h,xz (by omega),zj (by omega),hr,zk,zj (by rw [zcd]; omega),yH (by omega) (by omega),zk,zxo hl,zj (by rw [zcd]; omega),zpO hl,zk,zj (by rw [zcd]; omega)]
  rfl
 ·rw [if_neg h,zG (by omega),zk]
  exact zsp _
end
section
set_option linter.unusedSectionVars false
set_option maxRecDepth 100000
variable {β:Type}
section
variable (L:Nat) (J:List (List V)) {e:Int} (he:e≠0) (at_:Int)
include he
theorem zsx(k:Int→List (List V)→Int→Int→Option β):yc β L J at_ e k=k 0 J at_ e:=by
 unfold yc zfZ; rw [xw,if_neg he]
theorem zMU(k:Int→List (List V)→Int→Int→Option β):xa β L J at_ e k=k 0 J at_ e:=by
 unfold xa zgD; rw [xw,if_neg he]
theorem zyw(m:Int)(k:Int→List (List V)→Int→Int→Option β):xf β L m J at_ e k=k 0 J at_ e:=by
 unfold xf zqc yX ziB; rw [xw,if_neg he]; rfl
theorem zBl(m:Int)(k1 k2:List (List V)→List (List V)→Int→Int→Option β):yf β L m J at_ e k1 k2=k1 [] J at_ e:=by
 unfold yf zqf z4 zjW; rw [xw,if_neg he]
theorem zMC(k:List V→List (List V)→Int→Int→Option β):xb β L J at_ e k=k zbF J at_ e:=by
 unfold xb zha; rw [xw,if_neg he,zk]; exact zsp _
theorem zCg(k:Int→List (List V)→Int→Int→Option β):zb β L J at_ e k=k 0 J at_ e:=by
 unfold zb zgb; rw [xw,if_neg he]
theorem zGP(m:Int)(k:Int→List (List V)→Int→Int→Option β):yb β L m J at_ e k=k 0 J at_ e:=by
 unfold yb zgr; rw [xw,if_neg he]
theorem zJu(m:Int)(k1 k2:List (List V)→List (List V)→Int→Int→Option β):za β L m J at_ e k1 k2=k1 [] J at_ e:=by
 unfold za zfs; rw [xw,if_neg he]
end
section
variable {L:Nat} (hL:20≤L) {j:List Int} (hb:Byt j) (hj:j.length≤100000000) {a:Nat} (ha:a≤j.length)
include hL hb hj ha
theorem zE7(k:Int→List (List V)→Int→Int→Option β):yc β L (yk .u8 j) a 0 k=zdZ (gN j 4 a) (fun v a'=>k v (yk .u8 j) a' 0) (fun e=>k 0 (yk .u8 j) a e):=by
 unfold yc zfZ
 rw [xw,if_pos rfl,zJZ hL hb hj ha,zCF]
 by_cases h:a+4≤j.length
 ·rw [if_pos h,if_pos h,xw,if_pos rfl]
 ·rw [if_neg h,if_neg h,xw,if_neg (by decide)]
theorem zM3(k:Int→List (List V)→Int→Int→Option β):xa β L (yk .u8 j) a 0 k=zdZ (gN j 8 a) (fun v a'=>k v (yk .u8 j) a' 0) (fun e=>k 0 (yk .u8 j) a e):=by
 unfold xa zgD
 rw [xw,if_pos rfl,zJF hL hb hj ha,zCF]
 by_cases h:a+8≤j.length
 ·rw [if_pos h,if_pos h,xw,if_pos rfl]
 ·rw [if_neg h,if_neg h,xw,if_neg (by decide)]
theorem zLc(m:Nat)(hm:m≤1000000)(k:Int→List (List V)→Int→Int→Option β):xf β L (m:Int) (yk .u8 j) a 0 k=zdZ (zbP j m a) (fun v a'=>k v (yk .u8 j) a' 0) (fun e=>k 0 (yk .u8 j) a e):=by
 unfold xf zqc yX ziB zan zrf
 rw [xw,if_pos rfl,zHh hL hb hj m ha]
 cases hz:zbP j m a with
 | error e=>rw [y9]; dsimp only; rw [xw,if_neg (zhC hz)]; rfl
 | ok p=>
  obtain ⟨n,a1⟩:=p
  have:=zcV hz
  rw [zaa]; dsimp only; rw [xw,if_pos rfl,yH (by omega) (by omega),zk]
  rfl
theorem zNk(m:Nat)(hm:m≤1000000)(k1 k2:List (List V)→List (List V)→Int→Int→Option β):yf β L (m:Int) (yk .u8 j) a 0 k1 k2=zdZ (zc7 j m a) (fun v a'=>k2 (yk .u8 v) (yk .u8 j) a' 0) (fun e=>k1 [] (yk .u8 j) a e):=by
 unfold yf zqf z4 zjW zam zrb
 rw [xw,if_pos rfl,zKv hL hb hj m hm ha]
 cases hz:zc7 j m a with
 | error e=>rw [y9]; dsimp only; rw [xw,if_neg (zqA hz)]; rfl
 | ok p=>rw [zaa]; dsimp only; rw [xw,if_pos rfl]; rfl
theorem zNf(k:List V→List (List V)→Int→Int→Option β):xb β L (yk .u8 j) a 0 k=zdZ (zhN j a) (fun v a'=>k (row .u8 v) (yk .u8 j) a' 0) (fun e=>k zbF (yk .u8 j) a e):=by
 unfold xb zha
 rw [xw,if_pos rfl,zLQ hL hj ha]
 have z1:xm (We 32 (Qa (0:Int))) 0 zbF=zbF:=zfH (by simp [zbF])
 cases hz:zhN j a with
 | error e=>
  rw [y9,zj (by simp [zbF]),z1,zk,xw,if_neg (zAl hz),zk]
  exact zsp _
 | ok p=>
  obtain ⟨h,a1⟩:=p
  have hl:=(zs2 hz).2
  rw [zaa,zj (by rw [zcd]; omega),zpO hl,zk,xw,if_pos rfl,zj (by rw [zcd]; omega),zxo hl,zj (by rw [zcd]; omega),zpO hl,zk,zj (by rw [zcd]; omega)]
  rfl
theorem zFd(k:Int→List (List V)→Int→Int→Option β):zb β L (yk .u8 j) a 0 k=zdZ (gN j 4 a) (fun v a'=>k v (yk .u8 j) a' 0) (fun e=>k 0 (yk .u8 j) 0 e):=by
 unfold zb zgb
 rw [xw,if_pos rfl,zLG hL hb hj ha,zCF]
theorem zNm(k:Int→List (List V)→Int→Int→Option β):yP β L (yk .u8 j) a 0 k=zdZ (gN j 8 a) (fun v a'=>k v (yk .u8 j) a' 0) (fun e=>k 0 (yk .u8 j) 0 e):=by
 unfold yP zjx
 rw [xw,if_pos rfl,zL7 hL hb hj ha,zCF]
theorem zLr(m:Nat)(hm:m≤1000000)(k:Int→List (List V)→Int→Int→Option β):yb β L (m:Int) (yk .u8 j) a 0 k=zdZ (zbP j m a) (fun v a'=>k v (yk .u8 j) a' 0) (fun e=>k 0 (yk .u8 j) 0 e):=by
 unfold yb zgr
 rw [xw,if_pos rfl,zbY (by omega) (by omega),zk,zFC hL hb hj m ha]
 cases hz:zbP j m a with
 | error e=>rw [y9,y9,yH (by decide) (by decide),zk]
 | ok p=>
  obtain ⟨n,a1⟩:=p
  have:=zcV hz
  rw [zaa,zaa,yH (by omega) (by omega),zk]
theorem zM1(m:Nat)(hm:m≤1000000)(k1 k2:List (List V)→List (List V)→Int→Int→Option β):za β L (m:Int) (yk .u8 j) a 0 k1 k2=zdZ (zc7 j m a) (fun v a'=>k2 (yk .u8 v) (yk .u8 j) a' 0) (fun e=>k2 [] (yk .u8 j) 0 e):=by
 unfold za zfs
 rw [xw,if_pos rfl,zIQ hL hb hj m hm ha]
theorem zNd(k:List V→List (List V)→Int→Int→Option β):zc β L (yk .u8 j) a 0 k=zdZ (zhN j a) (fun v a'=>k (row .u8 v) (yk .u8 j) a' 0) (fun e=>k zbF (yk .u8 j) 0 e):=by
 unfold zc zjO
 rw [xw,if_pos rfl,zKA hL hj ha]
 have z1:xm (We 32 (Qa (0:Int))) 0 zbF=zbF:=zfH (by simp [zbF])
 have z2:XN 32 zbF=zbF:=Xv (by simp [zbF])
 cases hz:zhN j a with
 | error e=>
  rw [y9,y9,zj (by simp [zbF]),z1,zk,zj (by simp [zbF]),z2,zj (by simp [zbF]),z1,zk]
  exact zsp _
 | ok p=>
  obtain ⟨h,a1⟩:=p
  have hl:=(zs2 hz).2
  rw [zaa,zaa,zj (by rw [zcd]; omega),zpO hl,zk,zj (by rw [zcd]; omega),zxo hl,zj (by rw [zcd]; omega),zpO hl,zk,zj (by rw [zcd]; omega)]
end
def gIn(j:List Int)(a:Nat):Except Int (Inp × Nat):=match zhN j a with
 | .error e=>.error e
 | .ok (h,a1)=>match gN j 4 a1 with
  | .error e=>.error e
  | .ok (ix,a2)=>match gN j 4 a2 with
   | .error e=>.error e
   | .ok (sq,a3)=>.ok (⟨h++[(ix:Int)],sq,[]⟩,a3)
def zhH(j:List Int):Nat→Nat→Except Int (List Inp × Nat)
 | 0,a=>.ok ([],a)
 | n+1,a=>match gIn j a with
  | .error e=>.error e
  | .ok (x,a1)=>match zhH j n a1 with
   | .error e=>.error e
   | .ok (xs,a2)=>.ok (x::xs,a2)
def zlL(j:List Int)(a:Nat):Except Int (Outp × Nat):=match gN j 8 a with
 | .error e=>.error e
 | .ok (v,a1)=>if v≥9223372036854775808 then .error 90 else match zc7 j 520 a1 with
  | .error e=>.error e
  | .ok (s,a2)=>.ok (⟨v,s⟩,a2)
def zd9(j:List Int):Nat→Nat→Except Int (List Outp × Nat)
 | 0,a=>.ok ([],a)
 | n+1,a=>match zlL j a with
  | .error e=>.error e
  | .ok (x,a1)=>match zd9 j n a1 with
   | .error e=>.error e
   | .ok (xs,a2)=>.ok (x::xs,a2)
def zir(j:List Int):Nat→Nat→Except Int (List (List Int) × Nat)
 | 0,a=>.ok ([],a)
 | n+1,a=>match zc7 j 520 a with
  | .error e=>.error e
  | .ok (x,a1)=>match zir j n a1 with
   | .error e=>.error e
   | .ok (xs,a2)=>.ok (x::xs,a2)
def zd3(j:List Int):List Inp→Nat→Except Int (List Inp × Nat)
 | [],a=>.ok ([],a)
 | x::xs,a=>match zbP j 32 a with
  | .error e=>.error e
  | .ok (n,a1)=>match zir j n a1 with
   | .error e=>.error e
   | .ok (w,a2)=>match zd3 j xs a2 with
    | .error e=>.error e
    | .ok (ys,a3)=>.ok ({ x with wit:=w }::ys,a3)
def gTx(j:List Int)(a:Nat):Except Int (TxT × Nat):=match gN j 4 a with
 | .error e=>.error e
 | .ok (ver,a1)=>match zbP j 64 a1 with
  | .error e=>.error e
  | .ok (n,a2)=>match zhH j n a2 with
   | .error e=>.error e
   | .ok (xs,a3)=>match zbP j 64 a3 with
    | .error e=>.error e
    | .ok (m,a4)=>match zd9 j m a4 with
     | .error e=>.error e
     | .ok (os,a5)=>match gN j 4 a5 with
      | .error e=>.error e
      | .ok (lk,a6)=>match zd3 j xs a6 with
       | .error e=>.error e
       | .ok (ys,a7)=>if a7-a>20000 then .error 4 else .ok (⟨ver,ys,os,lk⟩,a7)
end
end Go.Proofs.Ytoeobffjdbdpgaa
