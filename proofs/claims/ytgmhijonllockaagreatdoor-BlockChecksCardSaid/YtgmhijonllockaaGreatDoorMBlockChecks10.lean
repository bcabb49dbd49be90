/- Part 10 of the proof of BlockChecks: an abstract machine over plain values, its soundness, and the functions of the program on plain values. -/
import Derived.Test.YtgmhijonllockaaGreatDoorRows
import Derived.Test.YtgmhijonllockaaGreatDoorMBlockChecks9
namespace Go.Proofs.YtgmhijonllockaaGreatDoor
set_option maxRecDepth 100000
set_option linter.unusedVariables false
set_option linter.unusedSimpArgs false
open List renaming length->XK,replicate->We,take->XL,map->Xv,flatten->XN
open IntKind renaming wrap->QG
open Int renaming toNat->XM
section
noncomputable section
def gk_sha_initial:List V:=[.sc (.int .u32 1779033703),.sc (.int .u32 3144134277),.sc (.int .u32 1013904242),.sc (.int .u32 2773480762),.sc (.int .u32 1359893119),.sc (.int .u32 2600822924),.sc (.int .u32 528734635),.sc (.int .u32 1541459225)]
def gk_sha_k:List V:=[.sc (.int .u32 1116352408),.sc (.int .u32 1899447441),.sc (.int .u32 3049323471),.sc (.int .u32 3921009573),.sc (.int .u32 961987163),.sc (.int .u32 1508970993),.sc (.int .u32 2453635748),.sc (.int .u32 2870763221),.sc (.int .u32 3624381080),.sc (.int .u32 310598401),.sc (.int .u32 607225278),.sc (.int .u32 1426881987),.sc (.int .u32 1925078388),.sc (.int .u32 2162078206),.sc (.int .u32 2614888103),.sc (.int .u32 3248222580),.sc (.int .u32 3835390401),.sc (.int .u32 4022224774),.sc (.int .u32 264347078),.sc (.int .u32 604807628),.sc (.int .u32 770255983),.sc (.int .u32 1249150122),.sc (.int .u32 1555081692),.sc (.int .u32 1996064986),.sc (.int .u32 2554220882),.sc (.int .u32 2821834349),.sc (.int .u32 2952996808),.sc (.int .u32 3210313671),.sc (.int .u32 3336571891),.sc (.int .u32 3584528711),.sc (.int .u32 113926993),.sc (.int .u32 338241895),.sc (.int .u32 666307205),.sc (.int .u32 773529912),.sc (.int .u32 1294757372),.sc (.int .u32 1396182291),.sc (.int .u32 1695183700),.sc (.int .u32 1986661051),.sc (.int .u32 2177026350),.sc (.int .u32 2456956037),.sc (.int .u32 2730485921),.sc (.int .u32 2820302411),.sc (.int .u32 3259730800),.sc (.int .u32 3345764771),.sc (.int .u32 3516065817),.sc (.int .u32 3600352804),.sc (.int .u32 4094571909),.sc (.int .u32 275423344),.sc (.int .u32 430227734),.sc (.int .u32 506948616),.sc (.int .u32 659060556),.sc (.int .u32 883997877),.sc (.int .u32 958139571),.sc (.int .u32 1322822218),.sc (.int .u32 1537002063),.sc (.int .u32 1747873779),.sc (.int .u32 1955562222),.sc (.int .u32 2024104815),.sc (.int .u32 2227730452),.sc (.int .u32 2361852424),.sc (.int .u32 2428436474),.sc (.int .u32 2756734187),.sc (.int .u32 3204031479),.sc (.int .u32 3329325298)]
def gls:List (Nat × List V):=[(0,gk_sha_initial),(1,gk_sha_k)]
def fg:List (Nat × Nat):=[(3,661),(4,662),(5,663),(6,664),(7,665),(8,666),(9,667),(10,668),(11,669),(12,670),(13,577),(14,456),(15,130),(16,579),(17,474),(18,542),(19,522),(20,422),(21,671),(22,519),(23,672),(24,673),(25,517),(26,503),(27,674),(28,502),(29,461),(30,429),(31,455),(32,509),(33,675),(34,431),(35,127),(36,182),(37,128),(38,449),(39,488),(40,596),(41,597),(42,520),(43,151),(44,131),(45,578),(46,153),(47,132),(48,556),(49,557),(50,558),(51,424),(52,442),(53,148),(54,454),(55,149),(56,555),(57,588),(58,170),(59,172),(60,676),(61,157),(62,158),(63,501),(64,159),(65,160),(66,164),(67,139),(68,179),(69,201),(70,140),(71,180),(72,143),(73,145),(74,191),(75,205),(76,183),(77,146),(78,147),(79,185),(80,129),(81,583),(82,608),(83,188),(84,150),(85,548),(86,152),(87,443),(88,444),(89,445),(90,446),(91,467),(92,468),(93,469),(94,494),(95,138),(96,186),(97,187),(98,453),(99,197),(100,198),(101,200),(102,202),(103,192),(104,458),(105,193),(106,194),(107,195),(108,196),(109,173),(110,161),(111,162),(112,163),(113,165),(114,166),(115,167),(116,168),(117,169),(118,171),(119,209),(120,174),(121,175),(122,176),(123,177),(124,178),(125,181),(126,137),(127,184),(128,617),(129,470),(130,471),(131,472),(132,448),(133,473),(134,475),(135,476),(136,477),(137,478),(138,479),(139,480),(140,481),(141,482),(142,483),(143,484),(144,485),(145,486),(146,487),(147,513),(148,514),(149,515),(150,531),(151,532),(152,533),(153,206),(154,496),(155,497),(156,498),(157,207),(158,208),(159,199),(160,203),(161,204),(162,516),(163,518),(164,521),(165,134),(166,441),(167,523),(168,524),(169,525),(170,526),(171,527),(172,528),(173,529),(174,552),(175,553),(176,569),(177,570),(178,571),(179,534),(180,535),(181,210),(182,554),(183,136),(184,559),(185,560),(186,561),(187,562),(188,563),(189,564),(190,565),(191,566),(192,572),(193,589),(194,590),(195,591),(196,117),(197,592),(198,593),(199,594),(200,599),(201,600),(202,601),(203,602),(204,603),(205,604),(206,605),(207,606),(208,607),(209,610),(210,611),(211,612),(212,613),(213,614),(214,615),(215,616),(216,618),(217,619),(218,620),(219,621),(220,622),(221,623),(222,624),(223,625),(224,626),(225,627),(226,628),(227,629),(228,630),(229,631),(230,632),(231,633),(232,634),(233,635),(234,636),(235,637),(236,638),(237,639),(254,640),(255,641),(256,642),(257,643)]
noncomputable def cfD:Hint→Nat→CF:=cfG Tryz.prog (zdC fg gls)
def zHN:Hint:=⟨[],[],[none,none,none,some ((bl 57348 24),(bl 15728319 24)),none,some ((bl 0 24),(bl 15728319 24)),none,none,some ((bl 64 24),(bl 15728383 24)),none],[],[],false,false,[]⟩
def cf_keep_Items:CF:=cfD zHN 73
def zq0:CC:=zE [1,1,0,1,0,0] cf_keep_Items.body
def zw4:CC:=zE [1,1,1] cf_keep_Items.body
def zd3:Nat→Sh:=zl [(18,(.sl 1))]
def zd5(L:Nat):CBC:=noC
def zsE:St→St:=zQ 0 (bl 57348 24) (bl 15728319 24)
def ziW(C:Int)(p:Ls)(z A:Int):St:=⟨(jn 2 ((Qe C)::(jn 10 ((V.sl 1 p)::((Qe z)::((Qe A)::(jn 8 []))))))),(gn 24 [])⟩
def zsm(p:Bool):St:=⟨(jn 6 ((V.sc (.bool p))::(jn 17 []))),(gn 24 [])⟩
def zui:St:=⟨(jn 24 []),(gn 24 [])⟩
def zFo{β:Type}(L:Nat)(A:Ls)(C D:Int)(z:Bool→Ob β)(p:Int→Ls→Int→Int→Ob β):Ob β:=ifb (decide (((XK A:Nat):Int)>C)) (z false) (p D A ((XK A:Nat):Int) (0:Int))
theorem zVm{β:Type}(L:Nat)(p:Ls)(A z:Int)(k:KK β):yj zd3 (zd5 L) L cf_keep_Items [(V.sl 1 p),(Qe A),(Qe z)] [] k=zFo L p A z (fun p=>k (V.sc (.bool p)) []) (fun z C D E=>xw (ze zd3 (zd5 L) 0 L zq0) zsE L (ziW z C D E) (zg 0 (zu (ze zd3 (zd5 L) 0 L zw4) (yz 0 (CF.res cf_keep_Items) k)))):=by kernel_rfl
def zsL{β:Type}(L:Nat)(F:Int)(C:Ls)(D z:Int)(A:Bool→Ob β)(p:Int→Ls→Int→Int→Ob β)(E:Ob β):Ob β:=ifb (decide (z<D)) (idx C z fun G=>cL 1 G 0 fun H=>ifb (decide (((XK H:Nat):Int)>F)) (A false) (lt (QG .i64 ((z:Int)+(1:Int))) fun I=>p F C D I)) (E)
theorem zL3{β:Type}(L:Nat)(C:Int)(p:Ls)(z A:Int)(X:St→Ob β)(K:KT β):ze zd3 (zd5 L) 0 L zq0 (ziW C p z A) (yF zsE X K)=zsL L C p z A (fun D=>K .ret (zsm D)) (fun C p z A=>X (ziW C p z A)) (K (.exit 0) (zui)):=by kernel_rfl
def znw{β:Type}(L:Nat)(z:Bool)(p:Bool→Ob β):Ob β:=p z
theorem zGf{β:Type}(L:Nat)(p:Bool)(k:KK β):(zg 0 (zu (ze zd3 (zd5 L) 0 L zw4) (yz 0 (CF.res cf_keep_Items) k))) .ret (zsm p)=znw L p (fun z=>k (V.sc (.bool z)) []):=by kernel_rfl
def zo2{β:Type}(L:Nat)(p:Bool→Ob β):Ob β:=p true
theorem zIT{β:Type}(L:Nat)(k:KK β):(zg 0 (zu (ze zd3 (zd5 L) 0 L zw4) (yz 0 (CF.res cf_keep_Items) k))) (.exit 0) (zui)=zo2 L (fun p=>k (V.sc (.bool p)) []):=by kernel_rfl
def ziE{β:Type}(L:Nat)(p:Bool→Ob β)(z:Ob β):Nat→Int→Ls→Int→Int→Ob β
 | 0,_,_,_,_=>none
 | n+1,E,A,C,D=>zsL L E A C D p (fun E A C D=>ziE L p z n E A C D) z
theorem zvZ{β:Type}(L:Nat)(K:KT β):∀ (n:Nat) (C:Int) (p:Ls) (z A:Int),xw (ze zd3 (zd5 L) 0 L zq0) zsE n (ziW C p z A) K=ziE L (fun D=>K .ret (zsm D)) (K (.exit 0) (zui)) n C p z A:=by
 intro n; induction n <;> intros
 ·rfl
 ·exact (zL3 ..).trans (by simp only [*]; rfl)
def zw8{β:Type}(L:Nat)(E:Ls)(F z:Int)(p:Bool→Ob β):Ob β:=zFo L E F z p (fun z A C D=>ziE L (fun G=>znw L G p) (zo2 L p) L z A C D)
theorem zV0{β:Type}(L:Nat)(p:Ls)(z A:Int)(k:KK β):yj zd3 (zd5 L) L cf_keep_Items [(V.sl 1 p),(Qe z),(Qe A)] [] k=zw8 L p z A (fun p=>k (V.sc (.bool p)) []):=by
 refine (zVm L p z A k).trans ?_
 unfold zw8
 first
  | (simp only [zvZ,zGf,zIT]; done)
  | (simp only [zvZ]; rfl)
abbrev zah:=∀ (β:Type),Nat→Ls→Int→Int→(Bool→Ob β)→Ob β
def xr:zah:=fun β=>@zw8 β
def zEY(xr:zah)(L:Nat):Dk:=dA (AL 1) fun p=>dA (AI .i64) fun z=>dA (AI .i64) fun A=>d0 fun β k=>xr β L p z A (fun p=>k (V.sc (.bool p)) [])
theorem zVt(L:Nat):DK (zEY xr L) (fun _=>yj zd3 (zd5 L) L cf_keep_Items):=zF zcd fun p=>zF zdJ fun z=>zF zdJ fun A=>zP fun _ k=>zV0 L p z A k
def zPJ:Hint:=⟨[(0,0),(5,2),(11,2)],[],[none,none,none,some ((bl 1835010 41),(bl 2198956146603 41)),none,some ((bl 2 41),(bl 2198956146603 41)),none,none,some ((bl 4 41),(bl 2198956146605 41)),none,some ((bl 7516192768 41),(bl 1924145348521 41)),none,some ((bl 0 41),(bl 1924145348521 41)),none,none,some ((bl 4 41),(bl 1924145348525 41)),none],[],[],false,false,[]⟩
def cf_keep_Tx:CF:=cfD zPJ 35
def zue:CC:=zE [1,1,1,0,1,0,0] cf_keep_Tx.body
def zwK:CC:=zE [1,1,0,1,0,0] cf_keep_Tx.body
def zBk:CC:=zE [1,1,1,1] cf_keep_Tx.body
def zwt:CC:=zE [1,1,1] cf_keep_Tx.body
def zb1:Nat→Sh:=zl [(8,(.sl 35)),(13,(.sl 2)),(18,(.sl 35)),(25,(.sl 1)),(30,(.sl 2)),(37,(.sl 1))]
def zb7(xr:zah)(L:Nat):CBC:=(xg 145 (zEY xr L) noC)
def zyH:St→St:=zQ 0 (bl 1835010 41) (bl 2198956146603 41)
def zxq:St→St:=zQ 0 (bl 7516192768 41) (bl 1924145348521 41)
def zlQ(p:Ls)(z A:Int)(C:List V):St:=⟨(jn 1 ((V.ptr 1 0)::(jn 16 ((V.sl 35 p)::((Qe z)::((Qe A)::(jn 20 []))))))),(gn 1 ((.live true C)::(gn 39 [])))⟩
def zjG(p:Bool):St:=⟨(jn 2 ((V.sc (.bool p))::(jn 38 []))),(gn 41 [])⟩
def ztE(p:List V):St:=⟨(jn 1 ((V.ptr 1 0)::(jn 39 []))),(gn 1 ((.live true p)::(gn 39 [])))⟩
def zkD(p:Ls)(z A:Int):St:=⟨(jn 30 ((V.sl 2 p)::((Qe z)::((Qe A)::(jn 8 []))))),(gn 41 [])⟩
def zAT:St:=⟨(jn 41 []),(gn 41 [])⟩
def zOh{β:Type}(xr:zah)(L:Nat)(A:List V)(z:Bool→Ob β)(p:Ls→Int→Int→List V→Ob β):Ob β:=cLd 35 A 1 fun D=>ifb (decide (((XK D:Nat):Int)>(70:Int))) (z false) (cLd 2 A 2 fun E=>ifb (decide (((XK E:Nat):Int)>(70:Int))) (z false) (cLd 35 A 1 fun C=>p C ((XK C:Nat):Int) (0:Int) A))
theorem z0h{β:Type}(xr:zah)(L:Nat)(p:List V)(k:KK β):yj zb1 (zb7 xr L) L cf_keep_Tx [(V.agg p)] [] k=zOh xr L p (fun p=>k (V.sc (.bool p)) []) (fun z A C D=>xw (ze zb1 (zb7 xr L) 0 L zwK) zyH L (zlQ z A C D) (zg 0 (zu (ze zb1 (zb7 xr L) 0 L zwt) (yz 0 (CF.res cf_keep_Tx) k)))):=by kernel_rfl
def zyZ{β:Type}(xr:zah)(L:Nat)(C:Ls)(D z:Int)(F:List V)(A:Bool→Ob β)(p:Ls→Int→Int→List V→Ob β)(E:List V→Ob β):Ob β:=ifb (decide (z<D)) (idx C z fun G=>chk ((XK (XL 35 G))=35∧0+35≤35) (lt (zq (We 32 (Qa (0:Int))++[(Qc (0:Int)),(Qc (0:Int)),(V.gs 1 ([]:Ls))]) 0 (XL 35 G)) fun H=>cLd 1 H 34 fun I=>xr β L I (40:Int) (600:Int) (fun J=>ifb (!J) (A false) (lt (QG .i64 ((z:Int)+(1:Int))) fun M=>p C D M F)))) (E F)
theorem zQ9{β:Type}(xr:zah)(L:Nat)(p:Ls)(z A:Int)(C:List V)(X:St→Ob β)(K:KT β):ze zb1 (zb7 xr L) 0 L zwK (zlQ p z A C) (yF zyH X K)=zyZ xr L p z A C (fun D=>K .ret (zjG D)) (fun p z A C=>X (zlQ p z A C)) (fun C=>K (.exit 0) (ztE C)):=by kernel_rfl
def zsF{β:Type}(xr:zah)(L:Nat)(z:Bool)(p:Bool→Ob β):Ob β:=p z
theorem zMd{β:Type}(xr:zah)(L:Nat)(p:Bool)(k:KK β):(zg 0 (zu (ze zb1 (zb7 xr L) 0 L zwt) (yz 0 (CF.res cf_keep_Tx) k))) .ret (zjG p)=zsF xr L p (fun z=>k (V.sc (.bool z)) []):=by kernel_rfl
def zut{β:Type}(xr:zah)(L:Nat)(A:List V)(p:Ls→Int→Int→Ob β):Ob β:=cLd 2 A 2 fun z=>p z ((XK z:Nat):Int) (0:Int)
theorem zNQ{β:Type}(xr:zah)(L:Nat)(p:List V)(k:KK β):(zg 0 (zu (ze zb1 (zb7 xr L) 0 L zwt) (yz 0 (CF.res cf_keep_Tx) k))) (.exit 0) (ztE p)=zut xr L p (fun z A C=>xw (ze zb1 (zb7 xr L) 0 L zue) zxq L (zkD z A C) (zg 2 (zu (ze zb1 (zb7 xr L) 0 L zBk) (yz 0 (CF.res cf_keep_Tx) k)))):=by kernel_rfl
def zvo{β:Type}(xr:zah)(L:Nat)(C:Ls)(D z:Int)(A:Bool→Ob β)(p:Ls→Int→Int→Ob β)(E:Ob β):Ob β:=ifb (decide (z<D)) (idx C z fun F=>chk ((XK (XL 2 F))=2∧0+2≤2) (lt (zq [(Qe (0:Int)),(V.gs 1 ([]:Ls))] 0 (XL 2 F)) fun G=>cLd 1 G 1 fun H=>ifb (decide (((XK H:Nat):Int)>(600:Int))) (A false) (lt (QG .i64 ((z:Int)+(1:Int))) fun I=>p C D I))) (E)
theorem zPy{β:Type}(xr:zah)(L:Nat)(p:Ls)(z A:Int)(X:St→Ob β)(K:KT β):ze zb1 (zb7 xr L) 0 L zue (zkD p z A) (yF zxq X K)=zvo xr L p z A (fun C=>K .ret (zjG C)) (fun p z A=>X (zkD p z A)) (K (.exit 2) (zAT)):=by kernel_rfl
def zqz{β:Type}(xr:zah)(L:Nat)(z:Bool)(p:Bool→Ob β):Ob β:=p z
theorem zJD{β:Type}(xr:zah)(L:Nat)(p:Bool)(k:KK β):(zg 2 (zu (ze zb1 (zb7 xr L) 0 L zBk) (yz 0 (CF.res cf_keep_Tx) k))) .ret (zjG p)=zqz xr L p (fun z=>k (V.sc (.bool z)) []):=by kernel_rfl
def zsf{β:Type}(xr:zah)(L:Nat)(p:Bool→Ob β):Ob β:=p true
theorem zMJ{β:Type}(xr:zah)(L:Nat)(k:KK β):(zg 2 (zu (ze zb1 (zb7 xr L) 0 L zBk) (yz 0 (CF.res cf_keep_Tx) k))) (.exit 2) (zAT)=zsf xr L (fun p=>k (V.sc (.bool p)) []):=by kernel_rfl
def zmB{β:Type}(xr:zah)(L:Nat)(p:Bool→Ob β)(z:List V→Ob β):Nat→Ls→Int→Int→List V→Ob β
 | 0,_,_,_,_=>none
 | n+1,A,C,D,E=>zyZ xr L A C D E p (fun A C D E=>zmB xr L p z n A C D E) z
theorem zCE{β:Type}(xr:zah)(L:Nat)(K:KT β):∀ (n:Nat) (z:Ls) (A C:Int) (p:List V),xw (ze zb1 (zb7 xr L) 0 L zwK) zyH n (zlQ z A C p) K=zmB xr L (fun D=>K .ret (zjG D)) (fun p=>K (.exit 0) (ztE p)) n z A C p:=by
 intro n; induction n <;> intros
 ·rfl
 ·exact (zQ9 ..).trans (by simp only [*]; rfl)
def zk7{β:Type}(xr:zah)(L:Nat)(p:Bool→Ob β)(z:Ob β):Nat→Ls→Int→Int→Ob β
 | 0,_,_,_=>none
 | n+1,A,C,D=>zvo xr L A C D p (fun A C D=>zk7 xr L p z n A C D) z
theorem zAA{β:Type}(xr:zah)(L:Nat)(K:KT β):∀ (n:Nat) (p:Ls) (z A:Int),xw (ze zb1 (zb7 xr L) 0 L zue) zxq n (zkD p z A) K=zk7 xr L (fun C=>K .ret (zjG C)) (K (.exit 2) (zAT)) n p z A:=by
 intro n; induction n <;> intros
 ·rfl
 ·exact (zPy ..).trans (by simp only [*]; rfl)
def zlO{β:Type}(xr:zah)(L:Nat)(D:List V)(p:Bool→Ob β):Ob β:=zut xr L D (fun z A C=>zk7 xr L (fun E=>zqz xr L E p) (zsf xr L p) L z A C)
theorem zLN{β:Type}(xr:zah)(L:Nat)(p:List V)(k:KK β):(zg 0 (zu (ze zb1 (zb7 xr L) 0 L zwt) (yz 0 (CF.res cf_keep_Tx) k))) (.exit 0) (ztE p)=zlO xr L p (fun z=>k (V.sc (.bool z)) []):=by
 refine (zNQ xr L p k).trans ?_
 unfold zlO
 first
  | (simp only [zAA,zJD,zMJ]; done)
  | (simp only [zAA]; rfl)
def zHY{β:Type}(xr:zah)(L:Nat)(E:List V)(p:Bool→Ob β):Ob β:=zOh xr L E p (fun A C D z=>zmB xr L (fun F=>zsF xr L F p) (fun z=>zlO xr L z p) L A C D z)
theorem z07{β:Type}(xr:zah)(L:Nat)(p:List V)(k:KK β):yj zb1 (zb7 xr L) L cf_keep_Tx [(V.agg p)] [] k=zHY xr L p (fun p=>k (V.sc (.bool p)) []):=by
 refine (z0h xr L p k).trans ?_
 unfold zHY
 first
  | (simp only [zCE,zMd,zLN]; done)
  | (simp only [zCE]; rfl)
abbrev zd0:=∀ (β:Type),Nat→List V→(Bool→Ob β)→Ob β
def zR:zd0:=fun β=>@zHY β xr
def zPs(zR:zd0)(L:Nat):Dk:=dA AG fun p=>d0 fun β k=>zR β L p (fun p=>k (V.sc (.bool p)) [])
theorem z1h(L:Nat):DK (zPs zR L) (fun _=>yj zb1 (zb7 xr L) L cf_keep_Tx):=zF zap fun p=>zP fun _ k=>z07 xr L p k
def zGo:Hint:=⟨[(0,0),(5,2)],[],[none,none,none,some ((bl 7168 20),(bl 917481 20)),none,some ((bl 0 20),(bl 917481 20)),none,none,some ((bl 4 20),(bl 917485 20)),none],[],[],false,false,[]⟩
def cf_keep_Block:CF:=cfD zGo 12
def zp2:CC:=zE [1,1,0,1,0,0] cf_keep_Block.body
def zvz:CC:=zE [1,1,1] cf_keep_Block.body
def zd9:Nat→Sh:=zl [(6,(.sl 4)),(10,(.sl 4))]
def zd7(zR:zd0)(L:Nat):CBC:=(xg 127 (zPs zR L) noC)
def zsx:St→St:=zQ 0 (bl 7168 20) (bl 917481 20)
def zi4(p:Ls)(z A:Int):St:=⟨(jn 10 ((V.sl 4 p)::((Qe z)::((Qe A)::(jn 7 []))))),(gn 20 [])⟩
def zsg(p:Bool):St:=⟨(jn 2 ((V.sc (.bool p))::(jn 17 []))),(gn 20 [])⟩
def zuv:St:=⟨(jn 20 []),(gn 20 [])⟩
def zFc{β:Type}(zR:zd0)(L:Nat)(A:List V)(z:Bool→Ob β)(p:Ls→Int→Int→Ob β):Ob β:=cLd 4 A 68 fun D=>ifb (decide (((XK D:Nat):Int)>(12:Int))) (z false) (cLd 4 A 68 fun C=>p C ((XK C:Nat):Int) (0:Int))
theorem zU6{β:Type}(zR:zd0)(L:Nat)(p:List V)(k:KK β):yj zd9 (zd7 zR L) L cf_keep_Block [(V.agg p)] [] k=zFc zR L p (fun p=>k (V.sc (.bool p)) []) (fun z A C=>xw (ze zd9 (zd7 zR L) 0 L zp2) zsx L (zi4 z A C) (zg 0 (zu (ze zd9 (zd7 zR L) 0 L zvz) (yz 0 (CF.res cf_keep_Block) k)))):=by kernel_rfl
def zsw{β:Type}(zR:zd0)(L:Nat)(C:Ls)(D z:Int)(A:Bool→Ob β)(p:Ls→Int→Int→Ob β)(E:Ob β):Ob β:=ifb (decide (z<D)) (idx C z fun F=>chk ((XK (XL 4 F))=4∧0+4≤4) (lt (zq [(Qc (0:Int)),(V.gs 35 ([]:Ls)),(V.gs 2 ([]:Ls)),(Qc (0:Int))] 0 (XL 4 F)) fun G=>chk (0+4≤(XK G)) (zR β L (Xv V.dem (XL 4 G)) (fun H=>ifb (!H) (A false) (lt (QG .i64 ((z:Int)+(1:Int))) fun I=>p C D I))))) (E)
theorem zL4{β:Type}(zR:zd0)(L:Nat)(p:Ls)(z A:Int)(X:St→Ob β)(K:KT β):ze zd9 (zd7 zR L) 0 L zp2 (zi4 p z A) (yF zsx X K)=zsw zR L p z A (fun C=>K .ret (zsg C)) (fun p z A=>X (zi4 p z A)) (K (.exit 0) (zuv)):=by kernel_rfl
def znn{β:Type}(zR:zd0)(L:Nat)(z:Bool)(p:Bool→Ob β):Ob β:=p z
theorem zF3{β:Type}(zR:zd0)(L:Nat)(p:Bool)(k:KK β):(zg 0 (zu (ze zd9 (zd7 zR L) 0 L zvz) (yz 0 (CF.res cf_keep_Block) k))) .ret (zsg p)=znn zR L p (fun z=>k (V.sc (.bool z)) []):=by kernel_rfl
def zoB{β:Type}(zR:zd0)(L:Nat)(p:Bool→Ob β):Ob β:=p true
theorem zIF{β:Type}(zR:zd0)(L:Nat)(k:KK β):(zg 0 (zu (ze zd9 (zd7 zR L) 0 L zvz) (yz 0 (CF.res cf_keep_Block) k))) (.exit 0) (zuv)=zoB zR L (fun p=>k (V.sc (.bool p)) []):=by kernel_rfl
def ziO{β:Type}(zR:zd0)(L:Nat)(p:Bool→Ob β)(z:Ob β):Nat→Ls→Int→Int→Ob β
 | 0,_,_,_=>none
 | n+1,A,C,D=>zsw zR L A C D p (fun A C D=>ziO zR L p z n A C D) z
theorem zvJ{β:Type}(zR:zd0)(L:Nat)(K:KT β):∀ (n:Nat) (p:Ls) (z A:Int),xw (ze zd9 (zd7 zR L) 0 L zp2) zsx n (zi4 p z A) K=ziO zR L (fun C=>K .ret (zsg C)) (K (.exit 0) (zuv)) n p z A:=by
 intro n; induction n <;> intros
 ·rfl
 ·exact (zL4 ..).trans (by simp only [*]; rfl)
def zxy{β:Type}(zR:zd0)(L:Nat)(D:List V)(p:Bool→Ob β):Ob β:=zFc zR L D p (fun z A C=>ziO zR L (fun E=>znn zR L E p) (zoB zR L p) L z A C)
theorem zTZ{β:Type}(zR:zd0)(L:Nat)(p:List V)(k:KK β):yj zd9 (zd7 zR L) L cf_keep_Block [(V.agg p)] [] k=zxy zR L p (fun p=>k (V.sc (.bool p)) []):=by
 refine (zU6 zR L p k).trans ?_
 unfold zxy
 first
  | (simp only [zvJ,zF3,zIF]; done)
  | (simp only [zvJ]; rfl)
abbrev zqx:=∀ (β:Type),Nat→List V→(Bool→Ob β)→Ob β
def zbc:zqx:=fun β=>@zxy β zR
def zEN(zbc:zqx)(L:Nat):Dk:=dA AG fun p=>d0 fun β k=>zbc β L p (fun p=>k (V.sc (.bool p)) [])
theorem zWj(L:Nat):DK (zEN zbc L) (fun _=>yj zd9 (zd7 zR L) L cf_keep_Block):=zF zap fun p=>zP fun _ k=>zTZ zR L p k
def zCD:Hint:=⟨[(0,0),(1,2),(7,0),(7,1)],[(1,1)],[none,some ((bl 3105 24),(bl 16777151 24)),none,some ((bl 32 24),(bl 16777151 24)),none,none],[],[],false,false,[]⟩
def cf_ref01_little:CF:=cfD zCD 106
def zn9:CC:=zE [1,1,0,1,0,0] cf_ref01_little.body
def zB9:CC:=zE [1,1,1] cf_ref01_little.body
def zdl:Nat→Sh:=zl []
def zdn(L:Nat):CBC:=noC
def zoK:St→St:=zQ 0 (bl 3105 24) (bl 16777151 24)
def zhJ(C:Int)(p:Nat)(z A:Int)(D:List V):St:=⟨((Qd C)::(jn 4 ((V.own 8 0 p 1)::(jn 4 ((Qe z)::((Qe A)::(jn 12 []))))))),(gn 8 ((.live true D)::(gn 15 [])))⟩
def zqj(p:Nat)(z:List V):St:=⟨(jn 5 ((V.own 8 0 p 1)::(jn 18 []))),(gn 8 ((.live true z)::(gn 15 [])))⟩
def zKI{β:Type}(L:Nat)(A p:Int)(z:Int→Nat→Int→Int→List V→Ob β):Ob β:=chk (0≤p∧p≤p∧(XM p)*1≤xo∧p≤xo) (z A (XM p) (((XM p):Nat):Int) (0:Int) (XN (We (XM p) [(Qa (0:Int))])))
theorem zQ2{β:Type}(L:Nat)(p z:Int)(k:KK β):yj zdl (zdn L) L cf_ref01_little [(Qd p),(Qe z)] [] k=zKI L p z (fun p A C D E=>xw (ze zdl (zdn L) 0 L zn9) zoK L (zhJ p A C D E) (zg 0 (zu (ze zdl (zdn L) 0 L zB9) (yz 0 (CF.res cf_ref01_little) k)))):=by kernel_rfl
def zxJ{β:Type}(L:Nat)(F:Int)(A:Nat)(C p:Int)(D:List V)(z:Int→Nat→Int→Int→List V→Ob β)(E:Nat→List V→Ob β):Ob β:=ifb (decide (p<C)) (lt (QG .i64 (((8:Int):Int)*p)) fun G=>chk (0≤G) (lt (zdB .u64 F G) fun H=>lt (QG .u8 H) fun I=>chk (0≤p∧p<((A:Nat):Int)) (chk (1=1∧(0+((XM p)*1))+1≤(XK D)) (lt (zq D (0+((XM p)*1)) [(Qa I)]) fun J=>lt (QG .i64 ((p:Int)+(1:Int))) fun M=>z F A C M J)))) (E A D)
theorem zIG{β:Type}(L:Nat)(D:Int)(p:Nat)(z A:Int)(C:List V)(X:St→Ob β)(K:KT β):ze zdl (zdn L) 0 L zn9 (zhJ D p z A C) (yF zoK X K)=zxJ L D p z A C (fun D p z A C=>X (zhJ D p z A C)) (fun p C=>K (.exit 0) (zqj p C)):=by kernel_rfl
def zuW{β:Type}(L:Nat)(z:Nat)(A:List V)(p:Ls→Ob β):Ob β:=chk (z≠0∨(XK A)=0) (p (xn 1 z A))
theorem zDV{β:Type}(L:Nat)(p:Nat)(z:List V)(k:KK β):(zg 0 (zu (ze zdl (zdn L) 0 L zB9) (yz 0 (CF.res cf_ref01_little) k))) (.exit 0) (zqj p z)=zuW L p z (fun A=>k (V.fr 1 A) []):=by kernel_rfl
def zpb{β:Type}(L:Nat)(p:Nat→List V→Ob β):Nat→Int→Nat→Int→Int→List V→Ob β
 | 0,_,_,_,_,_=>none
 | n+1,D,z,A,C,E=>zxJ L D z A C E (fun D z A C E=>zpb L p n D z A C E) p
theorem zs4{β:Type}(L:Nat)(K:KT β):∀ (n:Nat) (D:Int) (p:Nat) (A C:Int) (z:List V),xw (ze zdl (zdn L) 0 L zn9) zoK n (zhJ D p A C z) K=zpb L (fun p z=>K (.exit 0) (zqj p z)) n D p A C z:=by
 intro n; induction n <;> intros
 ·rfl
 ·exact (zIG ..).trans (by simp only [*]; rfl)
def zyx{β:Type}(L:Nat)(A F:Int)(z:Ls→Ob β):Ob β:=zKI L A F (fun A p D E C=>zpb L (fun p C=>zuW L p C z) L A p D E C)
theorem zRe{β:Type}(L:Nat)(p z:Int)(k:KK β):yj zdl (zdn L) L cf_ref01_little [(Qd p),(Qe z)] [] k=zyx L p z (fun p=>k (V.fr 1 p) []):=by
 refine (zQ2 L p z k).trans ?_
 unfold zyx
 first
  | (simp only [zs4,zDV]; done)
  | (simp only [zs4]; rfl)
abbrev zcz:=∀ (β:Type),Nat→Int→Int→(Ls→Ob β)→Ob β
def xC:zcz:=fun β=>@zyx β
def zmS(xC:zcz)(L:Nat):Dk:=dA (AI .u64) fun p=>dA (AI .i64) fun z=>d0 fun β k=>xC β L p z (fun p=>k (V.fr 1 p) [])
theorem zRq(L:Nat):DK (zmS xC L) (fun _=>yj zdl (zdn L) L cf_ref01_little):=zF zdJ fun p=>zF zdJ fun z=>zP fun _ k=>zRe L p z k
def zCI:Hint:=⟨[(0,0),(1,6),(2,0),(2,5)],[],[none],[],[],false,false,[]⟩
def zGn:CF:=cfD zCI 105
def zvY:Nat→Sh:=zl []
def zxh(L:Nat):CBC:=noC
def zyG{β:Type}(L:Nat)(p z:Ls)(A:Ls→Ob β):Ob β:=lt (QG .i64 ((((XK p:Nat):Int):Int)+((XK z:Nat):Int))) fun C=>chk (0≤(0:Int)∧(0:Int)≤C∧(XM C)*1≤xo∧C≤xo) (chk ((XK (We 0 [(Qa (0:Int))])+XK p)*1≤xo∧XK (We 0 [(Qa (0:Int))])+XK p≤xo) (lt ((We 0 [(Qa (0:Int))])++p) fun D=>chk ((XK D+XK z)*1≤xo∧XK D+XK z≤xo) (lt (D++z) fun E=>A E)))
theorem zQ7{β:Type}(L:Nat)(p z:Ls)(k:KK β):yj zvY (zxh L) L zGn [(V.sl 1 p),(V.sl 1 z)] [] k=zyG L p z (fun p=>k (V.gs 1 p) []):=by kernel_rfl
abbrev zU:=∀ (β:Type),Nat→Ls→Ls→(Ls→Ob β)→Ob β
def zh:zU:=fun β=>@zyG β
def zfw(zh:zU)(L:Nat):Dk:=dA (AL 1) fun p=>dA (AL 1) fun z=>d0 fun β k=>zh β L p z (fun p=>k (V.gs 1 p) [])
theorem zRC(L:Nat):DK (zfw zh L) (fun _=>yj zvY (zxh L) L zGn):=zF zcd fun p=>zF zcd fun z=>zP fun _ k=>zQ7 L p z k
def zwc:Hint:=⟨[(0,0),(1,5)],[],[none],[],[],false,false,[]⟩
def zzA:CF:=cfD zwc 64
def zqS:Nat→Sh:=zl []
def zq3(xC:zcz)(zh:zU)(L:Nat):CBC:=(xg 193 (zfw zh L) (xg 194 (zmS xC L) noC))
def zsh{β:Type}(xC:zcz)(zh:zU)(L:Nat)(z:Ls)(A:Int)(p:Ls→Ob β):Ob β:=lt (QG .u64 A) fun C=>xC β L C (4:Int) (fun D=>zh β L z D (fun E=>p E))
theorem zMo{β:Type}(xC:zcz)(zh:zU)(L:Nat)(p:Ls)(z:Int)(k:KK β):yj zqS (zq3 xC zh L) L zzA [(V.sl 1 p),(Qc z)] [] k=zsh xC zh L p z (fun p=>k (V.gs 1 p) []):=by kernel_rfl
abbrev yu:=∀ (β:Type),Nat→Ls→Int→(Ls→Ob β)→Ob β
def zb:yu:=fun β=>@zsh β xC zh
def zgz(zb:yu)(L:Nat):Dk:=dA (AL 1) fun p=>dA (AI .u32) fun z=>d0 fun β k=>zb β L p z (fun p=>k (V.gs 1 p) [])
theorem zMf(L:Nat):DK (zgz zb L) (fun _=>yj zqS (zq3 xC zh L) L zzA):=zF zcd fun p=>zF zdJ fun z=>zP fun _ k=>zMo xC zh L p z k
def zuY:Hint:=⟨[(0,0),(2,4),(4,6),(6,6),(7,6)],[],[none,none,none,none,none,none,none,none],[],[],false,false,[]⟩
def zxQ:CF:=cfD zuY 79
def zox:Nat→Sh:=zl []
def zoI(xC:zcz)(zh:zU)(L:Nat):CBC:=(xg 193 (zfw zh L) (xg 194 (zmS xC L) noC))
def zp8{β:Type}(xC:zcz)(zh:zU)(L:Nat)(A:Ls)(z:Int)(p:Ls→Ob β):Ob β:=ifb (decide (z<(253:Int))) (xC β L z (1:Int) (fun D=>zh β L A D (fun E=>p E))) (ifb (decide (z<(65536:Int))) (xC β L z (2:Int) (fun F=>zh β L (xn 1 1 [(Qa (253:Int))]) F (fun G=>zh β L A G (fun H=>p H)))) (ifb (decide (z<(4294967296:Int))) (xC β L z (4:Int) (fun I=>zh β L (xn 1 1 [(Qa (254:Int))]) I (fun J=>zh β L A J (fun M=>p M)))) (xC β L z (8:Int) (fun N=>zh β L (xn 1 1 [(Qa (255:Int))]) N (fun O=>zh β L A O (fun C=>p C))))))
theorem zJH{β:Type}(xC:zcz)(zh:zU)(L:Nat)(p:Ls)(z:Int)(k:KK β):yj zox (zoI xC zh L) L zxQ [(V.sl 1 p),(Qd z)] [] k=zp8 xC zh L p z (fun p=>k (V.gs 1 p) []):=by kernel_rfl
abbrev zt:=∀ (β:Type),Nat→Ls→Int→(Ls→Ob β)→Ob β
def xa:zt:=fun β=>@zp8 β xC zh
def zh3(xa:zt)(L:Nat):Dk:=dA (AL 1) fun p=>dA (AI .u64) fun z=>d0 fun β k=>xa β L p z (fun p=>k (V.gs 1 p) [])
theorem zKc(L:Nat):DK (zh3 xa L) (fun _=>yj zox (zoI xC zh L) L zxQ):=zF zcd fun p=>zF zdJ fun z=>zP fun _ k=>zJH xC zh L p z k
def zu1:Hint:=⟨[(0,1),(1,3)],[],[none],[],[],false,false,[]⟩
def zxT:CF:=cfD zu1 65
def zow:Nat→Sh:=zl []
def zpk(zh:zU)(L:Nat):CBC:=(xg 193 (zfw zh L) noC)
def zk0{β:Type}(zh:zU)(L:Nat)(A:Ls)(z:List V)(p:Ls→Ob β):Ob β:=chk (0+32*1≤(XK z)) (ifb (List.isEmpty z) (zh β L A (xn 1 32 z) (fun C=>p C)) (zh β L A (xn 1 32 z) (fun D=>p D)))
theorem zJC{β:Type}(zh:zU)(L:Nat)(p:Ls)(z:List V)(k:KK β):yj zow (zpk zh L) L zxT [(V.sl 1 p),(V.agg z)] [] k=zk0 zh L p z (fun p=>k (V.gs 1 p) []):=by kernel_rfl
abbrev zak:=∀ (β:Type),Nat→Ls→List V→(Ls→Ob β)→Ob β
def xp:zak:=fun β=>@zk0 β zh
def zh9(xp:zak)(L:Nat):Dk:=dA (AL 1) fun p=>dA AG fun z=>d0 fun β k=>xp β L p z (fun p=>k (V.gs 1 p) [])
theorem zJO(L:Nat):DK (zh9 xp L) (fun _=>yj zow (zpk zh L) L zxT):=zF zcd fun p=>zF zap fun z=>zP fun _ k=>zJC zh L p z k
def zFF:Hint:=⟨[(0,1),(1,6)],[],[none],[],[],false,false,[]⟩
def zJL:CF:=cfD zFF 95
def zyB:Nat→Sh:=zl [(7,(.int .u32))]
def zyM(xp:zak)(zb:yu)(L:Nat):CBC:=(xg 159 (zgz zb L) (xg 160 (zh9 xp L) noC))
def zAM{β:Type}(xp:zak)(zb:yu)(L:Nat)(z:List V)(p:Ls→Ob β):Ob β:=chk (0+32≤(XK z)) (xp β L ([]:Ls) (XL 32 z) (fun A=>cI .u32 z 32 fun C=>zb β L A C (fun D=>p D)))
theorem zSF{β:Type}(xp:zak)(zb:yu)(L:Nat)(p:List V)(k:KK β):yj zyB (zyM xp zb L) L zJL [(V.agg p)] [] k=zAM xp zb L p (fun p=>k (V.gs 1 p) []):=by kernel_rfl
abbrev xM:=∀ (β:Type),Nat→List V→(Ls→Ob β)→Ob β
def xf:xM:=fun β=>@zAM β xp zb
def ztX(xf:xM)(L:Nat):Dk:=dA AG fun p=>d0 fun β k=>xf β L p (fun p=>k (V.gs 1 p) [])
theorem zSI(L:Nat):DK (ztX xf L) (fun _=>yj zyB (zyM xp zb L) L zJL):=zF zap fun p=>zP fun _ k=>zSF xp zb L p k
def zwi:Hint:=⟨[(0,0),(1,4)],[],[none],[],[],false,false,[]⟩
def zAm:CF:=cfD zwi 153
def zqW:Nat→Sh:=zl []
def zpQ(xC:zcz)(zh:zU)(L:Nat):CBC:=(xg 193 (zfw zh L) (xg 194 (zmS xC L) noC))
def zse{β:Type}(xC:zcz)(zh:zU)(L:Nat)(z:Ls)(A:Int)(p:Ls→Ob β):Ob β:=xC β L A (8:Int) (fun C=>zh β L z C (fun D=>p D))
theorem zL0{β:Type}(xC:zcz)(zh:zU)(L:Nat)(p:Ls)(z:Int)(k:KK β):yj zqW (zpQ xC zh L) L zAm [(V.sl 1 p),(Qd z)] [] k=zse xC zh L p z (fun p=>k (V.gs 1 p) []):=by kernel_rfl
abbrev ziD:=∀ (β:Type),Nat→Ls→Int→(Ls→Ob β)→Ob β
def zam:ziD:=fun β=>@zse β xC zh
def zsp(zam:ziD)(L:Nat):Dk:=dA (AL 1) fun p=>dA (AI .u64) fun z=>d0 fun β k=>zam β L p z (fun p=>k (V.gs 1 p) [])
theorem zMk(L:Nat):DK (zsp zam L) (fun _=>yj zqW (zpQ xC zh L) L zAm):=zF zcd fun p=>zF zdJ fun z=>zP fun _ k=>zL0 xC zh L p z k
def zs5:Hint:=⟨[(0,0),(1,7)],[],[none],[],[],false,false,[]⟩
def zwO:CF:=cfD zs5 97
def znL:Nat→Sh:=zl []
def znP(xa:zt)(zh:zU)(L:Nat):CBC:=(xg 193 (zfw zh L) (xg 185 (zh3 xa L) noC))
def zo7{β:Type}(xa:zt)(zh:zU)(L:Nat)(A z:Ls)(p:Ls→Ob β):Ob β:=lt (QG .u64 ((XK z:Nat):Int)) fun C=>xa β L A C (fun D=>zh β L D z (fun E=>p E))
theorem zH9{β:Type}(xa:zt)(zh:zU)(L:Nat)(p z:Ls)(k:KK β):yj znL (znP xa zh L) L zwO [(V.sl 1 p),(V.sl 1 z)] [] k=zo7 xa zh L p z (fun p=>k (V.gs 1 p) []):=by kernel_rfl
abbrev yx:=∀ (β:Type),Nat→Ls→Ls→(Ls→Ob β)→Ob β
def yc:yx:=fun β=>@zo7 β xa zh
def zj6(yc:yx)(L:Nat):Dk:=dA (AL 1) fun p=>dA (AL 1) fun z=>d0 fun β k=>yc β L p z (fun p=>k (V.gs 1 p) [])
theorem zIA(L:Nat):DK (zj6 yc L) (fun _=>yj znL (znP xa zh L) L zwO):=zF zcd fun p=>zF zcd fun z=>zP fun _ k=>zH9 xa zh L p z k
def zKW:Hint:=⟨[(0,0),(0,1),(1,7)],[],[none],[],[],false,false,[]⟩
def zPq:CF:=cfD zKW 96
def zDF:Nat→Sh:=zl [(4,(.int .i64)),(8,(.sl 1))]
def zFl(zam:ziD)(yc:yx)(L:Nat):CBC:=(xg 187 (zj6 yc L) (xg 206 (zsp zam L) noC))
def zIW{β:Type}(zam:ziD)(yc:yx)(L:Nat)(z:List V)(p:Ls→Ob β):Ob β:=cI .i64 z 0 fun A=>lt (QG .u64 A) fun C=>zam β L ([]:Ls) C (fun D=>cLd 1 z 1 fun E=>yc β L D E (fun F=>p F))
theorem zWI{β:Type}(zam:ziD)(yc:yx)(L:Nat)(p:List V)(k:KK β):yj zDF (zFl zam yc L) L zPq [(V.agg p)] [] k=zIW zam yc L p (fun p=>k (V.gs 1 p) []):=by kernel_rfl
abbrev zT:=∀ (β:Type),Nat→List V→(Ls→Ob β)→Ob β
def xj:zT:=fun β=>@zIW β zam yc
def zzi(xj:zT)(L:Nat):Dk:=dA AG fun p=>d0 fun β k=>xj β L p (fun p=>k (V.gs 1 p) [])
theorem zXk(L:Nat):DK (zzi xj L) (fun _=>yj zDF (zFl zam yc L) L zPq):=zF zap fun p=>zP fun _ k=>zWI zam yc L p k
def zCc:Hint:=⟨[(0,0),(0,1),(1,3),(2,6),(5,2),(6,0),(6,8),(8,6),(11,2),(12,0),(12,4),(14,4),(17,2),(19,6),(23,3),(26,0),(26,1)],[],[none,some ((bl 117440550 89),(bl 618970019642689974240802175 89)),none,some ((bl 38 89),(bl 618970019642689974240802175 89)),none,none,some ((bl 492581209243686 89),(bl 618970019588646941921113471 89)),none,some ((bl 38 89),(bl 618970019588646941921113471 89)),none,none,some ((bl 32281802128991715362 89),(bl 579934938295289650113140091 89)),none,some ((bl 32 89),(bl 579934938295289650113140091 89)),none,none,some ((bl 32 89),(bl 579934938295289650113140091 89)),none,some ((bl 1057842373964929519583266 89),(bl 580284393415022003858953595 89)),none,some ((bl 32281802128991715362 89),(bl 580284393415022003858953595 89)),none,none],[],[],false,false,[]⟩
def cf_ref09_encode:CF:=cfD zCc 55
def zed:CC:=zE [1,1,1,1,1,1,1,0,1,0,0,1,1,0,0,1,1,1,1,0,0] cf_ref09_encode.body
def zmV:CC:=zE [1,1,1,1,1,1,1,0,1,0,0,1,1,1] cf_ref09_encode.body
def zfE:CC:=zE [1,1,1,1,1,1,1,0,1,0,0] cf_ref09_encode.body
def zkv:CC:=zE [1,1,1,1,1,0,1,0,0] cf_ref09_encode.body
def ztb:CC:=zE [1,1,1,1,1,1,1,1] cf_ref09_encode.body
def zmT:CC:=zE [1,1,1,0,1,0,0] cf_ref09_encode.body
def znI:CC:=zE [1,1,1,1,1,1] cf_ref09_encode.body
def zqH:CC:=zE [1,1,1,1] cf_ref09_encode.body
def xS:Nat→Sh:=zl [(15,(.int .u32)),(19,(.sl 35)),(24,(.sl 35)),(36,(.int .u32)),(41,(.sl 2)),(46,(.sl 2)),(59,(.int .u32)),(62,(.sl 35)),(72,(.sl 1)),(77,(.sl 1)),(82,(.sl 1))]
def yS(zb:yu)(xa:zt)(xf:xM)(xj:zT)(yc:yx)(L:Nat):CBC:=(xg 187 (zj6 yc L) (xg 186 (zzi xj L) (xg 138 (ztX xf L) (xg 185 (zh3 xa L) (xg 159 (zgz zb L) noC)))))
def zn8:St→St:=zQ 0 (bl 117440550 89) (bl 618970019642689974240802175 89)
def zlh:St→St:=zQ 0 (bl 492581209243686 89) (bl 618970019588646941921113471 89)
def zcw:St→St:=zQ 0 (bl 32281802128991715362 89) (bl 579934938295289650113140091 89)
def zer:St→St:=zQ 0 (bl 1057842373964929519583266 89) (bl 580284393415022003858953595 89)
def zgZ(C:Bool)(D p:Ls)(z A:Int)(E:List V):St:=⟨(jn 1 ((V.sc (.bool C))::((V.ptr 2 0)::(jn 2 ((V.gs 1 D)::(jn 18 ((V.sl 35 p)::((Qe z)::((Qe A)::(jn 62 [])))))))))),(gn 2 ((.live true E)::(gn 86 [])))⟩
def zkG(p:Bool)(z:Ls)(A:List V):St:=⟨(jn 1 ((V.sc (.bool p))::((V.ptr 2 0)::(jn 2 ((V.gs 1 z)::(jn 83 [])))))),(gn 2 ((.live true A)::(gn 86 [])))⟩
def zfH(C:Bool)(D p:Ls)(z A:Int)(E:List V):St:=⟨(jn 1 ((V.sc (.bool C))::((V.ptr 2 0)::(jn 2 ((V.gs 1 D)::(jn 40 ((V.sl 2 p)::((Qe z)::((Qe A)::(jn 40 [])))))))))),(gn 2 ((.live true E)::(gn 86 [])))⟩
def zlb(p:Bool)(z:Ls)(A:List V):St:=⟨(jn 1 ((V.sc (.bool p))::((V.ptr 2 0)::(jn 2 ((V.gs 1 z)::(jn 83 [])))))),(gn 2 ((.live true A)::(gn 86 [])))⟩
def zbU(C:Bool)(D p:Ls)(z A:Int):St:=⟨(jn 1 ((V.sc (.bool C))::(jn 3 ((V.gs 1 D)::(jn 56 ((V.sl 35 p)::((Qe z)::((Qe A)::(jn 24 []))))))))),(gn 89 [])⟩
def zk5(p:Ls):St:=⟨(jn 5 ((V.gs 1 p)::(jn 83 []))),(gn 89 [])⟩
def zbW(F:Bool)(G p:Ls)(z A:Int)(C:Ls)(D E:Int):St:=⟨(jn 1 ((V.sc (.bool F))::(jn 3 ((V.gs 1 G)::(jn 56 ((V.sl 35 p)::((Qe z)::((Qe A)::(jn 12 ((V.sl 1 C)::((Qe D)::((Qe E)::(jn 9 []))))))))))))),(gn 89 [])⟩
def zp6(C:Bool)(D p:Ls)(z A:Int):St:=⟨(jn 1 ((V.sc (.bool C))::(jn 3 ((V.gs 1 D)::(jn 56 ((V.sl 35 p)::((Qe z)::((Qe A)::(jn 24 []))))))))),(gn 89 [])⟩
abbrev zva(β:Type):Type:=Bool→Ls→Ls→Int→Int→List V→Ob β
abbrev zrI(β:Type):Type:=Bool→Ls→Ls→Int→Int→List V→Ob β
abbrev zik(β:Type):Type:=Bool→Ls→Ls→Int→Int→Ls→Int→Int→Ob β
def zyd{β:Type}(zb:yu)(xa:zt)(xf:xM)(xj:zT)(yc:yx)(L:Nat)(z:List V)(C:Bool)(p:zva β):Ob β:=cI .u32 z 0 fun D=>zb β L ([]:Ls) D (fun E=>cLd 35 z 1 fun F=>lt (QG .u64 ((XK F:Nat):Int)) fun G=>xa β L E G (fun H=>cLd 35 z 1 fun A=>p C H A ((XK A:Nat):Int) (0:Int) z))
theorem zRr{β:Type}(zb:yu)(xa:zt)(xf:xM)(xj:zT)(yc:yx)(L:Nat)(z:List V)(p:Bool)(k:KK β):yj xS (yS zb xa xf xj yc L) L cf_ref09_encode [(V.agg z),(V.sc (.bool p))] [] k=zyd zb xa xf xj yc L z p (fun p E A C D F=>xw (ze xS (yS zb xa xf xj yc L) 0 L zmT) zn8 L (zgZ p E A C D F) (zg 0 (zu (ze xS (yS zb xa xf xj yc L) 0 L zqH) (yz 0 (CF.res cf_ref09_encode) k)))):=by kernel_rfl
def znh{β:Type}(zb:yu)(xa:zt)(xf:xM)(xj:zT)(yc:yx)(L:Nat)(H:Bool)(A C:Ls)(D z:Int)(I:List V)(p:zva β)(E:Bool→Ls→List V→Ob β):Ob β:=ifb (decide (z<D)) (idx C z fun J=>chk ((XK (XL 35 J))=35∧0+35≤35) (lt (zq (We 32 (Qa (0:Int))++[(Qc (0:Int)),(Qc (0:Int)),(V.gs 1 ([]:Ls))]) 0 (XL 35 J)) fun F=>chk (0+33≤(XK F)) (xf β L (XL 33 F) (fun G=>chk ((XK A+XK G)*1≤xo∧XK A+XK G≤xo) (lt (A++G) fun P=>cI .u32 F 33 fun M=>zb β L P M (fun N=>lt (QG .i64 ((z:Int)+(1:Int))) fun O=>p H N C D O I)))))) (E H A I)
theorem zFS{β:Type}(zb:yu)(xa:zt)(xf:xM)(xj:zT)(yc:yx)(L:Nat)(C:Bool)(D p:Ls)(z A:Int)(E:List V)(X:St→Ob β)(K:KT β):ze xS (yS zb xa xf xj yc L) 0 L zmT (zgZ C D p z A E) (yF zn8 X K)=znh zb xa xf xj yc L C D p z A E (fun C D p z A E=>X (zgZ C D p z A E)) (fun C D E=>K (.exit 0) (zkG C D E)):=by kernel_rfl
def zlJ{β:Type}(zb:yu)(xa:zt)(xf:xM)(xj:zT)(yc:yx)(L:Nat)(F:Bool)(G:Ls)(A:List V)(p:zrI β):Ob β:=cLd 2 A 2 fun C=>lt (QG .u64 ((XK C:Nat):Int)) fun D=>xa β L G D (fun E=>cLd 2 A 2 fun z=>p F E z ((XK z:Nat):Int) (0:Int) A)
theorem zDr{β:Type}(zb:yu)(xa:zt)(xf:xM)(xj:zT)(yc:yx)(L:Nat)(p:Bool)(z:Ls)(A:List V)(k:KK β):(zg 0 (zu (ze xS (yS zb xa xf xj yc L) 0 L zqH) (yz 0 (CF.res cf_ref09_encode) k))) (.exit 0) (zkG p z A)=zlJ zb xa xf xj yc L p z A (fun p z C D E A=>xw (ze xS (yS zb xa xf xj yc L) 0 L zkv) zlh L (zfH p z C D E A) (zg 2 (zu (ze xS (yS zb xa xf xj yc L) 0 L znI) (yz 0 (CF.res cf_ref09_encode) k)))):=by kernel_rfl
def zlz{β:Type}(zb:yu)(xa:zt)(xf:xM)(xj:zT)(yc:yx)(L:Nat)(I:Bool)(C D:Ls)(E z:Int)(J:List V)(p:zrI β)(H:Bool→Ls→List V→Ob β):Ob β:=ifb (decide (z<E)) (idx D z fun F=>chk ((XK (XL 2 F))=2∧0+2≤2) (lt (zq [(Qe (0:Int)),(V.gs 1 ([]:Ls))] 0 (XL 2 F)) fun G=>chk (0+2≤(XK G)) (xj β L (Xv V.dem (XL 2 G)) (fun A=>chk ((XK C+XK A)*1≤xo∧XK C+XK A≤xo) (lt (C++A) fun M=>lt (QG .i64 ((z:Int)+(1:Int))) fun N=>p I M D E N J))))) (H I C J)
theorem zCW{β:Type}(zb:yu)(xa:zt)(xf:xM)(xj:zT)(yc:yx)(L:Nat)(C:Bool)(D p:Ls)(z A:Int)(E:List V)(X:St→Ob β)(K:KT β):ze xS (yS zb xa xf xj yc L) 0 L zkv (zfH C D p z A E) (yF zlh X K)=zlz zb xa xf xj yc L C D p z A E (fun C D p z A E=>X (zfH C D p z A E)) (fun C D E=>K (.exit 2) (zlb C D E)):=by kernel_rfl
def zjN{β:Type}(zb:yu)(xa:zt)(xf:xM)(xj:zT)(yc:yx)(L:Nat)(E:Bool)(F:Ls)(A:List V)(p:Bool→Ls→Ls→Int→Int→Ob β):Ob β:=cI .u32 A 3 fun C=>zb β L F C (fun D=>cLd 35 A 1 fun z=>p E D z ((XK z:Nat):Int) (0:Int))
theorem zAu{β:Type}(zb:yu)(xa:zt)(xf:xM)(xj:zT)(yc:yx)(L:Nat)(p:Bool)(z:Ls)(A:List V)(k:KK β):(zg 2 (zu (ze xS (yS zb xa xf xj yc L) 0 L znI) (yz 0 (CF.res cf_ref09_encode) k))) (.exit 2) (zlb p z A)=zjN zb xa xf xj yc L p z A (fun p z C D E=>xw (ze xS (yS zb xa xf xj yc L) 0 L zfE) zcw L (zbU p z C D E) (zg 4 (zu (ze xS (yS zb xa xf xj yc L) 0 L ztb) (yz 0 (CF.res cf_ref09_encode) k)))):=by kernel_rfl
def zf1{β:Type}(zb:yu)(xa:zt)(xf:xM)(xj:zT)(yc:yx)(L:Nat)(I:Bool)(H C:Ls)(D z:Int)(A:Ls→Ob β)(p:zik β):Ob β:=ifb (decide (z<D)) (idx C z fun E=>chk ((XK (XL 35 E))=35∧0+35≤35) (lt (zq (We 32 (Qa (0:Int))++[(Qc (0:Int)),(Qc (0:Int)),(V.gs 1 ([]:Ls))]) 0 (XL 35 E)) fun F=>ifb (!I) (A H) (cLd 1 F 34 fun J=>lt (QG .u64 ((XK J:Nat):Int)) fun M=>xa β L H M (fun N=>cLd 1 F 34 fun G=>p I N C D z G ((XK G:Nat):Int) (0:Int))))) (A H)
theorem zAy{β:Type}(zb:yu)(xa:zt)(xf:xM)(xj:zT)(yc:yx)(L:Nat)(D:Bool)(C p:Ls)(z A:Int)(X:St→Ob β)(K:KT β):ze xS (yS zb xa xf xj yc L) 0 L zfE (zbU D C p z A) (yF zcw X K)=zf1 zb xa xf xj yc L D C p z A (fun C=>K (.exit 4) (zk5 C)) (fun D C p z A E F G=>xw (ze xS (yS zb xa xf xj yc L) 0 L zed) zer L (zbW D C p z A E F G) (zg 6 (zg 5 (zu (ze xS (yS zb xa xf xj yc L) 0 L zmV) (yF zcw X K))))):=by kernel_rfl
def zfe{β:Type}(zb:yu)(xa:zt)(xf:xM)(xj:zT)(yc:yx)(L:Nat)(z:Ls)(p:Ls→Ob β):Ob β:=p z
theorem zxE{β:Type}(zb:yu)(xa:zt)(xf:xM)(xj:zT)(yc:yx)(L:Nat)(p:Ls)(k:KK β):(zg 4 (zu (ze xS (yS zb xa xf xj yc L) 0 L ztb) (yz 0 (CF.res cf_ref09_encode) k))) (.exit 4) (zk5 p)=zfe zb xa xf xj yc L p (fun z=>k (V.gs 1 z) []):=by kernel_rfl
def zev{β:Type}(zb:yu)(xa:zt)(xf:xM)(xj:zT)(yc:yx)(L:Nat)(H:Bool)(I A:Ls)(C D:Int)(E:Ls)(F z:Int)(p:zik β)(G:Bool→Ls→Ls→Int→Int→Ob β):Ob β:=ifb (decide (z<F)) (idx E z fun J=>cL 1 J 0 fun M=>yc β L I M (fun N=>lt (QG .i64 ((z:Int)+(1:Int))) fun O=>p H N A C D E F O)) (G H I A C D)
theorem zpP{β:Type}(zb:yu)(xa:zt)(xf:xM)(xj:zT)(yc:yx)(L:Nat)(F:Bool)(G p:Ls)(z A:Int)(C:Ls)(D E:Int)(X:St→Ob β)(K:KT β):ze xS (yS zb xa xf xj yc L) 0 L zed (zbW F G p z A C D E) (yF zer X K)=zev zb xa xf xj yc L F G p z A C D E (fun F G p z A C D E=>X (zbW F G p z A C D E)) (fun F G p z A=>K (.exit 6) (zp6 F G p z A)):=by kernel_rfl
def zd1{β:Type}(zb:yu)(xa:zt)(xf:xM)(xj:zT)(yc:yx)(L:Nat)(E:Bool)(F z:Ls)(A C:Int)(p:Bool→Ls→Ls→Int→Int→Ob β):Ob β:=lt (QG .i64 ((C:Int)+(1:Int))) fun D=>p E F z A D
theorem zoo{β:Type}(zb:yu)(xa:zt)(xf:xM)(xj:zT)(yc:yx)(L:Nat)(C:Bool)(D p:Ls)(z A:Int)(X:St→Ob β)(K:KT β):(zg 6 (zg 5 (zu (ze xS (yS zb xa xf xj yc L) 0 L zmV) (yF zcw X K)))) (.exit 6) (zp6 C D p z A)=zd1 zb xa xf xj yc L C D p z A (fun C D p z A=>X (zbU C D p z A)):=by kernel_rfl
def zf3{β:Type}(zb:yu)(xa:zt)(xf:xM)(xj:zT)(yc:yx)(L:Nat)(p:Bool→Ls→List V→Ob β):Nat→Bool→Ls→Ls→Int→Int→List V→Ob β
 | 0,_,_,_,_,_,_=>none
 | n+1,D,E,z,A,C,F=>znh zb xa xf xj yc L D E z A C F (fun D E z A C F=>zf3 zb xa xf xj yc L p n D E z A C F) p
theorem zrD{β:Type}(zb:yu)(xa:zt)(xf:xM)(xj:zT)(yc:yx)(L:Nat)(K:KT β):∀ (n:Nat) (p:Bool) (z C:Ls) (D E:Int) (A:List V),xw (ze xS (yS zb xa xf xj yc L) 0 L zmT) zn8 n (zgZ p z C D E A) K=zf3 zb xa xf xj yc L (fun p z A=>K (.exit 0) (zkG p z A)) n p z C D E A:=by
 intro n; induction n <;> intros
 ·rfl
 ·exact (zFS ..).trans (by simp only [*]; rfl)
def zeX{β:Type}(zb:yu)(xa:zt)(xf:xM)(xj:zT)(yc:yx)(L:Nat)(p:Bool→Ls→List V→Ob β):Nat→Bool→Ls→Ls→Int→Int→List V→Ob β
 | 0,_,_,_,_,_,_=>none
 | n+1,D,E,z,A,C,F=>zlz zb xa xf xj yc L D E z A C F (fun D E z A C F=>zeX zb xa xf xj yc L p n D E z A C F) p
theorem zpF{β:Type}(zb:yu)(xa:zt)(xf:xM)(xj:zT)(yc:yx)(L:Nat)(K:KT β):∀ (n:Nat) (p:Bool) (z C:Ls) (D E:Int) (A:List V),xw (ze xS (yS zb xa xf xj yc L) 0 L zkv) zlh n (zfH p z C D E A) K=zeX zb xa xf xj yc L (fun p z A=>K (.exit 2) (zlb p z A)) n p z C D E A:=by
 intro n; induction n <;> intros
 ·rfl
 ·exact (zCW ..).trans (by simp only [*]; rfl)
def zby{β:Type}(zb:yu)(xa:zt)(xf:xM)(xj:zT)(yc:yx)(L:Nat)(p:Bool→Ls→Ls→Int→Int→Ob β):Nat→Bool→Ls→Ls→Int→Int→Ls→Int→Int→Ob β
 | 0,_,_,_,_,_,_,_,_=>none
 | n+1,G,H,z,A,C,D,E,F=>zev zb xa xf xj yc L G H z A C D E F (fun G H z A C D E F=>zby zb xa xf xj yc L p n G H z A C D E F) p
theorem zhs{β:Type}(zb:yu)(xa:zt)(xf:xM)(xj:zT)(yc:yx)(L:Nat)(K:KT β):∀ (n:Nat) (C:Bool) (D p:Ls) (z A:Int) (E:Ls) (F G:Int),xw (ze xS (yS zb xa xf xj yc L) 0 L zed) zer n (zbW C D p z A E F G) K=zby zb xa xf xj yc L (fun C D p z A=>K (.exit 6) (zp6 C D p z A)) n C D p z A E F G:=by
 intro n; induction n <;> intros
 ·rfl
 ·exact (zpP ..).trans (by simp only [*]; rfl)
def zdw{β:Type}(zb:yu)(xa:zt)(xf:xM)(xj:zT)(yc:yx)(L:Nat)(D:Bool)(E z:Ls)(A C:Int)(F:Ls→Ob β)(p:Bool→Ls→Ls→Int→Int→Ob β):Ob β:=zf1 zb xa xf xj yc L D E z A C F (fun D E z A C G H I=>zby zb xa xf xj yc L (fun D E z A C=>zd1 zb xa xf xj yc L D E z A C p) L D E z A C G H I)
theorem zyF{β:Type}(zb:yu)(xa:zt)(xf:xM)(xj:zT)(yc:yx)(L:Nat)(D:Bool)(C p:Ls)(z A:Int)(X:St→Ob β)(K:KT β):ze xS (yS zb xa xf xj yc L) 0 L zfE (zbU D C p z A) (yF zcw X K)=zdw zb xa xf xj yc L D C p z A (fun C=>K (.exit 4) (zk5 C)) (fun D C p z A=>X (zbU D C p z A)):=by
 refine (zAy zb xa xf xj yc L D C p z A X K).trans ?_
 unfold zdw
 first
  | (simp only [zhs,zoo]; done)
  | (simp only [zhs]; rfl)
def zbe{β:Type}(zb:yu)(xa:zt)(xf:xM)(xj:zT)(yc:yx)(L:Nat)(p:Ls→Ob β):Nat→Bool→Ls→Ls→Int→Int→Ob β
 | 0,_,_,_,_,_=>none
 | n+1,D,E,z,A,C=>zdw zb xa xf xj yc L D E z A C p (fun D E z A C=>zbe zb xa xf xj yc L p n D E z A C)
theorem zm5{β:Type}(zb:yu)(xa:zt)(xf:xM)(xj:zT)(yc:yx)(L:Nat)(K:KT β):∀ (n:Nat) (D:Bool) (p z:Ls) (A C:Int),xw (ze xS (yS zb xa xf xj yc L) 0 L zfE) zcw n (zbU D p z A C) K=zbe zb xa xf xj yc L (fun p=>K (.exit 4) (zk5 p)) n D p z A C:=by
 intro n; induction n <;> intros
 ·rfl
 ·exact (zyF ..).trans (by simp only [*]; rfl)
def zfK{β:Type}(zb:yu)(xa:zt)(xf:xM)(xj:zT)(yc:yx)(L:Nat)(A:Bool)(p:Ls)(F:List V)(z:Ls→Ob β):Ob β:=zjN zb xa xf xj yc L A p F (fun A p C D E=>zbe zb xa xf xj yc L (fun p=>zfe zb xa xf xj yc L p z) L A p C D E)
theorem zyC{β:Type}(zb:yu)(xa:zt)(xf:xM)(xj:zT)(yc:yx)(L:Nat)(p:Bool)(z:Ls)(A:List V)(k:KK β):(zg 2 (zu (ze xS (yS zb xa xf xj yc L) 0 L znI) (yz 0 (CF.res cf_ref09_encode) k))) (.exit 2) (zlb p z A)=zfK zb xa xf xj yc L p z A (fun C=>k (V.gs 1 C) []):=by
 refine (zAu zb xa xf xj yc L p z A k).trans ?_
 unfold zfK
 first
  | (simp only [zm5,zxE]; done)
  | (simp only [zm5]; rfl)
def zgU{β:Type}(zb:yu)(xa:zt)(xf:xM)(xj:zT)(yc:yx)(L:Nat)(p:Bool)(z:Ls)(A:List V)(C:Ls→Ob β):Ob β:=zlJ zb xa xf xj yc L p z A (fun p z D E F A=>zeX zb xa xf xj yc L (fun p z A=>zfK zb xa xf xj yc L p z A C) L p z D E F A)
theorem zBj{β:Type}(zb:yu)(xa:zt)(xf:xM)(xj:zT)(yc:yx)(L:Nat)(p:Bool)(z:Ls)(A:List V)(k:KK β):(zg 0 (zu (ze xS (yS zb xa xf xj yc L) 0 L zqH) (yz 0 (CF.res cf_ref09_encode) k))) (.exit 0) (zkG p z A)=zgU zb xa xf xj yc L p z A (fun C=>k (V.gs 1 C) []):=by
 refine (zDr zb xa xf xj yc L p z A k).trans ?_
 unfold zgU
 first
  | (simp only [zpF,zyC]; done)
  | (simp only [zpF]; rfl)
def zrz{β:Type}(zb:yu)(xa:zt)(xf:xM)(xj:zT)(yc:yx)(L:Nat)(G:List V)(p:Bool)(z:Ls→Ob β):Ob β:=zyd zb xa xf xj yc L G p (fun p A D E F C=>zf3 zb xa xf xj yc L (fun p A C=>zgU zb xa xf xj yc L p A C z) L p A D E F C)
theorem zRu{β:Type}(zb:yu)(xa:zt)(xf:xM)(xj:zT)(yc:yx)(L:Nat)(p:List V)(z:Bool)(k:KK β):yj xS (yS zb xa xf xj yc L) L cf_ref09_encode [(V.agg p),(V.sc (.bool z))] [] k=zrz zb xa xf xj yc L p z (fun p=>k (V.gs 1 p) []):=by
 refine (zRr zb xa xf xj yc L p z k).trans ?_
 unfold zrz
 first
  | (simp only [zrD,zBj]; done)
  | (simp only [zrD]; rfl)
abbrev yG:=∀ (β:Type),Nat→List V→Bool→(Ls→Ob β)→Ob β
def xd:yG:=fun β=>@zrz β zb xa xf xj yc
def zfn(xd:yG)(L:Nat):Dk:=dA AG fun p=>dA AB fun z=>d0 fun β k=>xd β L p z (fun p=>k (V.gs 1 p) [])
theorem zQQ(L:Nat):DK (zfn xd L) (fun _=>yj xS (yS zb xa xf xj yc L) L cf_ref09_encode):=zF zap fun p=>zF zVU fun z=>zP fun _ k=>zRu zb xa xf xj yc L p z k
def zHr:Hint:=⟨[(0,0),(5,2),(11,2)],[],[none,none,none,some ((bl 7340034 63),(bl 9223372032559808427 63)),none,some ((bl 2 63),(bl 9223372032559808427 63)),none,none,some ((bl 4 63),(bl 9223372032559808429 63)),none,some ((bl 962072674306 63),(bl 9186745105510301355 63)),none,some ((bl 2 63),(bl 9186745105510301355 63)),none,none,some ((bl 4 63),(bl 9186745105510301357 63)),none,some ((bl 1971286909648898 63),(bl 9187343239835811499 63)),none,some ((bl 962072674306 63),(bl 9187343239835811499 63)),none,none,some ((bl 4 63),(bl 9186745105510301357 63)),none],[],[],false,false,[]⟩
def cf_ref09_Fits:CF:=cfD zHr 53
def zhd:CC:=zE [1,1,1,0,1,0,0,1,1,0,0,1,1,1,0,0] cf_ref09_Fits.body
def zlt:CC:=zE [1,1,1,0,1,0,0,1,1,1] cf_ref09_Fits.body
def zka:CC:=zE [1,1,1,0,1,0,0] cf_ref09_Fits.body
def zqA:CC:=zE [1,1,0,1,0,0] cf_ref09_Fits.body
def zuJ:CC:=zE [1,1,1,1] cf_ref09_Fits.body
def zpw:CC:=zE [1,1,1] cf_ref09_Fits.body
def zac:Nat→Sh:=zl [(10,(.sl 35)),(15,(.sl 2)),(20,(.sl 2)),(27,(.int .i64)),(31,(.sl 1)),(37,(.sl 35)),(44,(.sl 1)),(48,(.sl 1)),(53,(.sl 1))]
def zad(xd:yG)(L:Nat):CBC:=(xg 149 (zfn xd L) noC)
def zsI:St→St:=zQ 0 (bl 7340034 63) (bl 9223372032559808427 63)
def zdZ:St→St:=zQ 0 (bl 962072674306 63) (bl 9186745105510301355 63)
def zh5:St→St:=zQ 0 (bl 1971286909648898 63) (bl 9187343239835811499 63)
def zjn(p:Ls)(z A:Int)(C:List V):St:=⟨(jn 1 ((V.ptr 1 0)::(jn 18 ((V.sl 2 p)::((Qe z)::((Qe A)::(jn 40 []))))))),(gn 1 ((.live true C)::(gn 61 [])))⟩
def zbx(p:Bool):St:=⟨(jn 2 ((V.sc (.bool p))::(jn 60 []))),(gn 63 [])⟩
def znY(p:List V):St:=⟨(jn 1 ((V.ptr 1 0)::(jn 61 []))),(gn 1 ((.live true p)::(gn 61 [])))⟩
def zdD(p:Ls)(z A:Int)(C:List V):St:=⟨(jn 1 ((V.ptr 1 0)::(jn 35 ((V.sl 35 p)::((Qe z)::((Qe A)::(jn 23 []))))))),(gn 1 ((.live true C)::(gn 61 [])))⟩
def zdk(p:Ls)(z A:Int)(C:Ls)(D E:Int)(F:List V):St:=⟨(jn 1 ((V.ptr 1 0)::(jn 35 ((V.sl 35 p)::((Qe z)::((Qe A)::(jn 8 ((V.sl 1 C)::((Qe D)::((Qe E)::(jn 12 []))))))))))),(gn 1 ((.live true F)::(gn 61 [])))⟩
def znc(p:List V):St:=⟨(jn 1 ((V.ptr 1 0)::(jn 61 []))),(gn 1 ((.live true p)::(gn 61 [])))⟩
def ztZ(p:Ls)(z A:Int)(C:List V):St:=⟨(jn 1 ((V.ptr 1 0)::(jn 35 ((V.sl 35 p)::((Qe z)::((Qe A)::(jn 23 []))))))),(gn 1 ((.live true C)::(gn 61 [])))⟩
abbrev zmD(β:Type):Type:=Ls→Int→Int→Ls→Int→Int→List V→Ob β
def zFs{β:Type}(xd:yG)(L:Nat)(A:List V)(z:Bool→Ob β)(p:Ls→Int→Int→List V→Ob β):Ob β:=cLd 35 A 1 fun D=>ifb (decide (((XK D:Nat):Int)>(64:Int))) (z false) (cLd 2 A 2 fun E=>ifb (decide (((XK E:Nat):Int)>(64:Int))) (z false) (cLd 2 A 2 fun C=>p C ((XK C:Nat):Int) (0:Int) A))
theorem zU1{β:Type}(xd:yG)(L:Nat)(p:List V)(k:KK β):yj zac (zad xd L) L cf_ref09_Fits [(V.agg p)] [] k=zFs xd L p (fun p=>k (V.sc (.bool p)) []) (fun z A C D=>xw (ze zac (zad xd L) 0 L zqA) zsI L (zjn z A C D) (zg 0 (zu (ze zac (zad xd L) 0 L zpw) (yz 0 (CF.res cf_ref09_Fits) k)))):=by kernel_rfl
def zso{β:Type}(xd:yG)(L:Nat)(C:Ls)(D A:Int)(F:List V)(z:Bool→Ob β)(p:Ls→Int→Int→List V→Ob β)(E:List V→Ob β):Ob β:=ifb (decide (A<D)) (idx C A fun G=>chk ((XK (XL 2 G))=2∧0+2≤2) (lt (zq [(Qe (0:Int)),(V.gs 1 ([]:Ls))] 0 (XL 2 G)) fun H=>cI .i64 H 0 fun I=>ifb (decide (I<(0:Int))) (z false) (cLd 1 H 1 fun J=>ifb (decide (((XK J:Nat):Int)>(520:Int))) (z false) (lt (QG .i64 ((A:Int)+(1:Int))) fun M=>p C D M F)))) (E F)
theorem zMF{β:Type}(xd:yG)(L:Nat)(p:Ls)(z A:Int)(C:List V)(X:St→Ob β)(K:KT β):ze zac (zad xd L) 0 L zqA (zjn p z A C) (yF zsI X K)=zso xd L p z A C (fun D=>K .ret (zbx D)) (fun p z A C=>X (zjn p z A C)) (fun C=>K (.exit 0) (znY C)):=by kernel_rfl
def znS{β:Type}(xd:yG)(L:Nat)(z:Bool)(p:Bool→Ob β):Ob β:=p z
theorem zFV{β:Type}(xd:yG)(L:Nat)(p:Bool)(k:KK β):(zg 0 (zu (ze zac (zad xd L) 0 L zpw) (yz 0 (CF.res cf_ref09_Fits) k))) .ret (zbx p)=znS xd L p (fun z=>k (V.sc (.bool z)) []):=by kernel_rfl
def zpn{β:Type}(xd:yG)(L:Nat)(z:List V)(p:Ls→Int→Int→List V→Ob β):Ob β:=cLd 35 z 1 fun A=>p A ((XK A:Nat):Int) (0:Int) z
theorem zIH{β:Type}(xd:yG)(L:Nat)(p:List V)(k:KK β):(zg 0 (zu (ze zac (zad xd L) 0 L zpw) (yz 0 (CF.res cf_ref09_Fits) k))) (.exit 0) (znY p)=zpn xd L p (fun z A C p=>xw (ze zac (zad xd L) 0 L zka) zdZ L (zdD z A C p) (zg 2 (zu (ze zac (zad xd L) 0 L zuJ) (yz 0 (CF.res cf_ref09_Fits) k)))):=by kernel_rfl
def zq6{β:Type}(xd:yG)(L:Nat)(C:Ls)(D z:Int)(H:List V)(A:Bool→Ob β)(p:zmD β)(G:List V→Ob β):Ob β:=ifb (decide (z<D)) (idx C z fun I=>chk ((XK (XL 35 I))=35∧0+35≤35) (lt (zq (We 32 (Qa (0:Int))++[(Qc (0:Int)),(Qc (0:Int)),(V.gs 1 ([]:Ls))]) 0 (XL 35 I)) fun E=>cLd 1 E 34 fun J=>ifb (decide (((XK J:Nat):Int)>(32:Int))) (A false) (cLd 1 E 34 fun F=>p C D z F ((XK F:Nat):Int) (0:Int) H))) (G H)
theorem zJ2{β:Type}(xd:yG)(L:Nat)(p:Ls)(z A:Int)(C:List V)(X:St→Ob β)(K:KT β):ze zac (zad xd L) 0 L zka (zdD p z A C) (yF zdZ X K)=zq6 xd L p z A C (fun G=>K .ret (zbx G)) (fun p z A D E F C=>xw (ze zac (zad xd L) 0 L zhd) zh5 L (zdk p z A D E F C) (zg 4 (zg 3 (zu (ze zac (zad xd L) 0 L zlt) (yF zdZ X K))))) (fun C=>K (.exit 2) (znc C)):=by kernel_rfl
def zmR{β:Type}(xd:yG)(L:Nat)(z:Bool)(p:Bool→Ob β):Ob β:=p z
theorem zDX{β:Type}(xd:yG)(L:Nat)(p:Bool)(k:KK β):(zg 2 (zu (ze zac (zad xd L) 0 L zuJ) (yz 0 (CF.res cf_ref09_Fits) k))) .ret (zbx p)=zmR xd L p (fun z=>k (V.sc (.bool z)) []):=by kernel_rfl
def zn6{β:Type}(xd:yG)(L:Nat)(z:List V)(p:Bool→Ob β):Ob β:=chk (0+4≤(XK z)) (xd β L (Xv V.dem (XL 4 z)) true (fun A=>p (decide (((XK A:Nat):Int)≤(20000:Int)))))
theorem zF5{β:Type}(xd:yG)(L:Nat)(p:List V)(k:KK β):(zg 2 (zu (ze zac (zad xd L) 0 L zuJ) (yz 0 (CF.res cf_ref09_Fits) k))) (.exit 2) (znc p)=zn6 xd L p (fun z=>k (V.sc (.bool z)) []):=by kernel_rfl
def zhO{β:Type}(xd:yG)(L:Nat)(C:Ls)(D E:Int)(F:Ls)(G z:Int)(I:List V)(A:Bool→Ob β)(p:zmD β)(H:Ls→Int→Int→List V→Ob β):Ob β:=ifb (decide (z<G)) (idx F z fun J=>cL 1 J 0 fun M=>ifb (decide (((XK M:Nat):Int)>(520:Int))) (A false) (lt (QG .i64 ((z:Int)+(1:Int))) fun N=>p C D E F G N I)) (H C D E I)
theorem zwh{β:Type}(xd:yG)(L:Nat)(p:Ls)(z A:Int)(C:Ls)(D E:Int)(F:List V)(X:St→Ob β)(K:KT β):ze zac (zad xd L) 0 L zhd (zdk p z A C D E F) (yF zh5 X K)=zhO xd L p z A C D E F (fun G=>K .ret (zbx G)) (fun p z A C D E F=>X (zdk p z A C D E F)) (fun p z A F=>K (.exit 4) (ztZ p z A F)):=by kernel_rfl
def zf9{β:Type}(xd:yG)(L:Nat)(z:Bool)(p:Bool→Ob β):Ob β:=p z
theorem ztc{β:Type}(xd:yG)(L:Nat)(p:Bool)(X:St→Ob β)(K:KT β):(zg 4 (zg 3 (zu (ze zac (zad xd L) 0 L zlt) (yF zdZ X K)))) .ret (zbx p)=zf9 xd L p (fun p=>K .ret (zbx p)):=by kernel_rfl
def zgI{β:Type}(xd:yG)(L:Nat)(z:Ls)(A C:Int)(E:List V)(p:Ls→Int→Int→List V→Ob β):Ob β:=lt (QG .i64 ((C:Int)+(1:Int))) fun D=>p z A D E
theorem zuh{β:Type}(xd:yG)(L:Nat)(p:Ls)(z A:Int)(C:List V)(X:St→Ob β)(K:KT β):(zg 4 (zg 3 (zu (ze zac (zad xd L) 0 L zlt) (yF zdZ X K)))) (.exit 4) (ztZ p z A C)=zgI xd L p z A C (fun p z A C=>X (zdD p z A C)):=by kernel_rfl
def ziB{β:Type}(xd:yG)(L:Nat)(p:Bool→Ob β)(z:List V→Ob β):Nat→Ls→Int→Int→List V→Ob β
 | 0,_,_,_,_=>none
 | n+1,A,C,D,E=>zso xd L A C D E p (fun A C D E=>ziB xd L p z n A C D E) z
theorem zwT{β:Type}(xd:yG)(L:Nat)(K:KT β):∀ (n:Nat) (z:Ls) (A C:Int) (p:List V),xw (ze zac (zad xd L) 0 L zqA) zsI n (zjn z A C p) K=ziB xd L (fun D=>K .ret (zbx D)) (fun p=>K (.exit 0) (znY p)) n z A C p:=by
 intro n; induction n <;> intros
 ·rfl
 ·exact (zMF ..).trans (by simp only [*]; rfl)
def zcH{β:Type}(xd:yG)(L:Nat)(p:Bool→Ob β)(z:Ls→Int→Int→List V→Ob β):Nat→Ls→Int→Int→Ls→Int→Int→List V→Ob β
 | 0,_,_,_,_,_,_,_=>none
 | n+1,A,C,D,E,F,G,H=>zhO xd L A C D E F G H p (fun A C D E F G H=>zcH xd L p z n A C D E F G H) z
theorem zk6{β:Type}(xd:yG)(L:Nat)(K:KT β):∀ (n:Nat) (p:Ls) (z A:Int) (D:Ls) (E F:Int) (C:List V),xw (ze zac (zad xd L) 0 L zhd) zh5 n (zdk p z A D E F C) K=zcH xd L (fun G=>K .ret (zbx G)) (fun p z A C=>K (.exit 4) (ztZ p z A C)) n p z A D E F C:=by
 intro n; induction n <;> intros
 ·rfl
 ·exact (zwh ..).trans (by simp only [*]; rfl)
def zkb{β:Type}(xd:yG)(L:Nat)(p:Ls)(z A:Int)(E:List V)(D:Bool→Ob β)(F:List V→Ob β)(C:Ls→Int→Int→List V→Ob β):Ob β:=zq6 xd L p z A E D (fun p z A G H I E=>zcH xd L (fun J=>zf9 xd L J D) (fun p z A E=>zgI xd L p z A E C) L p z A G H I E) F
theorem zIY{β:Type}(xd:yG)(L:Nat)(p:Ls)(z A:Int)(C:List V)(X:St→Ob β)(K:KT β):ze zac (zad xd L) 0 L zka (zdD p z A C) (yF zdZ X K)=zkb xd L p z A C (fun D=>K .ret (zbx D)) (fun C=>K (.exit 2) (znc C)) (fun p z A C=>X (zdD p z A C)):=by
 refine (zJ2 xd L p z A C X K).trans ?_
 unfold zkb
 first
  | (simp only [zk6,ztc,zuh]; done)
  | (simp only [zk6]; rfl)
def zh2{β:Type}(xd:yG)(L:Nat)(p:Bool→Ob β)(z:List V→Ob β):Nat→Ls→Int→Int→List V→Ob β
 | 0,_,_,_,_=>none
 | n+1,A,C,D,E=>zkb xd L A C D E p z (fun A C D E=>zh2 xd L p z n A C D E)
theorem zuP{β:Type}(xd:yG)(L:Nat)(K:KT β):∀ (n:Nat) (z:Ls) (A C:Int) (p:List V),xw (ze zac (zad xd L) 0 L zka) zdZ n (zdD z A C p) K=zh2 xd L (fun D=>K .ret (zbx D)) (fun p=>K (.exit 2) (znc p)) n z A C p:=by
 intro n; induction n <;> intros
 ·rfl
 ·exact (zIY ..).trans (by simp only [*]; rfl)
def zi2{β:Type}(xd:yG)(L:Nat)(z:List V)(p:Bool→Ob β):Ob β:=zpn xd L z (fun A C D z=>zh2 xd L (fun E=>zmR xd L E p) (fun z=>zn6 xd L z p) L A C D z)
theorem zF0{β:Type}(xd:yG)(L:Nat)(p:List V)(k:KK β):(zg 0 (zu (ze zac (zad xd L) 0 L zpw) (yz 0 (CF.res cf_ref09_Fits) k))) (.exit 0) (znY p)=zi2 xd L p (fun z=>k (V.sc (.bool z)) []):=by
 refine (zIH xd L p k).trans ?_
 unfold zi2
 first
  | (simp only [zuP,zDX,zF5]; done)
  | (simp only [zuP]; rfl)
def zvL{β:Type}(xd:yG)(L:Nat)(E:List V)(p:Bool→Ob β):Ob β:=zFs xd L E p (fun A C D z=>ziB xd L (fun F=>znS xd L F p) (fun z=>zi2 xd L z p) L A C D z)
theorem zWc{β:Type}(xd:yG)(L:Nat)(p:List V)(k:KK β):yj zac (zad xd L) L cf_ref09_Fits [(V.agg p)] [] k=zvL xd L p (fun p=>k (V.sc (.bool p)) []):=by
 refine (zU1 xd L p k).trans ?_
 unfold zvL
 first
  | (simp only [zwT,zFV,zF0]; done)
  | (simp only [zwT]; rfl)
abbrev zw:=∀ (β:Type),Nat→List V→(Bool→Ob β)→Ob β
def xb:zw:=fun β=>@zvL β xd
def zeN(xb:zw)(L:Nat):Dk:=dA AG fun p=>d0 fun β k=>xb β L p (fun p=>k (V.sc (.bool p)) [])
theorem zVP(L:Nat):DK (zeN xb L) (fun _=>yj zac (zad xd L) L cf_ref09_Fits):=zF zap fun p=>zP fun _ k=>zWc xd L p k
def zK2:Hint:=⟨[(0,0),(1,1),(3,0),(3,3),(7,0),(7,9),(8,0),(8,1)],[],[none,some ((bl 9 31),(bl 2147385087 31)),none,some ((bl 9 31),(bl 2147385087 31)),none,none,some ((bl 25 31),(bl 1342177279 31)),none,some ((bl 8 31),(bl 1342177263 31)),none,none],[],[],false,false,[]⟩
def cf_ref03_Pad:CF:=cfD zK2 150
def zp0:CC:=zE [1,1,1,0,1,0,0] cf_ref03_Pad.body
def zt1:CC:=zE [1,1,0,0,0] cf_ref03_Pad.body
def zGN:CC:=zE [1,1,1,1] cf_ref03_Pad.body
def zyX:CC:=zE [1,1,1] cf_ref03_Pad.body
def zbS:Nat→Sh:=zl []
def zbR(L:Nat):CBC:=noC
def zxp:St→St:=zQ 0 (bl 9 31) (bl 2147385087 31)
def zrR:St→St:=zQ 0 (bl 25 31) (bl 1342177279 31)
def zkQ(p:Int)(z:Ls):St:=⟨((Qd p)::(jn 2 ((V.gs 1 z)::(jn 27 [])))),(gn 31 [])⟩
def zpq(p:Int)(z:Ls):St:=⟨((Qd p)::(jn 2 ((V.gs 1 z)::(jn 27 [])))),(gn 31 [])⟩
def zju(p:Int)(z:Ls)(A:Int):St:=⟨((Qd p)::(jn 2 ((V.gs 1 z)::((Qe A)::(jn 26 []))))),(gn 31 [])⟩
def zwC(p:Ls):St:=⟨(jn 3 ((V.gs 1 p)::(jn 27 []))),(gn 31 [])⟩
def zIy{β:Type}(L:Nat)(z:Int)(p:Int→Ls→Ob β):Ob β:=p z (xn 1 1 [(Qa (128:Int))])
theorem zXC{β:Type}(L:Nat)(p:Int)(k:KK β):yj zbS (zbR L) L cf_ref03_Pad [(Qd p)] [] k=zIy L p (fun p z=>xw (ze zbS (zbR L) 0 L zt1) zxp L (zkQ p z) (zg 0 (zu (ze zbS (zbR L) 0 L zyX) (yz 0 (CF.res cf_ref03_Pad) k)))):=by kernel_rfl
def zvu{β:Type}(L:Nat)(A:Int)(z:Ls)(p:Int→Ls→Ob β)(C:Int→Ls→Ob β):Ob β:=lt (QG .u64 ((XK z:Nat):Int)) fun D=>lt (QG .u64 ((A:Int)+D)) fun E=>lt (QG .u64 ((E:Int)+(8:Int))) fun F=>lt (Int.tmod F (64:Int)) fun G=>ifb ((G:Int) != (0:Int)) (chk ((XK z+XK (xn 1 1 [(Qa (0:Int))]))*1≤xo∧XK z+XK (xn 1 1 [(Qa (0:Int))])≤xo) (lt (z++(xn 1 1 [(Qa (0:Int))])) fun H=>p A H)) (C A z)
theorem zPA{β:Type}(L:Nat)(p:Int)(z:Ls)(X:St→Ob β)(K:KT β):ze zbS (zbR L) 0 L zt1 (zkQ p z) (yF zxp X K)=zvu L p z (fun p z=>X (zkQ p z)) (fun p z=>K (.exit 0) (zpq p z)):=by kernel_rfl
def zsj{β:Type}(L:Nat)(z:Int)(A:Ls)(p:Int→Ls→Int→Ob β):Ob β:=p z A (7:Int)
theorem zME{β:Type}(L:Nat)(p:Int)(z:Ls)(k:KK β):(zg 0 (zu (ze zbS (zbR L) 0 L zyX) (yz 0 (CF.res cf_ref03_Pad) k))) (.exit 0) (zpq p z)=zsj L p z (fun p z A=>xw (ze zbS (zbR L) 0 L zp0) zrR L (zju p z A) (zg 2 (zu (ze zbS (zbR L) 0 L zGN) (yz 0 (CF.res cf_ref03_Pad) k)))):=by kernel_rfl
def ziP{β:Type}(L:Nat)(E:Int)(z:Ls)(A:Int)(p:Int→Ls→Int→Ob β)(C:Ls→Ob β):Ob β:=ifb (decide (A≥(0:Int))) (lt (QG .u64 (((8:Int):Int)*E)) fun H=>lt (QG .i64 (((8:Int):Int)*A)) fun F=>chk (0≤F) (lt (zdB .u64 H F) fun I=>lt (QG .u8 I) fun D=>chk ((XK z+XK (xn 1 1 [(Qa D)]))*1≤xo∧XK z+XK (xn 1 1 [(Qa D)])≤xo) (lt (z++(xn 1 1 [(Qa D)])) fun J=>lt (QG .i64 ((A:Int)-(1:Int))) fun G=>p E J G))) (C z)
theorem zLK{β:Type}(L:Nat)(z:Int)(p:Ls)(A:Int)(X:St→Ob β)(K:KT β):ze zbS (zbR L) 0 L zp0 (zju z p A) (yF zrR X K)=ziP L z p A (fun z p A=>X (zju z p A)) (fun p=>K (.exit 2) (zwC p)):=by kernel_rfl
def zo5{β:Type}(L:Nat)(z:Ls)(p:Ls→Ob β):Ob β:=p z
theorem zIg{β:Type}(L:Nat)(p:Ls)(k:KK β):(zg 2 (zu (ze zbS (zbR L) 0 L zGN) (yz 0 (CF.res cf_ref03_Pad) k))) (.exit 2) (zwC p)=zo5 L p (fun z=>k (V.gs 1 z) []):=by kernel_rfl
def zkN{β:Type}(L:Nat)(p:Int→Ls→Ob β):Nat→Int→Ls→Ob β
 | 0,_,_=>none
 | n+1,z,A=>zvu L z A (fun z A=>zkN L p n z A) p
theorem zAp{β:Type}(L:Nat)(K:KT β):∀ (n:Nat) (p:Int) (z:Ls),xw (ze zbS (zbR L) 0 L zt1) zxp n (zkQ p z) K=zkN L (fun p z=>K (.exit 0) (zpq p z)) n p z:=by
 intro n; induction n <;> intros
 ·rfl
 ·exact (zPA ..).trans (by simp only [*]; rfl)
def zgy{β:Type}(L:Nat)(p:Ls→Ob β):Nat→Int→Ls→Int→Ob β
 | 0,_,_,_=>none
 | n+1,z,A,C=>ziP L z A C (fun z A C=>zgy L p n z A C) p
theorem zvB{β:Type}(L:Nat)(K:KT β):∀ (n:Nat) (z:Int) (p:Ls) (A:Int),xw (ze zbS (zbR L) 0 L zp0) zrR n (zju z p A) K=zgy L (fun p=>K (.exit 2) (zwC p)) n z p A:=by
 intro n; induction n <;> intros
 ·rfl
 ·exact (zLK ..).trans (by simp only [*]; rfl)
def zkJ{β:Type}(L:Nat)(A:Int)(p:Ls)(z:Ls→Ob β):Ob β:=zsj L A p (fun A p C=>zgy L (fun p=>zo5 L p z) L A p C)
theorem zKi{β:Type}(L:Nat)(p:Int)(z:Ls)(k:KK β):(zg 0 (zu (ze zbS (zbR L) 0 L zyX) (yz 0 (CF.res cf_ref03_Pad) k))) (.exit 0) (zpq p z)=zkJ L p z (fun p=>k (V.gs 1 p) []):=by
 refine (zME L p z k).trans ?_
 unfold zkJ
 first
  | (simp only [zvB,zIg]; done)
  | (simp only [zvB]; rfl)
def zzr{β:Type}(L:Nat)(p:Int)(z:Ls→Ob β):Ob β:=zIy L p (fun p A=>zkN L (fun p A=>zkJ L p A z) L p A)
theorem zXG{β:Type}(L:Nat)(p:Int)(k:KK β):yj zbS (zbR L) L cf_ref03_Pad [(Qd p)] [] k=zzr L p (fun p=>k (V.gs 1 p) []):=by
 refine (zXC L p k).trans ?_
 unfold zzr
 first
  | (simp only [zAp,zKi]; done)
  | (simp only [zAp]; rfl)
abbrev zaT:=∀ (β:Type),Nat→Int→(Ls→Ob β)→Ob β
def xx:zaT:=fun β=>@zzr β
def zIc(xx:zaT)(L:Nat):Dk:=dA (AI .u64) fun p=>d0 fun β k=>xx β L p (fun p=>k (V.gs 1 p) [])
theorem zWX(L:Nat):DK (zIc xx L) (fun _=>yj zbS (zbR L) L cf_ref03_Pad):=zF zdJ fun p=>zP fun _ k=>zXG L p k
def zzz:Hint:=⟨[],[],[none],[],[],false,false,[]⟩
def zEy:CF:=cfD zzz 151
def zt5:Nat→Sh:=zl []
def zt8(L:Nat):CBC:=noC
def zwV{β:Type}(L:Nat)(p:List V→Ob β):Ob β:=lt [(Qc (1779033703:Int)),(Qc (3144134277:Int)),(Qc (1013904242:Int)),(Qc (2773480762:Int)),(Qc (1359893119:Int)),(Qc (2600822924:Int)),(Qc (528734635:Int)),(Qc (1541459225:Int))] fun z=>chk (0=0∧(XK z)=8∧8≠0) (p z)
theorem zOC{β:Type}(L:Nat)(k:KK β):yj zt5 (zt8 L) L zEy [] [] k=zwV L (fun p=>k (V.agg p) []):=by kernel_rfl
abbrev zab:=∀ (β:Type),Nat→(List V→Ob β)→Ob β
def yo:zab:=fun β=>@zwV β
def zvX(yo:zab)(L:Nat):Dk:=d0 fun β k=>yo β L (fun p=>k (V.agg p) [])
theorem zPg(L:Nat):DK (zvX yo L) (fun _=>yj zt5 (zt8 L) L zEy):=zP fun _ k=>zOC L k
def zm7:Hint:=⟨[],[],[none],[],[],false,false,[]⟩
def zpE:CF:=cfD zm7 192
def zi6:Nat→Sh:=zl []
def ziZ(L:Nat):CBC:=noC
def zjS{β:Type}(L:Nat)(A D:Int)(p:Int→Ob β):Ob β:=lt (QG .u64 D) fun E=>lt (zhm .u64 E (31:Int)) fun z=>chk (0≤z) (lt (zkq .u32 A z) fun F=>lt (QG .u64 (((32:Int):Int)-z)) fun C=>chk (0≤C) (lt (zdB .u32 A C) fun G=>lt (ior .u32 F G) fun H=>p H))
theorem zzI{β:Type}(L:Nat)(p z:Int)(k:KK β):yj zi6 (ziZ L) L zpE [(Qc p),(Qe z)] [] k=zjS L p z (fun p=>k (Qc p) []):=by kernel_rfl
abbrev zbb:=∀ (β:Type),Nat→Int→Int→(Int→Ob β)→Ob β
def yB:zbb:=fun β=>@zjS β
def zfW(yB:zbb)(L:Nat):Dk:=dA (AI .u32) fun p=>dA (AI .i64) fun z=>d0 fun β k=>yB β L p z (fun p=>k (Qc p) [])
theorem zAt(L:Nat):DK (zfW yB L) (fun _=>yj zi6 (ziZ L) L zpE):=zF zdJ fun p=>zF zdJ fun z=>zP fun _ k=>zzI L p z k
def zGE:Hint:=⟨[],[],[none],[],[],false,false,[]⟩
def zNg:CF:=cfD zGE 178
def zAW:Nat→Sh:=zl []
def zBD(yB:zbb)(L:Nat):CBC:=(xg 572 (zfW yB L) noC)
def zFt{β:Type}(yB:zbb)(L:Nat)(z A:Int)(p:Int→Ob β):Ob β:=lt (QG .i64 (0-A)) fun C=>yB β L z C (fun D=>p D)
theorem zUy{β:Type}(yB:zbb)(L:Nat)(p z:Int)(k:KK β):yj zAW (zBD yB L) L zNg [(Qc p),(Qe z)] [] k=zFt yB L p z (fun p=>k (Qc p) []):=by kernel_rfl
abbrev zV:=∀ (β:Type),Nat→Int→Int→(Int→Ob β)→Ob β
def yi:zV:=fun β=>@zFt β yB
def zxg(yi:zV)(L:Nat):Dk:=dA (AI .u32) fun p=>dA (AI .i64) fun z=>d0 fun β k=>yi β L p z (fun p=>k (Qc p) [])
theorem zUu(L:Nat):DK (zxg yi L) (fun _=>yj zAW (zBD yB L) L zNg):=zF zdJ fun p=>zF zdJ fun z=>zP fun _ k=>zUy yB L p z k
def zx0:Hint:=⟨[],[],[none,some ((bl 30 97),(bl 158456325028528675187087900671 97)),none,some ((bl 12 97),(bl 158456325028528675187087900653 97)),none,none,some ((bl 44 97),(bl 158456315288573494874593034045 97)),none,some ((bl 12 97),(bl 158456315288573494874593034013 97)),none,none],[],[],false,false,[]⟩
def cf_ref03_schedule:CF:=cfD zx0 176
def zkn:CC:=zE [1,1,1,0,1,0,0] cf_ref03_schedule.body
def zly:CC:=zE [1,1,0,1,0,0] cf_ref03_schedule.body
def zxz:CC:=zE [1,1,1,1] cf_ref03_schedule.body
def zo4:CC:=zE [1,1,1] cf_ref03_schedule.body
def zaD:Nat→Sh:=zl [(16,(.int .u8)),(23,(.int .u8)),(31,(.int .u8)),(39,(.int .u8)),(50,(.int .u32)),(55,(.int .u32)),(61,(.int .u32)),(67,(.int .u32)),(72,(.int .u32)),(78,(.int .u32)),(85,(.int .u32)),(91,(.int .u32))]
def zaC(yi:zV)(L:Nat):CBC:=(xg 571 (zxg yi L) noC)
def zmH:St→St:=zQ 0 (bl 30 97) (bl 158456325028528675187087900671 97)
def zlH:St→St:=zQ 0 (bl 44 97) (bl 158456315288573494874593034045 97)
def zgj(p:Int)(z A C:List V):St:=⟨(jn 1 ((V.ptr 1 0)::((V.ptr 2 0)::((V.ptr 3 0)::((Qe p)::(jn 92 [])))))),(gn 1 ((.live true z)::((.live true A)::((.live true C)::(gn 93 [])))))⟩
def zjp(p z:List V):St:=⟨(jn 2 ((V.ptr 2 0)::((V.ptr 3 0)::(jn 93 [])))),(gn 2 ((.live true p)::((.live true z)::(gn 93 []))))⟩
def zfM(p:Int)(z A:List V):St:=⟨(jn 2 ((V.ptr 2 0)::((V.ptr 3 0)::(jn 1 ((Qe p)::(jn 91 [])))))),(gn 2 ((.live true z)::((.live true A)::(gn 93 []))))⟩
def znz(p z:List V):St:=⟨(jn 2 ((V.ptr 2 0)::((V.ptr 3 0)::(jn 93 [])))),(gn 2 ((.live true p)::((.live true z)::(gn 93 []))))⟩
def zul{β:Type}(yi:zV)(L:Nat)(z:List V)(p:Int→List V→List V→List V→Ob β):Ob β:=p (0:Int) z (We 64 (Qc (0:Int))) (We 64 (Qc (0:Int)))
theorem zN3{β:Type}(yi:zV)(L:Nat)(p:List V)(k:KK β):yj zaD (zaC yi L) L cf_ref03_schedule [(V.agg p)] [] k=zul yi L p (fun z A C D=>xw (ze zaD (zaC yi L) 0 L zly) zmH L (zgj z A C D) (zg 0 (zu (ze zaD (zaC yi L) 0 L zo4) (yz 0 (CF.res cf_ref03_schedule) k)))):=by kernel_rfl
def zfC{β:Type}(yi:zV)(L:Nat)(p:Int)(A I E:List V)(z:Int→List V→List V→List V→Ob β)(F:List V→List V→Ob β):Ob β:=ifb (decide (p<(16:Int))) (lt (QG .i64 (((4:Int):Int)*p)) fun G=>chk (0≤G∧G<((64:Nat):Int)) (cI .u8 A (0+((XM G)*1)) fun X=>lt (QG .u32 X) fun Y=>lt (zkq .u32 Y (24:Int)) fun Z=>lt (QG .i64 (((4:Int):Int)*p)) fun x4=>lt (QG .i64 ((x4:Int)+(1:Int))) fun H=>chk (0≤H∧H<((64:Nat):Int)) (cI .u8 A (0+((XM H)*1)) fun v6=>lt (QG .u32 v6) fun x7=>lt (zkq .u32 x7 (16:Int)) fun x8=>lt (ior .u32 Z x8) fun x9=>lt (QG .i64 (((4:Int):Int)*p)) fun J=>lt (QG .i64 ((J:Int)+(2:Int))) fun C=>chk (0≤C∧C<((64:Nat):Int)) (cI .u8 A (0+((XM C)*1)) fun M=>lt (QG .u32 M) fun N=>lt (zkq .u32 N (8:Int)) fun O=>lt (ior .u32 x9 O) fun P=>lt (QG .i64 (((4:Int):Int)*p)) fun Q=>lt (QG .i64 ((Q:Int)+(3:Int))) fun D=>chk (0≤D∧D<((64:Nat):Int)) (cI .u8 A (0+((XM D)*1)) fun R=>lt (QG .u32 R) fun S=>lt (ior .u32 P S) fun T=>chk (0≤p∧p<((64:Nat):Int)) (chk (1=1∧(0+((XM p)*1))+1≤(XK E)) (lt (zq E (0+((XM p)*1)) [(Qc T)]) fun U=>lt (QG .i64 ((p:Int)+(1:Int))) fun W=>z W A I U))))))) (F I E)
theorem zDZ{β:Type}(yi:zV)(L:Nat)(A:Int)(C p z:List V)(X:St→Ob β)(K:KT β):ze zaD (zaC yi L) 0 L zly (zgj A C p z) (yF zmH X K)=zfC yi L A C p z (fun A C p z=>X (zgj A C p z)) (fun p z=>K (.exit 0) (zjp p z)):=by kernel_rfl
def zkt{β:Type}(yi:zV)(L:Nat)(z A:List V)(p:Int→List V→List V→Ob β):Ob β:=p (16:Int) z A
theorem zBC{β:Type}(yi:zV)(L:Nat)(p z:List V)(k:KK β):(zg 0 (zu (ze zaD (zaC yi L) 0 L zo4) (yz 0 (CF.res cf_ref03_schedule) k))) (.exit 0) (zjp p z)=zkt yi L p z (fun A p z=>xw (ze zaD (zaC yi L) 0 L zkn) zlH L (zfM A p z) (zg 2 (zu (ze zaD (zaC yi L) 0 L zxz) (yz 0 (CF.res cf_ref03_schedule) k)))):=by kernel_rfl
def zeR{β:Type}(yi:zV)(L:Nat)(p:Int)(N z:List V)(A:Int→List V→List V→Ob β)(M:List V→List V→Ob β):Ob β:=ifb (decide (p<(64:Int))) (lt (QG .i64 ((p:Int)-(15:Int))) fun C=>chk (0≤C∧C<((64:Nat):Int)) (cI .u32 z (0+((XM C)*1)) fun O=>yi β L O (7:Int) (fun P=>lt (QG .i64 ((p:Int)-(15:Int))) fun D=>chk (0≤D∧D<((64:Nat):Int)) (cI .u32 z (0+((XM D)*1)) fun Q=>yi β L Q (18:Int) (fun R=>lt (zdR .u32 P R) fun S=>lt (QG .i64 ((p:Int)-(15:Int))) fun E=>chk (0≤E∧E<((64:Nat):Int)) (cI .u32 z (0+((XM E)*1)) fun T=>lt (zdB .u32 T (3:Int)) fun U=>lt (zdR .u32 S U) fun W=>lt (QG .i64 ((p:Int)-(2:Int))) fun F=>chk (0≤F∧F<((64:Nat):Int)) (cI .u32 z (0+((XM F)*1)) fun X=>yi β L X (17:Int) (fun Y=>lt (QG .i64 ((p:Int)-(2:Int))) fun G=>chk (0≤G∧G<((64:Nat):Int)) (cI .u32 z (0+((XM G)*1)) fun Z=>yi β L Z (19:Int) (fun aa=>lt (zdR .u32 Y aa) fun ab=>lt (QG .i64 ((p:Int)-(2:Int))) fun H=>chk (0≤H∧H<((64:Nat):Int)) (cI .u32 z (0+((XM H)*1)) fun ac=>lt (zdB .u32 ac (10:Int)) fun ad=>lt (zdR .u32 ab ad) fun ae=>lt (QG .i64 ((p:Int)-(16:Int))) fun I=>chk (0≤I∧I<((64:Nat):Int)) (cI .u32 z (0+((XM I)*1)) fun af=>lt (QG .u32 ((af:Int)+W)) fun ag=>lt (QG .i64 ((p:Int)-(7:Int))) fun J=>chk (0≤J∧J<((64:Nat):Int)) (cI .u32 z (0+((XM J)*1)) fun ah=>lt (QG .u32 ((ag:Int)+ah)) fun ai=>lt (QG .u32 ((ai:Int)+ae)) fun aj=>chk (0≤p∧p<((64:Nat):Int)) (chk (1=1∧(0+((XM p)*1))+1≤(XK z)) (lt (zq z (0+((XM p)*1)) [(Qc aj)]) fun ak=>lt (QG .i64 ((p:Int)+(1:Int))) fun al=>A al N ak))))))))))))))) (M N z)
theorem zC5{β:Type}(yi:zV)(L:Nat)(A:Int)(p z:List V)(X:St→Ob β)(K:KT β):ze zaD (zaC yi L) 0 L zkn (zfM A p z) (yF zlH X K)=zeR yi L A p z (fun A p z=>X (zfM A p z)) (fun p z=>K (.exit 2) (znz p z)):=by kernel_rfl
def zjV{β:Type}(yi:zV)(L:Nat)(C A:List V)(p:List V→Ob β):Ob β:=chk (0+64≤(XK A)) (chk ((XK (XL 64 A))=64∧0+64≤(XK C)) (lt (zq C 0 (XL 64 A)) fun z=>chk (0=0∧(XK z)=64∧64≠0) (p z)))
theorem zAz{β:Type}(yi:zV)(L:Nat)(p z:List V)(k:KK β):(zg 2 (zu (ze zaD (zaC yi L) 0 L zxz) (yz 0 (CF.res cf_ref03_schedule) k))) (.exit 2) (znz p z)=zjV yi L p z (fun A=>k (V.agg A) []):=by kernel_rfl
def zdG{β:Type}(yi:zV)(L:Nat)(p:List V→List V→Ob β):Nat→Int→List V→List V→List V→Ob β
 | 0,_,_,_,_=>none
 | n+1,z,A,C,D=>zfC yi L z A C D (fun z A C D=>zdG yi L p n z A C D) p
theorem zrd{β:Type}(yi:zV)(L:Nat)(K:KT β):∀ (n:Nat) (A:Int) (C p z:List V),xw (ze zaD (zaC yi L) 0 L zly) zmH n (zgj A C p z) K=zdG yi L (fun p z=>K (.exit 0) (zjp p z)) n A C p z:=by
 intro n; induction n <;> intros
 ·rfl
 ·exact (zDZ ..).trans (by simp only [*]; rfl)
def zc3{β:Type}(yi:zV)(L:Nat)(p:List V→List V→Ob β):Nat→Int→List V→List V→Ob β
 | 0,_,_,_=>none
 | n+1,z,A,C=>zeR yi L z A C (fun z A C=>zc3 yi L p n z A C) p
theorem zpu{β:Type}(yi:zV)(L:Nat)(K:KT β):∀ (n:Nat) (A:Int) (p z:List V),xw (ze zaD (zaC yi L) 0 L zkn) zlH n (zfM A p z) K=zc3 yi L (fun p z=>K (.exit 2) (znz p z)) n A p z:=by
 intro n; induction n <;> intros
 ·rfl
 ·exact (zC5 ..).trans (by simp only [*]; rfl)
def zgc{β:Type}(yi:zV)(L:Nat)(p z:List V)(A:List V→Ob β):Ob β:=zkt yi L p z (fun C p z=>zc3 yi L (fun p z=>zjV yi L p z A) L C p z)
theorem zzy{β:Type}(yi:zV)(L:Nat)(p z:List V)(k:KK β):(zg 0 (zu (ze zaD (zaC yi L) 0 L zo4) (yz 0 (CF.res cf_ref03_schedule) k))) (.exit 0) (zjp p z)=zgc yi L p z (fun A=>k (V.agg A) []):=by
 refine (zBC yi L p z k).trans ?_
 unfold zgc
 first
  | (simp only [zpu,zAz]; done)
  | (simp only [zpu]; rfl)
def znQ{β:Type}(yi:zV)(L:Nat)(C:List V)(p:List V→Ob β):Ob β:=zul yi L C (fun D E z A=>zdG yi L (fun z A=>zgc yi L z A p) L D E z A)
theorem zN9{β:Type}(yi:zV)(L:Nat)(p:List V)(k:KK β):yj zaD (zaC yi L) L cf_ref03_schedule [(V.agg p)] [] k=znQ yi L p (fun p=>k (V.agg p) []):=by
 refine (zN3 yi L p k).trans ?_
 unfold znQ
 first
  | (simp only [zrd,zzy]; done)
  | (simp only [zrd]; rfl)
abbrev za3:=∀ (β:Type),Nat→List V→(List V→Ob β)→Ob β
def zA:za3:=fun β=>@znQ β yi
def zuy(zA:za3)(L:Nat):Dk:=dA AG fun p=>d0 fun β k=>zA β L p (fun p=>k (V.agg p) [])
theorem zOc(L:Nat):DK (zuy zA L) (fun _=>yj zaD (zaC yi L) L cf_ref03_schedule):=zF zap fun p=>zP fun _ k=>zN9 yi L p k
def zwZ:Hint:=⟨[],[],[none],[],[],false,false,[]⟩
def zAh:CF:=cfD zwZ 177
def zqg:Nat→Sh:=zl []
def zpZ(L:Nat):CBC:=noC
def zsc{β:Type}(L:Nat)(p:List V→Ob β):Ob β:=lt [(Qc (1116352408:Int)),(Qc (1899447441:Int)),(Qc (3049323471:Int)),(Qc (3921009573:Int)),(Qc (961987163:Int)),(Qc (1508970993:Int)),(Qc (2453635748:Int)),(Qc (2870763221:Int)),(Qc (3624381080:Int)),(Qc (310598401:Int)),(Qc (607225278:Int)),(Qc (1426881987:Int)),(Qc (1925078388:Int)),(Qc (2162078206:Int)),(Qc (2614888103:Int)),(Qc (3248222580:Int)),(Qc (3835390401:Int)),(Qc (4022224774:Int)),(Qc (264347078:Int)),(Qc (604807628:Int)),(Qc (770255983:Int)),(Qc (1249150122:Int)),(Qc (1555081692:Int)),(Qc (1996064986:Int)),(Qc (2554220882:Int)),(Qc (2821834349:Int)),(Qc (2952996808:Int)),(Qc (3210313671:Int)),(Qc (3336571891:Int)),(Qc (3584528711:Int)),(Qc (113926993:Int)),(Qc (338241895:Int)),(Qc (666307205:Int)),(Qc (773529912:Int)),(Qc (1294757372:Int)),(Qc (1396182291:Int)),(Qc (1695183700:Int)),(Qc (1986661051:Int)),(Qc (2177026350:Int)),(Qc (2456956037:Int)),(Qc (2730485921:Int)),(Qc (2820302411:Int)),(Qc (3259730800:Int)),(Qc (3345764771:Int)),(Qc (3516065817:Int)),(Qc (3600352804:Int)),(Qc (4094571909:Int)),(Qc (275423344:Int)),(Qc (430227734:Int)),(Qc (506948616:Int)),(Qc (659060556:Int)),(Qc (883997877:Int)),(Qc (958139571:Int)),(Qc (1322822218:Int)),(Qc (1537002063:Int)),(Qc (1747873779:Int)),(Qc (1955562222:Int)),(Qc (2024104815:Int)),(Qc (2227730452:Int)),(Qc (2361852424:Int)),(Qc (2428436474:Int)),(Qc (2756734187:Int)),(Qc (3204031479:Int)),(Qc (3329325298:Int))] fun z=>chk (0=0∧(XK z)=64∧64≠0) (p z)
theorem zLE{β:Type}(L:Nat)(k:KK β):yj zqg (zpZ L) L zAh [] [] k=zsc L (fun p=>k (V.agg p) []):=by kernel_rfl
abbrev zaY:=∀ (β:Type),Nat→(List V→Ob β)→Ob β
def yy:zaY:=fun β=>@zsc β
def zrW(yy:zaY)(L:Nat):Dk:=d0 fun β k=>yy β L (fun p=>k (V.agg p) [])
theorem zLO(L:Nat):DK (zrW yy L) (fun _=>yj zqg (zpZ L) L zAh):=zP fun _ k=>zLE L k
def zx1:Hint:=⟨[],[],[none,some ((bl 65524 133),(bl 10889035741470030808987042129089031634935 133)),none,some ((bl 32660 133),(bl 10889035741470030808987042129089031602071 133)),none,none],[],[],false,false,[]⟩
def cf_ref03_Compress:CF:=cfD zx1 152
def zks:CC:=zE [1,1,1,0,1,0,0] cf_ref03_Compress.body
def zwB:CC:=zE [1,1,1,1] cf_ref03_Compress.body
def zcp:Nat→Sh:=zl [(22,(.int .u32)),(24,(.int .u32)),(26,(.int .u32)),(28,(.int .u32)),(30,(.int .u32)),(32,(.int .u32)),(34,(.int .u32)),(36,(.int .u32)),(62,(.int .u32)),(66,(.int .u32)),(101,(.int .u32)),(105,(.int .u32)),(109,(.int .u32)),(113,(.int .u32)),(117,(.int .u32)),(121,(.int .u32)),(125,(.int .u32)),(129,(.int .u32))]
def zcn(zA:za3)(yy:zaY)(yi:zV)(L:Nat):CBC:=(xg 571 (zxg yi L) (xg 570 (zrW yy L) (xg 569 (zuy zA L) noC)))
def zlp:St→St:=zQ 0 (bl 65524 133) (bl 10889035741470030808987042129089031634935 133)
def zfG(P Q R H I J M N O:Int)(S:List V)(p z A C D E F G:Int)(T U:List V):St:=⟨(jn 2 ((V.ptr 2 0)::(jn 1 ((V.ptr 4 0)::((V.ptr 5 0)::((V.ptr 6 0)::((Qc P)::((Qc Q)::((Qc R)::((Qc H)::((Qc I)::((Qc J)::((Qc M)::((Qc N)::((Qe O)::(jn 117 [])))))))))))))))),(gn 2 ((.live true S)::(gn 1 ((.live true [(Qc p),(Qc z),(Qc A),(Qc C),(Qc D),(Qc E),(Qc F),(Qc G)])::((.live true T)::((.live true U)::(gn 126 [])))))))⟩
def znH(O P Q H I J M N:Int)(R:List V)(p z A C D E F G:Int):St:=⟨(jn 2 ((V.ptr 2 0)::(jn 1 ((V.ptr 4 0)::(jn 2 ((Qc O)::((Qc P)::((Qc Q)::((Qc H)::((Qc I)::((Qc J)::((Qc M)::((Qc N)::(jn 118 [])))))))))))))),(gn 2 ((.live true R)::(gn 1 ((.live true [(Qc p),(Qc z),(Qc A),(Qc C),(Qc D),(Qc E),(Qc F),(Qc G)])::(gn 128 [])))))⟩
abbrev zkp(β:Type):Type:=Int→Int→Int→Int→Int→Int→Int→Int→Int→List V→Int→Int→Int→Int→Int→Int→Int→Int→List V→List V→Ob β
abbrev zlc(β:Type):Type:=Int→Int→Int→Int→Int→Int→Int→Int→List V→Int→Int→Int→Int→Int→Int→Int→Int→Ob β
def zuf{β:Type}(zA:za3)(yy:zaY)(yi:zV)(L:Nat)(p A:List V)(z:zkp β):Ob β:=chk (0+64≤(XK A)) (zA β L (XL 64 A) (fun C=>yy β L  (fun D=>chk ((XK C)=64∧0+64≤64) (lt (zq (We 64 (Qc (0:Int))) 0 C) fun G=>chk ((XK D)=64∧0+64≤64) (lt (zq (We 64 (Qc (0:Int))) 0 D) fun H=>cI .u32 p 0 fun I=>cI .u32 p 1 fun J=>cI .u32 p 2 fun M=>cI .u32 p 3 fun N=>cI .u32 p 4 fun O=>cI .u32 p 5 fun P=>cI .u32 p 6 fun E=>cI .u32 p 7 fun F=>z I J M N O P E F (0:Int) p (0:Int) (0:Int) (0:Int) (0:Int) (0:Int) (0:Int) (0:Int) (0:Int) G H)))))
theorem zN4{β:Type}(zA:za3)(yy:zaY)(yi:zV)(L:Nat)(H I:List V)(k:KK β):yj zcp (zcn zA yy yi L) L cf_ref03_Compress [(V.agg H),(V.agg I)] [] k=zuf zA yy yi L H I (fun R S T J M N O P Q U p z A C D E F G W X=>xw (ze zcp (zcn zA yy yi L) 0 L zks) zlp L (zfG R S T J M N O P Q U p z A C D E F G W X) (zg 0 (zu (ze zcp (zcn zA yy yi L) 0 L zwB) (yz 0 (CF.res cf_ref03_Compress) k)))):=by kernel_rfl
def zeV{β:Type}(zA:za3)(yy:zaY)(yi:zV)(L:Nat)(C P Q R z D E S p:Int)(W:List V)(F G H I J M N O:Int)(X Y:List V)(A:zkp β)(U:zlc β):Ob β:=ifb (decide (p<(64:Int))) (yi β L z (6:Int) (fun Z=>yi β L z (11:Int) (fun aa=>lt (zdR .u32 Z aa) fun ab=>yi β L z (25:Int) (fun ac=>lt (zdR .u32 ab ac) fun ad=>lt (QG .u32 ((S:Int)+ad)) fun ae=>lt (zhm .u32 z D) fun af=>lt (z0Y .u32 z) fun ag=>lt (zhm .u32 ag E) fun ah=>lt (zdR .u32 af ah) fun ai=>lt (QG .u32 ((ae:Int)+ai)) fun aj=>chk (0≤p∧p<((64:Nat):Int)) (cI .u32 Y (0+((XM p)*1)) fun ak=>lt (QG .u32 ((aj:Int)+ak)) fun al=>chk (0≤p∧p<((64:Nat):Int)) (cI .u32 X (0+((XM p)*1)) fun am=>lt (QG .u32 ((al:Int)+am)) fun T=>yi β L C (2:Int) (fun an=>yi β L C (13:Int) (fun ao=>lt (zdR .u32 an ao) fun ap=>yi β L C (22:Int) (fun aq=>lt (zdR .u32 ap aq) fun ar=>lt (zhm .u32 C P) fun au=>lt (zhm .u32 C Q) fun av=>lt (zdR .u32 au av) fun aw=>lt (zhm .u32 P Q) fun ax=>lt (zdR .u32 aw ax) fun ay=>lt (QG .u32 ((ar:Int)+ay)) fun az=>lt (QG .u32 ((R:Int)+T)) fun aC=>lt (QG .u32 ((T:Int)+az)) fun aD=>lt (QG .i64 ((p:Int)+(1:Int))) fun aE=>A aD C P Q aC z D E aE W F G H I J M N O X Y))))))))) (U C P Q R z D E S W F G H I J M N O)
theorem zC0{β:Type}(zA:za3)(yy:zaY)(yi:zV)(L:Nat)(P Q R H I J M N O:Int)(S:List V)(p z A C D E F G:Int)(T U:List V)(X:St→Ob β)(K:KT β):ze zcp (zcn zA yy yi L) 0 L zks (zfG P Q R H I J M N O S p z A C D E F G T U) (yF zlp X K)=zeV zA yy yi L P Q R H I J M N O S p z A C D E F G T U (fun P Q R H I J M N O S p z A C D E F G T U=>X (zfG P Q R H I J M N O S p z A C D E F G T U)) (fun P Q R H I J M N S p z A C D E F G=>K (.exit 0) (znH P Q R H I J M N S p z A C D E F G)):=by kernel_rfl
def zge{β:Type}(zA:za3)(yy:zaY)(yi:zV)(L:Nat)(p7 p8 p9 C D E F G:Int)(p:List V)(ad ae af ag ah ai aj ak:Int)(z:List V→Ob β):Ob β:=cI .u32 p 0 fun H=>lt (QG .u32 ((H:Int)+p7)) fun I=>cI .u32 p 1 fun J=>lt (QG .u32 ((J:Int)+p8)) fun M=>cI .u32 p 2 fun N=>lt (QG .u32 ((N:Int)+p9)) fun O=>cI .u32 p 3 fun P=>lt (QG .u32 ((P:Int)+C)) fun Q=>cI .u32 p 4 fun R=>lt (QG .u32 ((R:Int)+D)) fun S=>cI .u32 p 5 fun T=>lt (QG .u32 ((T:Int)+E)) fun U=>cI .u32 p 6 fun W=>lt (QG .u32 ((W:Int)+F)) fun X=>cI .u32 p 7 fun Y=>lt (QG .u32 ((Y:Int)+G)) fun Z=>lt [(Qc I),(Qc M),(Qc O),(Qc Q),(Qc S),(Qc U),(Qc X),(Qc Z)] fun A=>chk (0=0∧(XK A)=8∧8≠0) (z A)
theorem zzE{β:Type}(zA:za3)(yy:zaY)(yi:zV)(L:Nat)(O P Q H I J M N:Int)(R:List V)(p z A C D E F G:Int)(k:KK β):(zg 0 (zu (ze zcp (zcn zA yy yi L) 0 L zwB) (yz 0 (CF.res cf_ref03_Compress) k))) (.exit 0) (znH O P Q H I J M N R p z A C D E F G)=zge zA yy yi L O P Q H I J M N R p z A C D E F G (fun S=>k (V.agg S) []):=by kernel_rfl
def zc8{β:Type}(zA:za3)(yy:zaY)(yi:zV)(L:Nat)(H:zlc β):Nat→Int→Int→Int→Int→Int→Int→Int→Int→Int→List V→Int→Int→Int→Int→Int→Int→Int→Int→List V→List V→Ob β
 | 0,_,_,_,_,_,_,_,_,_,_,_,_,_,_,_,_,_,_,_,_=>none
 | n+1,Q,R,S,I,J,M,N,O,P,T,p,z,A,C,D,E,F,G,U,W=>zeV zA yy yi L Q R S I J M N O P T p z A C D E F G U W (fun Q R S I J M N O P T p z A C D E F G U W=>zc8 zA yy yi L H n Q R S I J M N O P T p z A C D E F G U W) H
theorem zpG{β:Type}(zA:za3)(yy:zaY)(yi:zV)(L:Nat)(K:KT β):∀ (n:Nat) (O P Q H I J M N S:Int) (R:List V) (p z A C D E F G:Int) (T U:List V),xw (ze zcp (zcn zA yy yi L) 0 L zks) zlp n (zfG O P Q H I J M N S R p z A C D E F G T U) K=zc8 zA yy yi L (fun O P Q H I J M N R p z A C D E F G=>K (.exit 0) (znH O P Q H I J M N R p z A C D E F G)) n O P Q H I J M N S R p z A C D E F G T U:=by
 intro n; induction n <;> intros
 ·rfl
 ·exact (zC0 ..).trans (by simp only [*]; rfl)
def zn4{β:Type}(zA:za3)(yy:zaY)(yi:zV)(L:Nat)(U W:List V)(O:List V→Ob β):Ob β:=zuf zA yy yi L U W (fun P Q R H I J M N T S p z A C D E F G X Y=>zc8 zA yy yi L (fun P Q R H I J M N S p z A C D E F G=>zge zA yy yi L P Q R H I J M N S p z A C D E F G O) L P Q R H I J M N T S p z A C D E F G X Y)
theorem zNX{β:Type}(zA:za3)(yy:zaY)(yi:zV)(L:Nat)(p z:List V)(k:KK β):yj zcp (zcn zA yy yi L) L cf_ref03_Compress [(V.agg p),(V.agg z)] [] k=zn4 zA yy yi L p z (fun p=>k (V.agg p) []):=by
 refine (zN4 zA yy yi L p z k).trans ?_
 unfold zn4
 first
  | (simp only [zpG,zzE]; done)
  | (simp only [zpG]; rfl)
abbrev xZ:=∀ (β:Type),Nat→List V→List V→(List V→Ob β)→Ob β
def xm:xZ:=fun β=>@zn4 β zA yy yi
def zuA(xm:xZ)(L:Nat):Dk:=dA AG fun p=>dA AG fun z=>d0 fun β k=>xm β L p z (fun p=>k (V.agg p) [])
theorem zNY(L:Nat):DK (zuA xm L) (fun _=>yj zcp (zcn zA yy yi L) L cf_ref03_Compress):=zF zap fun p=>zF zap fun z=>zP fun _ k=>zNX zA yy yi L p z k
def zJI:Hint:=⟨[(1,7)],[],[none,some ((bl 60 66),(bl 73786976290004270911 66)),none,some ((bl 20 66),(bl 73786976290004270879 66)),none,none,some ((bl 25769803908 66),(bl 73786976294838205615 66)),none,some ((bl 132 66),(bl 73786976294838205615 66)),none,none],[],[],false,false,[]⟩
def cf_ref03_Sum:CF:=cfD zJI 94
def znD:CC:=zE [1,1,1,1,1,0,1,0,0] cf_ref03_Sum.body
def zq9:CC:=zE [1,1,1,0,1,0,0] cf_ref03_Sum.body
def zCA:CC:=zE [1,1,1,1,1,1] cf_ref03_Sum.body
def zvG:CC:=zE [1,1,1,1] cf_ref03_Sum.body
def zbM:Nat→Sh:=zl [(37,(.int .u32))]
def zbN(xx:zaT)(yo:zab)(xm:xZ)(L:Nat):CBC:=(xg 533 (zuA xm L) (xg 532 (zvX yo L) (xg 531 (zIc xx L) noC)))
def zr8:St→St:=zQ 0 (bl 60 66) (bl 73786976290004270911 66)
def zpi:St→St:=zQ 0 (bl 25769803908 66) (bl 73786976294838205615 66)
def ziU(p:Ls)(z:Int)(A C:List V):St:=⟨(jn 2 ((V.ptr 2 0)::((V.gs 1 p)::((V.ptr 4 0)::((Qe z)::(jn 60 [])))))),(gn 2 ((.live true A)::(gn 1 ((.live true C)::(gn 61 [])))))⟩
def zpK(p z:List V):St:=⟨(jn 2 ((V.ptr 2 0)::(jn 1 ((V.ptr 4 0)::(jn 61 []))))),(gn 2 ((.live true p)::(gn 1 ((.live true z)::(gn 61 [])))))⟩
def zhy(p:List V)(z:Int)(A C:List V):St:=⟨(jn 2 ((V.ptr 2 0)::(jn 4 ((V.ptr 7 0)::(jn 25 ((V.agg p)::((Qe z)::(jn 31 [])))))))),(gn 2 ((.live true A)::(gn 4 ((.live true C)::(gn 58 [])))))⟩
def zvH(p z:List V):St:=⟨(jn 2 ((V.ptr 2 0)::(jn 4 ((V.ptr 7 0)::(jn 58 []))))),(gn 2 ((.live true p)::(gn 4 ((.live true z)::(gn 58 [])))))⟩
def zI3{β:Type}(xx:zaT)(yo:zab)(xm:xZ)(L:Nat)(z:Ls)(p:Ls→Int→List V→List V→Ob β):Ob β:=chk ((XK ([]:Ls)+XK z)*1≤xo∧XK ([]:Ls)+XK z≤xo) (lt (([]:Ls)++z) fun A=>lt (QG .u64 ((XK z:Nat):Int)) fun E=>xx β L E (fun C=>chk ((XK A+XK C)*1≤xo∧XK A+XK C≤xo) (lt (A++C) fun F=>yo β L  (fun D=>chk ((XK D)=8∧0+8≤8) (lt (zq [(Qc (0:Int)),(Qc (0:Int)),(Qc (0:Int)),(Qc (0:Int)),(Qc (0:Int)),(Qc (0:Int)),(Qc (0:Int)),(Qc (0:Int))] 0 D) fun G=>p F (0:Int) (We 32 (Qa (0:Int))) G)))))
theorem zXF{β:Type}(xx:zaT)(yo:zab)(xm:xZ)(L:Nat)(p:Ls)(k:KK β):yj zbM (zbN xx yo xm L) L cf_ref03_Sum [(V.sl 1 p)] [] k=zI3 xx yo xm L p (fun z A C D=>xw (ze zbM (zbN xx yo xm L) 0 L zq9) zr8 L (ziU z A C D) (zg 0 (zu (ze zbM (zbN xx yo xm L) 0 L zvG) (yz 0 (CF.res cf_ref03_Sum) k)))):=by kernel_rfl
def ziK{β:Type}(xx:zaT)(yo:zab)(xm:xZ)(L:Nat)(A:Ls)(p:Int)(E C:List V)(z:Ls→Int→List V→List V→Ob β)(D:List V→List V→Ob β):Ob β:=lt (QG .i64 ((p:Int)+(64:Int))) fun I=>ifb (decide (I≤((XK A:Nat):Int))) (chk (0≤p∧p≤(((XK A):Nat):Int)) (lt (zq (We 64 (Qa (0:Int))) 0 (XN (XL (min (XK (XL ((XK A)-(XM p)) (List.drop (XM p) A))) 64) (XL ((XK A)-(XM p)) (List.drop (XM p) A))))) fun F=>chk (0+8≤(XK C)) (chk (0+64≤(XK F)) (xm β L (XL 8 C) (XL 64 F) (fun G=>chk ((XK G)=8∧0+8≤(XK C)) (lt (zq C 0 G) fun J=>lt (QG .i64 ((p:Int)+(64:Int))) fun H=>z A H E J)))))) (D E C)
theorem zMe{β:Type}(xx:zaT)(yo:zab)(xm:xZ)(L:Nat)(A:Ls)(C:Int)(p z:List V)(X:St→Ob β)(K:KT β):ze zbM (zbN xx yo xm L) 0 L zq9 (ziU A C p z) (yF zr8 X K)=ziK xx yo xm L A C p z (fun A C p z=>X (ziU A C p z)) (fun p z=>K (.exit 0) (zpK p z)):=by kernel_rfl
def zoP{β:Type}(xx:zaT)(yo:zab)(xm:xZ)(L:Nat)(A z:List V)(p:List V→Int→List V→List V→Ob β):Ob β:=chk (0+8≤(XK z)) (p (XL 8 z) (0:Int) A (We 32 (Qa (0:Int))))
theorem zIJ{β:Type}(xx:zaT)(yo:zab)(xm:xZ)(L:Nat)(p z:List V)(k:KK β):(zg 0 (zu (ze zbM (zbN xx yo xm L) 0 L zvG) (yz 0 (CF.res cf_ref03_Sum) k))) (.exit 0) (zpK p z)=zoP xx yo xm L p z (fun A C p D=>xw (ze zbM (zbN xx yo xm L) 0 L znD) zpi L (zhy A C p D) (zg 2 (zu (ze zbM (zbN xx yo xm L) 0 L zCA) (yz 0 (CF.res cf_ref03_Sum) k)))):=by kernel_rfl
def zhb{β:Type}(xx:zaT)(yo:zab)(xm:xZ)(L:Nat)(G:List V)(p:Int)(O M:List V)(z:List V→Int→List V→List V→Ob β)(N:List V→List V→Ob β):Ob β:=ifb (decide (p<(8:Int))) (chk (0≤p∧p<((8:Nat):Int)) (cI .u32 G ((XM p)*1) fun A=>lt (QG .i64 (((4:Int):Int)*p)) fun C=>lt (QG .i64 (((4:Int):Int)*p)) fun P=>lt (QG .i64 ((P:Int)+(1:Int))) fun D=>lt (QG .i64 (((4:Int):Int)*p)) fun Q=>lt (QG .i64 ((Q:Int)+(2:Int))) fun E=>lt (QG .i64 (((4:Int):Int)*p)) fun R=>lt (QG .i64 ((R:Int)+(3:Int))) fun F=>lt (zdB .u32 A (24:Int)) fun S=>lt (QG .u8 S) fun T=>lt (zdB .u32 A (16:Int)) fun U=>lt (QG .u8 U) fun W=>lt (zdB .u32 A (8:Int)) fun X=>lt (QG .u8 X) fun Y=>lt (QG .u8 A) fun Z=>chk (0≤C∧C<((32:Nat):Int)) (chk (1=1∧(0+((XM C)*1))+1≤(XK M)) (lt (zq M (0+((XM C)*1)) [(Qa T)]) fun H=>chk (0≤D∧D<((32:Nat):Int)) (chk (1=1∧(0+((XM D)*1))+1≤(XK H)) (lt (zq H (0+((XM D)*1)) [(Qa W)]) fun I=>chk (0≤E∧E<((32:Nat):Int)) (chk (1=1∧(0+((XM E)*1))+1≤(XK I)) (lt (zq I (0+((XM E)*1)) [(Qa Y)]) fun J=>chk (0≤F∧F<((32:Nat):Int)) (chk (1=1∧(0+((XM F)*1))+1≤(XK J)) (lt (zq J (0+((XM F)*1)) [(Qa Z)]) fun aa=>lt (QG .i64 ((p:Int)+(1:Int))) fun ab=>z G ab O aa)))))))))) (N O M)
theorem zIq{β:Type}(xx:zaT)(yo:zab)(xm:xZ)(L:Nat)(p:List V)(z:Int)(A C:List V)(X:St→Ob β)(K:KT β):ze zbM (zbN xx yo xm L) 0 L znD (zhy p z A C) (yF zpi X K)=zhb xx yo xm L p z A C (fun p z A C=>X (zhy p z A C)) (fun A C=>K (.exit 2) (zvH A C)):=by kernel_rfl
def zma{β:Type}(xx:zaT)(yo:zab)(xm:xZ)(L:Nat)(C A:List V)(p:List V→Ob β):Ob β:=chk (0+32≤(XK A)) (chk ((XK (XL 32 A))=32∧0+32≤(XK C)) (lt (zq C 0 (XL 32 A)) fun z=>chk (0=0∧(XK z)=32∧32≠0) (p z)))
theorem zEM{β:Type}(xx:zaT)(yo:zab)(xm:xZ)(L:Nat)(p z:List V)(k:KK β):(zg 2 (zu (ze zbM (zbN xx yo xm L) 0 L zCA) (yz 0 (CF.res cf_ref03_Sum) k))) (.exit 2) (zvH p z)=zma xx yo xm L p z (fun A=>k (V.agg A) []):=by kernel_rfl
def zgA{β:Type}(xx:zaT)(yo:zab)(xm:xZ)(L:Nat)(p:List V→List V→Ob β):Nat→Ls→Int→List V→List V→Ob β
 | 0,_,_,_,_=>none
 | n+1,z,A,C,D=>ziK xx yo xm L z A C D (fun z A C D=>zgA xx yo xm L p n z A C D) p
theorem zvA{β:Type}(xx:zaT)(yo:zab)(xm:xZ)(L:Nat)(K:KT β):∀ (n:Nat) (A:Ls) (C:Int) (p z:List V),xw (ze zbM (zbN xx yo xm L) 0 L zq9) zr8 n (ziU A C p z) K=zgA xx yo xm L (fun p z=>K (.exit 0) (zpK p z)) n A C p z:=by
 intro n; induction n <;> intros
 ·rfl
 ·exact (zMe ..).trans (by simp only [*]; rfl)
def zeH{β:Type}(xx:zaT)(yo:zab)(xm:xZ)(L:Nat)(p:List V→List V→Ob β):Nat→List V→Int→List V→List V→Ob β
 | 0,_,_,_,_=>none
 | n+1,z,A,C,D=>zhb xx yo xm L z A C D (fun z A C D=>zeH xx yo xm L p n z A C D) p
theorem ztA{β:Type}(xx:zaT)(yo:zab)(xm:xZ)(L:Nat)(K:KT β):∀ (n:Nat) (A:List V) (C:Int) (p z:List V),xw (ze zbM (zbN xx yo xm L) 0 L znD) zpi n (zhy A C p z) K=zeH xx yo xm L (fun p z=>K (.exit 2) (zvH p z)) n A C p z:=by
 intro n; induction n <;> intros
 ·rfl
 ·exact (zIq ..).trans (by simp only [*]; rfl)
def zjw{β:Type}(xx:zaT)(yo:zab)(xm:xZ)(L:Nat)(p E:List V)(z:List V→Ob β):Ob β:=zoP xx yo xm L p E (fun C D p A=>zeH xx yo xm L (fun p A=>zma xx yo xm L p A z) L C D p A)
theorem zFT{β:Type}(xx:zaT)(yo:zab)(xm:xZ)(L:Nat)(p z:List V)(k:KK β):(zg 0 (zu (ze zbM (zbN xx yo xm L) 0 L zvG) (yz 0 (CF.res cf_ref03_Sum) k))) (.exit 0) (zpK p z)=zjw xx yo xm L p z (fun A=>k (V.agg A) []):=by
 refine (zIJ xx yo xm L p z k).trans ?_
 unfold zjw
 first
  | (simp only [ztA,zEM]; done)
  | (simp only [ztA]; rfl)
def zzk{β:Type}(xx:zaT)(yo:zab)(xm:xZ)(L:Nat)(C:Ls)(p:List V→Ob β):Ob β:=zI3 xx yo xm L C (fun D E z A=>zgA xx yo xm L (fun z A=>zjw xx yo xm L z A p) L D E z A)
theorem zXH{β:Type}(xx:zaT)(yo:zab)(xm:xZ)(L:Nat)(p:Ls)(k:KK β):yj zbM (zbN xx yo xm L) L cf_ref03_Sum [(V.sl 1 p)] [] k=zzk xx yo xm L p (fun p=>k (V.agg p) []):=by
 refine (zXF xx yo xm L p k).trans ?_
 unfold zzk
 first
  | (simp only [zvA,zFT]; done)
  | (simp only [zvA]; rfl)
abbrev zjy:=∀ (β:Type),Nat→Ls→(List V→Ob β)→Ob β
def zY:zjy:=fun β=>@zzk β xx yo xm
def ztl(zY:zjy)(L:Nat):Dk:=dA (AL 1) fun p=>d0 fun β k=>zY β L p (fun p=>k (V.agg p) [])
theorem zXQ(L:Nat):DK (ztl zY L) (fun _=>yj zbM (zbN xx yo xm L) L cf_ref03_Sum):=zF zcd fun p=>zP fun _ k=>zXH xx yo xm L p k
def zCu:Hint:=⟨[],[],[none],[],[],false,false,[]⟩
def zHb:CF:=cfD zCu 54
def zwu:Nat→Sh:=zl []
def zw5(zY:zjy)(L:Nat):CBC:=(xg 494 (ztl zY L) noC)
def zya{β:Type}(zY:zjy)(L:Nat)(G:Ls)(p:List V→Ob β):Ob β:=zY β L G (fun A=>chk ((XK A)=32∧0+32≤32) (lt (zq (We 32 (Qa (0:Int))) 0 A) fun z=>chk (0+32*1≤(XK z)) (ifb (List.isEmpty z) (zY β L (xn 1 32 z) (fun C=>chk ((XK C)=32∧0+32≤32) (lt (zq (We 32 (Qa (0:Int))) 0 C) fun D=>chk (0=0∧(XK D)=32∧32≠0) (p D)))) (zY β L (xn 1 32 z) (fun E=>chk ((XK E)=32∧0+32≤32) (lt (zq (We 32 (Qa (0:Int))) 0 E) fun F=>chk (0=0∧(XK F)=32∧32≠0) (p F)))))))
theorem zRt{β:Type}(zY:zjy)(L:Nat)(p:Ls)(k:KK β):yj zwu (zw5 zY L) L zHb [(V.sl 1 p)] [] k=zya zY L p (fun p=>k (V.agg p) []):=by kernel_rfl
abbrev zfx:=∀ (β:Type),Nat→Ls→(List V→Ob β)→Ob β
def yQ:zfx:=fun β=>@zya β zY
def zmn(yQ:zfx)(L:Nat):Dk:=dA (AL 1) fun p=>d0 fun β k=>yQ β L p (fun p=>k (V.agg p) [])
theorem zQN(L:Nat):DK (zmn yQ L) (fun _=>yj zwu (zw5 zY L) L zHb):=zF zcd fun p=>zP fun _ k=>zRt zY L p k
def zHX:Hint:=⟨[(0,0)],[],[none,none,none],[],[],false,false,[]⟩
def zAL:CF:=cfD zHX 22
def zBJ:Nat→Sh:=zl []
def zAS(xb:zw)(xd:yG)(yQ:zfx)(L:Nat):CBC:=(xg 454 (zmn yQ L) (xg 149 (zfn xd L) (xg 148 (zeN xb L) noC)))
def zEJ{β:Type}(xb:zw)(xd:yG)(yQ:zfx)(L:Nat)(z:List V)(p:List V→Ob β):Ob β:=chk (0+4≤(XK z)) (xb β L (Xv V.dem (XL 4 z)) (fun E=>ifb (!E) (lt (We 32 (Qa (0:Int))) fun A=>chk (0=0∧(XK A)=32∧32≠0) (p A)) (chk (0+4≤(XK z)) (xd β L (Xv V.dem (XL 4 z)) true (fun F=>yQ β L F (fun C=>chk ((XK C)=32∧0+32≤32) (lt (zq (We 32 (Qa (0:Int))) 0 C) fun D=>chk (0=0∧(XK D)=32∧32≠0) (p D))))))))
theorem zVR{β:Type}(xb:zw)(xd:yG)(yQ:zfx)(L:Nat)(p:List V)(k:KK β):yj zBJ (zAS xb xd yQ L) L zAL [(V.agg p)] [] k=zEJ xb xd yQ L p (fun p=>k (V.agg p) []):=by kernel_rfl
abbrev zcA:=∀ (β:Type),Nat→List V→(List V→Ob β)→Ob β
def yK:zcA:=fun β=>@zEJ β xb xd yQ
def zFA(yK:zcA)(L:Nat):Dk:=dA AG fun p=>d0 fun β k=>yK β L p (fun p=>k (V.agg p) [])
theorem zWb(L:Nat):DK (zFA yK L) (fun _=>yj zBJ (zAS xb xd yQ L) L zAL):=zF zap fun p=>zP fun _ k=>zVR xb xd yQ L p k
def zGY:Hint:=⟨[(0,0),(1,0),(5,3),(7,0),(7,1)],[],[none,some ((bl 456 17),(bl 114655 17)),none,some ((bl 8 17),(bl 114655 17)),none,none],[],[],false,false,[]⟩
def cf_ref01_Join:CF:=cfD zGY 98
def zqp:CC:=zE [1,1,0,1,0,0] cf_ref01_Join.body
def zGl:CC:=zE [1,1,1] cf_ref01_Join.body
def zfc:Nat→Sh:=zl [(11,(.sl 1))]
def ze8(zh:zU)(L:Nat):CBC:=(xg 193 (zfw zh L) noC)
def zsC:St→St:=zQ 0 (bl 456 17) (bl 114655 17)
def zja(p z:Ls)(A C:Int):St:=⟨(jn 3 ((V.gs 1 p)::(jn 2 ((V.sl 1 z)::((Qe A)::((Qe C)::(jn 8 []))))))),(gn 17 [])⟩
def zua(p:Ls):St:=⟨(jn 3 ((V.gs 1 p)::(jn 13 []))),(gn 17 [])⟩
def zDD{β:Type}(zh:zU)(L:Nat)(z:Ls)(p:Ls→Ls→Int→Int→Ob β):Ob β:=p ([]:Ls) z ((XK z:Nat):Int) (0:Int)
theorem zU9{β:Type}(zh:zU)(L:Nat)(p:Ls)(k:KK β):yj zfc (ze8 zh L) L cf_ref01_Join [(V.sl 1 p)] [] k=zDD zh L p (fun z A C D=>xw (ze zfc (ze8 zh L) 0 L zqp) zsC L (zja z A C D) (zg 0 (zu (ze zfc (ze8 zh L) 0 L zGl) (yz 0 (CF.res cf_ref01_Join) k)))):=by kernel_rfl
def zsD{β:Type}(zh:zU)(L:Nat)(C D:Ls)(E z:Int)(p:Ls→Ls→Int→Int→Ob β)(A:Ls→Ob β):Ob β:=ifb (decide (z<E)) (idx D z fun F=>cL 1 F 0 fun G=>zh β L C G (fun H=>lt (QG .i64 ((z:Int)+(1:Int))) fun I=>p H D E I)) (A C)
theorem zMv{β:Type}(zh:zU)(L:Nat)(p z:Ls)(A C:Int)(X:St→Ob β)(K:KT β):ze zfc (ze8 zh L) 0 L zqp (zja p z A C) (yF zsC X K)=zsD zh L p z A C (fun p z A C=>X (zja p z A C)) (fun p=>K (.exit 0) (zua p)):=by kernel_rfl
def zxO{β:Type}(zh:zU)(L:Nat)(z:Ls)(p:Ls→Ob β):Ob β:=p z
theorem zJe{β:Type}(zh:zU)(L:Nat)(p:Ls)(k:KK β):(zg 0 (zu (ze zfc (ze8 zh L) 0 L zGl) (yz 0 (CF.res cf_ref01_Join) k))) (.exit 0) (zua p)=zxO zh L p (fun z=>k (V.gs 1 z) []):=by kernel_rfl
def ziG{β:Type}(zh:zU)(L:Nat)(p:Ls→Ob β):Nat→Ls→Ls→Int→Int→Ob β
 | 0,_,_,_,_=>none
 | n+1,z,A,C,D=>zsD zh L z A C D (fun z A C D=>ziG zh L p n z A C D) p
theorem zv9{β:Type}(zh:zU)(L:Nat)(K:KT β):∀ (n:Nat) (p z:Ls) (A C:Int),xw (ze zfc (ze8 zh L) 0 L zqp) zsC n (zja p z A C) K=ziG zh L (fun p=>K (.exit 0) (zua p)) n p z A C:=by
 intro n; induction n <;> intros
 ·rfl
 ·exact (zMv ..).trans (by simp only [*]; rfl)
def zxf{β:Type}(zh:zU)(L:Nat)(A:Ls)(p:Ls→Ob β):Ob β:=zDD zh L A (fun z C D E=>ziG zh L (fun z=>zxO zh L z p) L z C D E)
theorem zUp{β:Type}(zh:zU)(L:Nat)(p:Ls)(k:KK β):yj zfc (ze8 zh L) L cf_ref01_Join [(V.sl 1 p)] [] k=zxf zh L p (fun p=>k (V.gs 1 p) []):=by
 refine (zU9 zh L p k).trans ?_
 unfold zxf
 first
  | (simp only [zv9,zJe]; done)
  | (simp only [zv9]; rfl)
abbrev zra:=∀ (β:Type),Nat→Ls→(Ls→Ob β)→Ob β
def zao:zra:=fun β=>@zxf β zh
def zgm(zao:zra)(L:Nat):Dk:=dA (AL 1) fun p=>d0 fun β k=>zao β L p (fun p=>k (V.gs 1 p) [])
theorem zWe(L:Nat):DK (zgm zao L) (fun _=>yj zfc (ze8 zh L) L cf_ref01_Join):=zF zcd fun p=>zP fun _ k=>zUp zh L p k
def zGu:Hint:=⟨[],[],[none],[(1,[2,3])],[],false,false,[]⟩
def zA9:CF:=cfD zGu 57
def zAY:Nat→Sh:=zl []
def zAQ(zao:zra)(zY:zjy)(L:Nat):CBC:=(xg 494 (ztl zY L) (xg 453 (zgm zao L) noC))
def zOo{β:Type}(zao:zra)(zY:zjy)(L:Nat)(G A:List V)(p:List V→Ob β):Ob β:=lc G (lc A (none) (fun I J=>none)) (fun z t1=>lc A (chk (0+32*1≤(XK (z::t1))) (none)) (fun C D=>chk (0+32*1≤(XK (z::t1))) (chk (0+32*1≤(XK (C::D))) (zao β L (xn 1 3 [(V.sl 1 (xn 1 1 [(Qa (1:Int))])),(V.sl 1 (xn 1 32 (z::t1))),(V.sl 1 (xn 1 32 (C::D)))]) (fun H=>zY β L H (fun E=>chk ((XK E)=32∧0+32≤32) (lt (zq (We 32 (Qa (0:Int))) 0 E) fun F=>chk (0=0∧(XK F)=32∧32≠0) (p F))))))))
theorem zVu{β:Type}(zao:zra)(zY:zjy)(L:Nat)(p z:List V)(k:KK β):yj zAY (zAQ zao zY L) L zA9 [(V.agg p),(V.agg z)] [] k=zOo zao zY L p z (fun p=>k (V.agg p) []):=by kernel_rfl
abbrev zaG:=∀ (β:Type),Nat→List V→List V→(List V→Ob β)→Ob β
def yv:zaG:=fun β=>@zOo β zao zY
def zFe(yv:zaG)(L:Nat):Dk:=dA AG fun p=>dA AG fun z=>d0 fun β k=>yv β L p z (fun p=>k (V.agg p) [])
theorem zWi(L:Nat):DK (zFe yv L) (fun _=>yj zAY (zAQ zao zY L) L zA9):=zF zap fun p=>zF zap fun z=>zP fun _ k=>zVu zao zY L p z k
def zCt:Hint:=⟨[(0,0),(1,2),(3,0),(8,0),(8,13),(9,0),(9,7),(10,0),(10,5),(11,0),(11,1)],[],[none,some ((bl 9 48),(bl 225369817865679 48)),none,some ((bl 8 48),(bl 225369817865678 48)),none,none,some ((bl 57 48),(bl 278146375999487 48)),none,some ((bl 24 48),(bl 278146375999455 48)),none,none,none],[],[],false,false,[]⟩
def cf_ref07_levels:CF:=cfD zCt 56
def ziw:CC:=zE [1,1,0,0,0,1,0,1,0,1,0,0] cf_ref07_levels.body
def zrE:CC:=zE [1,1,0,0,0,1,0,1,1] cf_ref07_levels.body
def zke:CC:=zE [1,1,0,0,0] cf_ref07_levels.body
def zB8:CC:=zE [1,1,1] cf_ref07_levels.body
def zaW:Nat→Sh:=zl []
def zaX(yv:zaG)(L:Nat):CBC:=(xg 588 (zFe yv L) noC)
def zfl:St→St:=zQ 0 (bl 9 48) (bl 225369817865679 48)
def zjg:St→St:=zQ 0 (bl 57 48) (bl 278146375999487 48)
def zdH(p z:Ls):St:=⟨((V.sl 32 p)::(jn 2 ((V.gs 1 z)::(jn 44 [])))),(gn 48 [])⟩
def zef(p z A:Ls)(C:Int):St:=⟨((V.sl 32 p)::(jn 2 ((V.gs 1 z)::((V.gs 32 A)::((Qe C)::(jn 42 [])))))),(gn 48 [])⟩
def zlf(p:Ls):St:=⟨(jn 3 ((V.gs 1 p)::(jn 44 []))),(gn 48 [])⟩
def zrb(p z:Ls):St:=⟨(jn 3 ((V.gs 1 p)::((V.gs 32 z)::(jn 43 [])))),(gn 48 [])⟩
abbrev zoh(β:Type):Type:=Ls→Ls→Ls→Int→Ob β
def zyl{β:Type}(yv:zaG)(L:Nat)(z:Ls)(p:Ls→Ls→Ob β):Ob β:=p z (xn 1 1 [(V.sl 32 z)])
theorem zQW{β:Type}(yv:zaG)(L:Nat)(p:Ls)(k:KK β):yj zaW (zaX yv L) L cf_ref07_levels [(V.sl 32 p)] [] k=zyl yv L p (fun p z=>xw (ze zaW (zaX yv L) 0 L zke) zfl L (zdH p z) (zg 0 (zu (ze zaW (zaX yv L) 0 L zB8) (yz 0 (CF.res cf_ref07_levels) k)))):=by kernel_rfl
def zkE{β:Type}(yv:zaG)(L:Nat)(A C:Ls)(p:zoh β)(z:Ls→Ob β):Ob β:=ifb (decide (((XK A:Nat):Int)>(1:Int))) (p A C ([]:Ls) (0:Int)) (z C)
theorem zLm{β:Type}(yv:zaG)(L:Nat)(z p:Ls)(X:St→Ob β)(K:KT β):ze zaW (zaX yv L) 0 L zke (zdH z p) (yF zfl X K)=zkE yv L z p (fun z p A C=>xw (ze zaW (zaX yv L) 0 L ziw) zjg L (zef z p A C) (zg 2 (zu (ze zaW (zaX yv L) 0 L zrE) (zg 1 (yF zfl X K))))) (fun p=>K (.exit 0) (zlf p)):=by kernel_rfl
def znG{β:Type}(yv:zaG)(L:Nat)(z:Ls)(p:Ls→Ob β):Ob β:=p z
theorem zGg{β:Type}(yv:zaG)(L:Nat)(p:Ls)(k:KK β):(zg 0 (zu (ze zaW (zaX yv L) 0 L zB8) (yz 0 (CF.res cf_ref07_levels) k))) (.exit 0) (zlf p)=znG yv L p (fun z=>k (V.gs 1 z) []):=by kernel_rfl
def zi7{β:Type}(yv:zaG)(L:Nat)(z F A:Ls)(C:Int)(p:zoh β)(G:Ls→Ls→Ob β):Ob β:=ifb (decide (C<((XK z:Nat):Int))) (lt (QG .i64 ((C:Int)+(1:Int))) fun H=>ifb (decide (H<((XK z:Nat):Int))) (idx z C fun I=>lt (QG .i64 ((C:Int)+(1:Int))) fun J=>idx z J fun M=>yv β L (XL 32 I) (XL 32 M) (fun D=>chk ((XK D)=32∧0+32≤32) (chk ((XK A+XK (xn 32 1 (zq (We 32 (Qa (0:Int))) 0 D)))*32≤xo∧XK A+XK (xn 32 1 (zq (We 32 (Qa (0:Int))) 0 D))≤xo) (lt (A++(xn 32 1 (zq (We 32 (Qa (0:Int))) 0 D))) fun N=>lt (QG .i64 ((C:Int)+(2:Int))) fun O=>p z F N O)))) (idx z C fun E=>chk ((XK (XL 32 E))=32∧0+32≤32) (chk ((XK A+XK (xn 32 1 (zq (We 32 (Qa (0:Int))) 0 (XL 32 E))))*32≤xo∧XK A+XK (xn 32 1 (zq (We 32 (Qa (0:Int))) 0 (XL 32 E)))≤xo) (lt (A++(xn 32 1 (zq (We 32 (Qa (0:Int))) 0 (XL 32 E)))) fun P=>lt (QG .i64 ((C:Int)+(2:Int))) fun Q=>p z F P Q)))) (G F A)
theorem zyQ{β:Type}(yv:zaG)(L:Nat)(A p z:Ls)(C:Int)(X:St→Ob β)(K:KT β):ze zaW (zaX yv L) 0 L ziw (zef A p z C) (yF zjg X K)=zi7 yv L A p z C (fun A p z C=>X (zef A p z C)) (fun p z=>K (.exit 2) (zrb p z)):=by kernel_rfl
def zey{β:Type}(yv:zaG)(L:Nat)(A z:Ls)(p:Ls→Ls→Ob β):Ob β:=chk ((XK A+XK (xn 1 1 [(V.sl 32 z)]))*24≤xo∧XK A+XK (xn 1 1 [(V.sl 32 z)])≤xo) (lt (A++(xn 1 1 [(V.sl 32 z)])) fun C=>p z C)
theorem zv0{β:Type}(yv:zaG)(L:Nat)(p z:Ls)(X:St→Ob β)(K:KT β):(zg 2 (zu (ze zaW (zaX yv L) 0 L zrE) (zg 1 (yF zfl X K)))) (.exit 2) (zrb p z)=zey yv L p z (fun A p=>X (zdH A p)):=by kernel_rfl
def zdm{β:Type}(yv:zaG)(L:Nat)(p:Ls→Ls→Ob β):Nat→Ls→Ls→Ls→Int→Ob β
 | 0,_,_,_,_=>none
 | n+1,z,A,C,D=>zi7 yv L z A C D (fun z A C D=>zdm yv L p n z A C D) p
theorem zme{β:Type}(yv:zaG)(L:Nat)(K:KT β):∀ (n:Nat) (A p z:Ls) (C:Int),xw (ze zaW (zaX yv L) 0 L ziw) zjg n (zef A p z C) K=zdm yv L (fun p z=>K (.exit 2) (zrb p z)) n A p z C:=by
 intro n; induction n <;> intros
 ·rfl
 ·exact (zyQ ..).trans (by simp only [*]; rfl)
def zha{β:Type}(yv:zaG)(L:Nat)(A z:Ls)(C:Ls→Ob β)(p:Ls→Ls→Ob β):Ob β:=zkE yv L A z (fun A z D E=>zdm yv L (fun z D=>zey yv L z D p) L A z D E) C
theorem zIf{β:Type}(yv:zaG)(L:Nat)(z p:Ls)(X:St→Ob β)(K:KT β):ze zaW (zaX yv L) 0 L zke (zdH z p) (yF zfl X K)=zha yv L z p (fun p=>K (.exit 0) (zlf p)) (fun z p=>X (zdH z p)):=by
 refine (zLm yv L z p X K).trans ?_
 unfold zha
 first
  | (simp only [zme,zv0]; done)
  | (simp only [zme]; rfl)
def zdO{β:Type}(yv:zaG)(L:Nat)(p:Ls→Ob β):Nat→Ls→Ls→Ob β
 | 0,_,_=>none
 | n+1,z,A=>zha yv L z A p (fun z A=>zdO yv L p n z A)
theorem zuS{β:Type}(yv:zaG)(L:Nat)(K:KT β):∀ (n:Nat) (z p:Ls),xw (ze zaW (zaX yv L) 0 L zke) zfl n (zdH z p) K=zdO yv L (fun p=>K (.exit 0) (zlf p)) n z p:=by
 intro n; induction n <;> intros
 ·rfl
 ·exact (zIf ..).trans (by simp only [*]; rfl)
def zrs{β:Type}(yv:zaG)(L:Nat)(z:Ls)(p:Ls→Ob β):Ob β:=zyl yv L z (fun z A=>zdO yv L (fun A=>znG yv L A p) L z A)
theorem zQR{β:Type}(yv:zaG)(L:Nat)(p:Ls)(k:KK β):yj zaW (zaX yv L) L cf_ref07_levels [(V.sl 32 p)] [] k=zrs yv L p (fun p=>k (V.gs 1 p) []):=by
 refine (zQW yv L p k).trans ?_
 unfold zrs
 first
  | (simp only [zuS,zGg]; done)
  | (simp only [zuS]; rfl)
abbrev zmQ:=∀ (β:Type),Nat→Ls→(Ls→Ob β)→Ob β
def za0:zmQ:=fun β=>@zrs β yv
def zyE(za0:zmQ)(L:Nat):Dk:=dA (AL 32) fun p=>d0 fun β k=>za0 β L p (fun p=>k (V.gs 1 p) [])
theorem zQS(L:Nat):DK (zyE za0 L) (fun _=>yj zaW (zaX yv L) L cf_ref07_levels):=zF zcd fun p=>zP fun _ k=>zQR yv L p k
def zH4:Hint:=⟨[],[],[none,none,none],[],[],false,false,[]⟩
def zBo:CF:=cfD zH4 42
def zBE:Nat→Sh:=zl [(20,(.sl 32))]
def zBz(za0:zmQ)(L:Nat):CBC:=(xg 555 (zyE za0 L) noC)
def zEr{β:Type}(za0:zmQ)(L:Nat)(z:Ls)(p:List V→Ob β):Ob β:=ifb ((((XK z:Nat):Int):Int)==(0:Int)) (lt (We 32 (Qa (0:Int))) fun A=>chk (0=0∧(XK A)=32∧32≠0) (p A)) (ifb (decide (((XK z:Nat):Int)>(1024:Int))) (lt (We 32 (Qa (0:Int))) fun C=>chk (0=0∧(XK C)=32∧32≠0) (p C)) (za0 β L z (fun D=>lt (QG .i64 ((((XK D:Nat):Int):Int)-(1:Int))) fun G=>idx D G fun H=>cL 32 H 0 fun I=>idx I (0:Int) fun E=>chk ((XK (XL 32 E))=32∧0+32≤32) (lt (zq (We 32 (Qa (0:Int))) 0 (XL 32 E)) fun F=>chk (0=0∧(XK F)=32∧32≠0) (p F)))))
theorem zVb{β:Type}(za0:zmQ)(L:Nat)(p:Ls)(k:KK β):yj zBE (zBz za0 L) L zBo [(V.sl 32 p)] [] k=zEr za0 L p (fun p=>k (V.agg p) []):=by kernel_rfl
abbrev zct:=∀ (β:Type),Nat→Ls→(List V→Ob β)→Ob β
def xK:zct:=fun β=>@zEr β za0
def zEq(xK:zct)(L:Nat):Dk:=dA (AL 32) fun p=>d0 fun β k=>xK β L p (fun p=>k (V.agg p) [])
theorem zUd(L:Nat):DK (zEq xK L) (fun _=>yj zBE (zBz za0 L) L zBo):=zF zcd fun p=>zP fun _ k=>zVb za0 L p k
def zHC:Hint:=⟨[(1,0),(4,2),(5,0),(5,5)],[],[none,some ((bl 460 20),(bl 933855 20)),none,some ((bl 12 20),(bl 933855 20)),none,none],[],[],false,false,[]⟩
def cf_ref11_Root:CF:=cfD zHC 17
def zqR:CC:=zE [1,1,0,1,0,0] cf_ref11_Root.body
def zHA:CC:=zE [1,1,1] cf_ref11_Root.body
def zfd:Nat→Sh:=zl []
def zfa(yK:zcA)(xK:zct)(L:Nat):CBC:=(xg 520 (zEq xK L) (xg 519 (zFA yK L) noC))
def zsk:St→St:=zQ 0 (bl 460 20) (bl 933855 20)
def zjb(p z:Ls)(A C:Int)(D:List V):St:=⟨(jn 2 ((V.ptr 2 0)::((V.gs 32 p)::(jn 2 ((V.sl 4 z)::((Qe A)::((Qe C)::(jn 11 [])))))))),(gn 2 ((.live true D)::(gn 17 [])))⟩
def zug(p:Ls)(z:List V):St:=⟨(jn 2 ((V.ptr 2 0)::((V.gs 32 p)::(jn 16 [])))),(gn 2 ((.live true z)::(gn 17 [])))⟩
abbrev zAq(β:Type):Type:=Ls→Ls→Int→Int→List V→Ob β
def zEa{β:Type}(yK:zcA)(xK:zct)(L:Nat)(z:Ls)(p:zAq β):Ob β:=p ([]:Ls) z ((XK z:Nat):Int) (0:Int) (We 32 (Qa (0:Int)))
theorem zVD{β:Type}(yK:zcA)(xK:zct)(L:Nat)(p:Ls)(k:KK β):yj zfd (zfa yK xK L) L cf_ref11_Root [(V.sl 4 p)] [] k=zEa yK xK L p (fun z A C D E=>xw (ze zfd (zfa yK xK L) 0 L zqR) zsk L (zjb z A C D E) (zg 0 (zu (ze zfd (zfa yK xK L) 0 L zHA) (yz 0 (CF.res cf_ref11_Root) k)))):=by kernel_rfl
def zsH{β:Type}(yK:zcA)(xK:zct)(L:Nat)(z E:Ls)(F C:Int)(G:List V)(p:zAq β)(D:Ls→List V→Ob β):Ob β:=ifb (decide (C<F)) (idx E C fun H=>chk ((XK (XL 4 H))=4∧0+4≤4) (lt (zq [(Qc (0:Int)),(V.gs 35 ([]:Ls)),(V.gs 2 ([]:Ls)),(Qc (0:Int))] 0 (XL 4 H)) fun I=>chk (0+4≤(XK I)) (yK β L (Xv V.dem (XL 4 I)) (fun A=>chk ((XK A)=32∧0+32≤32) (chk ((XK z+XK (xn 32 1 (zq (We 32 (Qa (0:Int))) 0 A)))*32≤xo∧XK z+XK (xn 32 1 (zq (We 32 (Qa (0:Int))) 0 A))≤xo) (lt (z++(xn 32 1 (zq (We 32 (Qa (0:Int))) 0 A))) fun J=>lt (QG .i64 ((C:Int)+(1:Int))) fun M=>p J E F M G)))))) (D z G)
theorem zMm{β:Type}(yK:zcA)(xK:zct)(L:Nat)(p A:Ls)(C D:Int)(z:List V)(X:St→Ob β)(K:KT β):ze zfd (zfa yK xK L) 0 L zqR (zjb p A C D z) (yF zsk X K)=zsH yK xK L p A C D z (fun p A C D z=>X (zjb p A C D z)) (fun p z=>K (.exit 0) (zug p z)):=by kernel_rfl
def zj3{β:Type}(yK:zcA)(xK:zct)(L:Nat)(D:Ls)(z:List V)(p:List V→Ob β):Ob β:=xK β L D (fun A=>chk ((XK A)=32∧0+32≤(XK z)) (lt (zq z 0 A) fun C=>chk (0=0∧(XK C)=32∧32≠0) (p C)))
theorem zIt{β:Type}(yK:zcA)(xK:zct)(L:Nat)(p:Ls)(z:List V)(k:KK β):(zg 0 (zu (ze zfd (zfa yK xK L) 0 L zHA) (yz 0 (CF.res cf_ref11_Root) k))) (.exit 0) (zug p z)=zj3 yK xK L p z (fun A=>k (V.agg A) []):=by kernel_rfl
def ziA{β:Type}(yK:zcA)(xK:zct)(L:Nat)(p:Ls→List V→Ob β):Nat→Ls→Ls→Int→Int→List V→Ob β
 | 0,_,_,_,_,_=>none
 | n+1,z,A,C,D,E=>zsH yK xK L z A C D E (fun z A C D E=>ziA yK xK L p n z A C D E) p
theorem zwr{β:Type}(yK:zcA)(xK:zct)(L:Nat)(K:KT β):∀ (n:Nat) (p A:Ls) (C D:Int) (z:List V),xw (ze zfd (zfa yK xK L) 0 L zqR) zsk n (zjb p A C D z) K=ziA yK xK L (fun p z=>K (.exit 0) (zug p z)) n p A C D z:=by
 intro n; induction n <;> intros
 ·rfl
 ·exact (zMm ..).trans (by simp only [*]; rfl)
def zv4{β:Type}(yK:zcA)(xK:zct)(L:Nat)(C:Ls)(p:List V→Ob β):Ob β:=zEa yK xK L C (fun z D E F A=>ziA yK xK L (fun z A=>zj3 yK xK L z A p) L z D E F A)
theorem zVn{β:Type}(yK:zcA)(xK:zct)(L:Nat)(p:Ls)(k:KK β):yj zfd (zfa yK xK L) L cf_ref11_Root [(V.sl 4 p)] [] k=zv4 yK xK L p (fun p=>k (V.agg p) []):=by
 refine (zVD yK xK L p k).trans ?_
 unfold zv4
 first
  | (simp only [zwr,zIt]; done)
  | (simp only [zwr]; rfl)
abbrev xN:=∀ (β:Type),Nat→Ls→(List V→Ob β)→Ob β
def xh:xN:=fun β=>@zv4 β yK xK
def zwy(xh:xN)(L:Nat):Dk:=dA (AL 4) fun p=>d0 fun β k=>xh β L p (fun p=>k (V.agg p) [])
theorem zVF(L:Nat):DK (zwy xh L) (fun _=>yj zfd (zfa yK xK L) L cf_ref11_Root):=zF zcd fun p=>zP fun _ k=>zVn yK xK L p k
def zB7:Hint:=⟨[(0,0),(1,2),(7,0),(7,1)],[(1,1)],[none,some ((bl 1569 23),(bl 8388543 23)),none,some ((bl 32 23),(bl 8388543 23)),none,none],[],[],false,false,[]⟩
def cf_codec_lowest:CF:=cfD zB7 103
def znR:CC:=zE [1,1,0,1,0,0] cf_codec_lowest.body
def zBQ:CC:=zE [1,1,1] cf_codec_lowest.body
def zdr:Nat→Sh:=zl []
def zdu(L:Nat):CBC:=noC
def zpc:St→St:=zQ 0 (bl 1569 23) (bl 8388543 23)
def zhM(A:Int)(p:Nat)(C z:Int)(D:List V):St:=⟨((Qd A)::(jn 4 ((V.own 8 0 p 1)::(jn 3 ((Qe C)::((Qe z)::(jn 12 []))))))),(gn 8 ((.live true D)::(gn 14 [])))⟩
def zqN(p:Nat)(z:List V):St:=⟨(jn 5 ((V.own 8 0 p 1)::(jn 17 []))),(gn 8 ((.live true z)::(gn 14 [])))⟩
def zKC{β:Type}(L:Nat)(A p:Int)(z:Int→Nat→Int→Int→List V→Ob β):Ob β:=chk (0≤p∧p≤p∧(XM p)*1≤xo∧p≤xo) (z A (XM p) p (0:Int) (XN (We (XM p) [(Qa (0:Int))])))
theorem zRE{β:Type}(L:Nat)(p z:Int)(k:KK β):yj zdr (zdu L) L cf_codec_lowest [(Qd p),(Qe z)] [] k=zKC L p z (fun p A D C E=>xw (ze zdr (zdu L) 0 L znR) zpc L (zhM p A D C E) (zg 0 (zu (ze zdr (zdu L) 0 L zBQ) (yz 0 (CF.res cf_codec_lowest) k)))):=by kernel_rfl
def zxV{β:Type}(L:Nat)(E:Int)(A:Nat)(F p:Int)(C:List V)(z:Int→Nat→Int→Int→List V→Ob β)(D:Nat→List V→Ob β):Ob β:=ifb (decide (p<F)) (lt (QG .i64 (((8:Int):Int)*p)) fun G=>chk (0≤G) (lt (zdB .u64 E G) fun H=>lt (QG .u8 H) fun I=>chk (0≤p∧p<((A:Nat):Int)) (chk (1=1∧(0+((XM p)*1))+1≤(XK C)) (lt (zq C (0+((XM p)*1)) [(Qa I)]) fun J=>lt (QG .i64 ((p:Int)+(1:Int))) fun M=>z E A F M J)))) (D A C)
theorem zI5{β:Type}(L:Nat)(C:Int)(p:Nat)(D z:Int)(A:List V)(X:St→Ob β)(K:KT β):ze zdr (zdu L) 0 L znR (zhM C p D z A) (yF zpc X K)=zxV L C p D z A (fun C p D z A=>X (zhM C p D z A)) (fun p A=>K (.exit 0) (zqN p A)):=by kernel_rfl
def zuT{β:Type}(L:Nat)(z:Nat)(A:List V)(p:Ls→Ob β):Ob β:=chk (z≠0∨(XK A)=0) (p (xn 1 z A))
theorem zFx{β:Type}(L:Nat)(p:Nat)(z:List V)(k:KK β):(zg 0 (zu (ze zdr (zdu L) 0 L zBQ) (yz 0 (CF.res cf_codec_lowest) k))) (.exit 0) (zqN p z)=zuT L p z (fun A=>k (V.fr 1 A) []):=by kernel_rfl
def zo6{β:Type}(L:Nat)(p:Nat→List V→Ob β):Nat→Int→Nat→Int→Int→List V→Ob β
 | 0,_,_,_,_,_=>none
 | n+1,C,z,D,A,E=>zxV L C z D A E (fun C z D A E=>zo6 L p n C z D A E) p
theorem ztu{β:Type}(L:Nat)(K:KT β):∀ (n:Nat) (C:Int) (p:Nat) (D A:Int) (z:List V),xw (ze zdr (zdu L) 0 L znR) zpc n (zhM C p D A z) K=zo6 L (fun p z=>K (.exit 0) (zqN p z)) n C p D A z:=by
 intro n; induction n <;> intros
 ·rfl
 ·exact (zI5 ..).trans (by simp only [*]; rfl)
def zyr{β:Type}(L:Nat)(A E:Int)(z:Ls→Ob β):Ob β:=zKC L A E (fun A p F D C=>zo6 L (fun p C=>zuT L p C z) L A p F D C)
theorem zQZ{β:Type}(L:Nat)(p z:Int)(k:KK β):yj zdr (zdu L) L cf_codec_lowest [(Qd p),(Qe z)] [] k=zyr L p z (fun p=>k (V.fr 1 p) []):=by
 refine (zRE L p z k).trans ?_
 unfold zyr
 first
  | (simp only [ztu,zFx]; done)
  | (simp only [ztu]; rfl)
abbrev zcv:=∀ (β:Type),Nat→Int→Int→(Ls→Ob β)→Ob β
def zH:zcv:=fun β=>@zyr β
def zm0(zH:zcv)(L:Nat):Dk:=dA (AI .u64) fun p=>dA (AI .i64) fun z=>d0 fun β k=>zH β L p z (fun p=>k (V.fr 1 p) [])
theorem zRA(L:Nat):DK (zm0 zH L) (fun _=>yj zdr (zdu L) L cf_codec_lowest):=zF zdJ fun p=>zF zdJ fun z=>zP fun _ k=>zQZ L p z k
end
end
end Go.Proofs.YtgmhijonllockaaGreatDoor
