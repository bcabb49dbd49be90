/- Part 9 of the proof of BkA: an abstract machine over plain values, its soundness, and the functions of the program on plain values. -/
import Derived.Test.YtgmhijonllockaaGreatDoorRows
import Derived.Test.YtgmhijonllockaaGreatDoorMBkA8
namespace Go.Proofs.YtgmhijonllockaaGreatDoor
set_option maxRecDepth 100000
set_option linter.unusedVariables false
set_option linter.unusedSimpArgs false
open List renaming length->XK,replicate->We,take->XL,map->Xv,flatten->XN
open IntKind renaming wrap->QG
open Int renaming toNat->XM
section
noncomputable section
def gk_sha_initial:List V:=[.sc (.int .u32 1779033703),.sc (.int .u32 3144134277),.sc (.int .u32 1013904242),.sc (.int .u32 2773480762),.sc (.int .u32 1359893119),.sc (.int .u32 2600822924),.sc (.int .u32 528734635),.sc (.int .u32 1541459225)]
def gk_sha_k:List V:=[.sc (.int .u32 1116352408),.sc (.int .u32 1899447441),.sc (.int .u32 3049323471),.sc (.int .u32 3921009573),.sc (.int .u32 961987163),.sc (.int .u32 1508970993),.sc (.int .u32 2453635748),.sc (.int .u32 2870763221),.sc (.int .u32 3624381080),.sc (.int .u32 310598401),.sc (.int .u32 607225278),.sc (.int .u32 1426881987),.sc (.int .u32 1925078388),.sc (.int .u32 2162078206),.sc (.int .u32 2614888103),.sc (.int .u32 3248222580),.sc (.int .u32 3835390401),.sc (.int .u32 4022224774),.sc (.int .u32 264347078),.sc (.int .u32 604807628),.sc (.int .u32 770255983),.sc (.int .u32 1249150122),.sc (.int .u32 1555081692),.sc (.int .u32 1996064986),.sc (.int .u32 2554220882),.sc (.int .u32 2821834349),.sc (.int .u32 2952996808),.sc (.int .u32 3210313671),.sc (.int .u32 3336571891),.sc (.int .u32 3584528711),.sc (.int .u32 113926993),.sc (.int .u32 338241895),.sc (.int .u32 666307205),.sc (.int .u32 773529912),.sc (.int .u32 1294757372),.sc (.int .u32 1396182291),.sc (.int .u32 1695183700),.sc (.int .u32 1986661051),.sc (.int .u32 2177026350),.sc (.int .u32 2456956037),.sc (.int .u32 2730485921),.sc (.int .u32 2820302411),.sc (.int .u32 3259730800),.sc (.int .u32 3345764771),.sc (.int .u32 3516065817),.sc (.int .u32 3600352804),.sc (.int .u32 4094571909),.sc (.int .u32 275423344),.sc (.int .u32 430227734),.sc (.int .u32 506948616),.sc (.int .u32 659060556),.sc (.int .u32 883997877),.sc (.int .u32 958139571),.sc (.int .u32 1322822218),.sc (.int .u32 1537002063),.sc (.int .u32 1747873779),.sc (.int .u32 1955562222),.sc (.int .u32 2024104815),.sc (.int .u32 2227730452),.sc (.int .u32 2361852424),.sc (.int .u32 2428436474),.sc (.int .u32 2756734187),.sc (.int .u32 3204031479),.sc (.int .u32 3329325298)]
def gls:List (Nat × List V):=[(0,gk_sha_initial),(1,gk_sha_k)]
def fg:List (Nat × Nat):=[(3,661),(4,662),(5,663),(6,664),(7,665),(8,666),(9,667),(10,668),(11,669),(12,670),(13,577),(14,456),(15,130),(16,579),(17,474),(18,542),(19,522),(20,422),(21,671),(22,519),(23,672),(24,673),(25,517),(26,503),(27,674),(28,502),(29,461),(30,429),(31,455),(32,509),(33,675),(34,431),(35,127),(36,182),(37,128),(38,449),(39,488),(40,596),(41,597),(42,520),(43,151),(44,131),(45,578),(46,153),(47,132),(48,556),(49,557),(50,558),(51,424),(52,442),(53,148),(54,454),(55,149),(56,555),(57,588),(58,170),(59,172),(60,676),(61,157),(62,158),(63,501),(64,159),(65,160),(66,164),(67,139),(68,179),(69,201),(70,140),(71,180),(72,143),(73,145),(74,191),(75,205),(76,183),(77,146),(78,147),(79,185),(80,129),(81,583),(82,608),(83,188),(84,150),(85,548),(86,152),(87,443),(88,444),(89,445),(90,446),(91,467),(92,468),(93,469),(94,494),(95,138),(96,186),(97,187),(98,453),(99,197),(100,198),(101,200),(102,202),(103,192),(104,458),(105,193),(106,194),(107,195),(108,196),(109,173),(110,161),(111,162),(112,163),(113,165),(114,166),(115,167),(116,168),(117,169),(118,171),(119,209),(120,174),(121,175),(122,176),(123,177),(124,178),(125,181),(126,137),(127,184),(128,617),(129,470),(130,471),(131,472),(132,448),(133,473),(134,475),(135,476),(136,477),(137,478),(138,479),(139,480),(140,481),(141,482),(142,483),(143,484),(144,485),(145,486),(146,487),(147,513),(148,514),(149,515),(150,531),(151,532),(152,533),(153,206),(154,496),(155,497),(156,498),(157,207),(158,208),(159,199),(160,203),(161,204),(162,516),(163,518),(164,521),(165,134),(166,441),(167,523),(168,524),(169,525),(170,526),(171,527),(172,528),(173,529),(174,552),(175,553),(176,569),(177,570),(178,571),(179,534),(180,535),(181,210),(182,554),(183,136),(184,559),(185,560),(186,561),(187,562),(188,563),(189,564),(190,565),(191,566),(192,572),(193,589),(194,590),(195,591),(196,117),(197,592),(198,593),(199,594),(200,599),(201,600),(202,601),(203,602),(204,603),(205,604),(206,605),(207,606),(208,607),(209,610),(210,611),(211,612),(212,613),(213,614),(214,615),(215,616),(216,618),(217,619),(218,620),(219,621),(220,622),(221,623),(222,624),(223,625),(224,626),(225,627),(226,628),(227,629),(228,630),(229,631),(230,632),(231,633),(232,634),(233,635),(234,636),(235,637),(236,638),(237,639),(254,640),(255,641),(256,642),(257,643)]
noncomputable def cfD:Hint→Nat→CF:=cfG Tryz.prog (zcI fg gls)
def zGm:Hint:=⟨[],[],[none,none,none,some ((bl 57348 24),(bl 15728319 24)),none,some ((bl 0 24),(bl 15728319 24)),none,none,some ((bl 64 24),(bl 15728383 24)),none],[],[],false,false,[]⟩
def cf_keep_Items:CF:=cfD zGm 73
def zoF:CC:=xz [1,1,0,1,0,0] cf_keep_Items.body
def zu1:CC:=xz [1,1,1] cf_keep_Items.body
def zdW:Nat→Sh:=zj [(18,(.sl 1))]
def zdT(L:Nat):CBC:=noC
def zqX:St→St:=yM 0 (bl 57348 24) (bl 15728319 24)
def zir(D:Int)(z:Ls)(A C:Int):St:=⟨(jn 2 ((Qe D)::(jn 10 ((V.sl 1 z)::((Qe A)::((Qe C)::(jn 8 []))))))),(gn 24 [])⟩
def zrt(z:Bool):St:=⟨(jn 6 ((V.sc (.bool z))::(jn 17 []))),(gn 24 [])⟩
def ztg:St:=⟨(jn 24 []),(gn 24 [])⟩
def zE7{β:Type}(L:Nat)(C:Ls)(D E:Int)(A:Bool→Ob β)(z:Int→Ls→Int→Int→Ob β):Ob β:=ifb (decide (((XK C:Nat):Int)>D)) (A false) (z E C ((XK C:Nat):Int) (0:Int))
theorem zVX{β:Type}(L:Nat)(z:Ls)(C A:Int)(k:KK β):zh zdW (zdT L) L cf_keep_Items [(V.sl 1 z),(Qe C),(Qe A)] [] k=zE7 L z C A (fun z=>k (V.sc (.bool z)) []) (fun A D E F=>zx (ze zdW (zdT L) 0 L zoF) zqX L (zir A D E F) (xi 0 (yv (ze zdW (zdT L) 0 L zu1) (zD 0 (CF.res cf_keep_Items) k)))):=by kernel_rfl
def zrc{β:Type}(L:Nat)(G:Int)(D:Ls)(E A:Int)(C:Bool→Ob β)(z:Int→Ls→Int→Int→Ob β)(F:Ob β):Ob β:=ifb (decide (A<E)) (idx D A fun H=>cL 1 H 0 fun I=>ifb (decide (((XK I:Nat):Int)>G)) (C false) (lt (QG .i64 ((A:Int)+(1:Int))) fun J=>z G D E J)) (F)
theorem zL6{β:Type}(L:Nat)(D:Int)(z:Ls)(A C:Int)(X:St→Ob β)(K:KT β):ze zdW (zdT L) 0 L zoF (zir D z A C) (yH zqX X K)=zrc L D z A C (fun E=>K .ret (zrt E)) (fun D z A C=>X (zir D z A C)) (K (.exit 0) (ztg)):=by kernel_rfl
def zmb{β:Type}(L:Nat)(A:Bool)(z:Bool→Ob β):Ob β:=z A
theorem zE9{β:Type}(L:Nat)(z:Bool)(k:KK β):(xi 0 (yv (ze zdW (zdT L) 0 L zu1) (zD 0 (CF.res cf_keep_Items) k))) .ret (zrt z)=zmb L z (fun A=>k (V.sc (.bool A)) []):=by kernel_rfl
def znQ{β:Type}(L:Nat)(z:Bool→Ob β):Ob β:=z true
theorem zI0{β:Type}(L:Nat)(k:KK β):(xi 0 (yv (ze zdW (zdT L) 0 L zu1) (zD 0 (CF.res cf_keep_Items) k))) (.exit 0) (ztg)=znQ L (fun z=>k (V.sc (.bool z)) []):=by kernel_rfl
def zhS{β:Type}(L:Nat)(z:Bool→Ob β)(A:Ob β):Nat→Int→Ls→Int→Int→Ob β
 | 0,_,_,_,_=>none
 | n+1,F,C,D,E=>zrc L F C D E z (fun F C D E=>zhS L z A n F C D E) A
theorem zt6{β:Type}(L:Nat)(K:KT β):∀ (n:Nat) (D:Int) (z:Ls) (A C:Int),zx (ze zdW (zdT L) 0 L zoF) zqX n (zir D z A C) K=zhS L (fun E=>K .ret (zrt E)) (K (.exit 0) (ztg)) n D z A C:=by
 intro n; induction n <;> intros
 ·rfl
 ·exact (zL6 ..).trans (by simp only [*]; rfl)
def zvD{β:Type}(L:Nat)(F:Ls)(G A:Int)(z:Bool→Ob β):Ob β:=zE7 L F G A z (fun A C D E=>zhS L (fun H=>zmb L H z) (znQ L z) L A C D E)
theorem zVY{β:Type}(L:Nat)(z:Ls)(A C:Int)(k:KK β):zh zdW (zdT L) L cf_keep_Items [(V.sl 1 z),(Qe A),(Qe C)] [] k=zvD L z A C (fun z=>k (V.sc (.bool z)) []):=by
 refine (zVX L z A C k).trans ?_
 unfold zvD
 first
  | (simp only [zt6,zE9,zI0]; done)
  | (simp only [zt6]; rfl)
abbrev zab:=∀ (β:Type),Nat→Ls→Int→Int→(Bool→Ob β)→Ob β
def zp:zab:=fun β=>@zvD β
def zDD(zp:zab)(L:Nat):Dk:=dA (AL 1) fun z=>dA (AI .i64) fun A=>dA (AI .i64) fun C=>d0 fun β k=>zp β L z A C (fun z=>k (V.sc (.bool z)) [])
theorem zWa(L:Nat):DK (zDD zp L) (fun _=>zh zdW (zdT L) L cf_keep_Items):=xv zaZ fun z=>xv zbN fun A=>xv zbN fun C=>yK fun _ k=>zVY L z A C k
def zQs:Hint:=⟨[(0,0),(5,2),(11,2)],[],[none,none,none,some ((bl 1835010 41),(bl 2198956146603 41)),none,some ((bl 2 41),(bl 2198956146603 41)),none,none,some ((bl 4 41),(bl 2198956146605 41)),none,some ((bl 7516192768 41),(bl 1924145348521 41)),none,some ((bl 0 41),(bl 1924145348521 41)),none,none,some ((bl 4 41),(bl 1924145348525 41)),none],[],[],false,false,[]⟩
def cf_keep_Tx:CF:=cfD zQs 35
def zsX:CC:=xz [1,1,1,0,1,0,0] cf_keep_Tx.body
def zv9:CC:=xz [1,1,0,1,0,0] cf_keep_Tx.body
def zA0:CC:=xz [1,1,1,1] cf_keep_Tx.body
def zuH:CC:=xz [1,1,1] cf_keep_Tx.body
def zb4:Nat→Sh:=zj [(8,(.sl 35)),(13,(.sl 2)),(18,(.sl 35)),(25,(.sl 1)),(30,(.sl 2)),(37,(.sl 1))]
def zb9(zp:zab)(L:Nat):CBC:=(xe 145 (zDD zp L) noC)
def zxE:St→St:=yM 0 (bl 1835010 41) (bl 2198956146603 41)
def zwh:St→St:=yM 0 (bl 7516192768 41) (bl 1924145348521 41)
def zkM(z:Ls)(A C:Int)(D:List V):St:=⟨(jn 1 ((V.ptr 1 0)::(jn 16 ((V.sl 35 z)::((Qe A)::((Qe C)::(jn 20 []))))))),(gn 1 ((.live true D)::(gn 39 [])))⟩
def ziI(z:Bool):St:=⟨(jn 2 ((V.sc (.bool z))::(jn 38 []))),(gn 41 [])⟩
def zsy(z:List V):St:=⟨(jn 1 ((V.ptr 1 0)::(jn 39 []))),(gn 1 ((.live true z)::(gn 39 [])))⟩
def zj0(z:Ls)(A C:Int):St:=⟨(jn 30 ((V.sl 2 z)::((Qe A)::((Qe C)::(jn 8 []))))),(gn 41 [])⟩
def zAJ:St:=⟨(jn 41 []),(gn 41 [])⟩
def zQb{β:Type}(zp:zab)(L:Nat)(C:List V)(A:Bool→Ob β)(z:Ls→Int→Int→List V→Ob β):Ob β:=cLd 35 C 1 fun E=>ifb (decide (((XK E:Nat):Int)>(70:Int))) (A false) (cLd 2 C 2 fun F=>ifb (decide (((XK F:Nat):Int)>(70:Int))) (A false) (cLd 35 C 1 fun D=>z D ((XK D:Nat):Int) (0:Int) C))
theorem z12{β:Type}(zp:zab)(L:Nat)(z:List V)(k:KK β):zh zb4 (zb9 zp L) L cf_keep_Tx [(V.agg z)] [] k=zQb zp L z (fun z=>k (V.sc (.bool z)) []) (fun A C D E=>zx (ze zb4 (zb9 zp L) 0 L zv9) zxE L (zkM A C D E) (xi 0 (yv (ze zb4 (zb9 zp L) 0 L zuH) (zD 0 (CF.res cf_keep_Tx) k)))):=by kernel_rfl
def zxD{β:Type}(zp:zab)(L:Nat)(D:Ls)(E A:Int)(G:List V)(C:Bool→Ob β)(z:Ls→Int→Int→List V→Ob β)(F:List V→Ob β):Ob β:=ifb (decide (A<E)) (idx D A fun H=>chk ((XK (XL 35 H))=35∧0+35≤35) (lt (zk (We 32 (Qa (0:Int))++[(Qc (0:Int)),(Qc (0:Int)),(V.gs 1 ([]:Ls))]) 0 (XL 35 H)) fun I=>cLd 1 I 34 fun J=>zp β L J (40:Int) (600:Int) (fun M=>ifb (!M) (C false) (lt (QG .i64 ((A:Int)+(1:Int))) fun N=>z D E N G)))) (F G)
theorem zRc{β:Type}(zp:zab)(L:Nat)(z:Ls)(A C:Int)(D:List V)(X:St→Ob β)(K:KT β):ze zb4 (zb9 zp L) 0 L zv9 (zkM z A C D) (yH zxE X K)=zxD zp L z A C D (fun E=>K .ret (ziI E)) (fun z A C D=>X (zkM z A C D)) (fun D=>K (.exit 0) (zsy D)):=by kernel_rfl
def zqJ{β:Type}(zp:zab)(L:Nat)(A:Bool)(z:Bool→Ob β):Ob β:=z A
theorem zMo{β:Type}(zp:zab)(L:Nat)(z:Bool)(k:KK β):(xi 0 (yv (ze zb4 (zb9 zp L) 0 L zuH) (zD 0 (CF.res cf_keep_Tx) k))) .ret (ziI z)=zqJ zp L z (fun A=>k (V.sc (.bool A)) []):=by kernel_rfl
def zs1{β:Type}(zp:zab)(L:Nat)(C:List V)(z:Ls→Int→Int→Ob β):Ob β:=cLd 2 C 2 fun A=>z A ((XK A:Nat):Int) (0:Int)
theorem zOg{β:Type}(zp:zab)(L:Nat)(z:List V)(k:KK β):(xi 0 (yv (ze zb4 (zb9 zp L) 0 L zuH) (zD 0 (CF.res cf_keep_Tx) k))) (.exit 0) (zsy z)=zs1 zp L z (fun A C D=>zx (ze zb4 (zb9 zp L) 0 L zsX) zwh L (zj0 A C D) (xi 2 (yv (ze zb4 (zb9 zp L) 0 L zA0) (zD 0 (CF.res cf_keep_Tx) k)))):=by kernel_rfl
def zvJ{β:Type}(zp:zab)(L:Nat)(D:Ls)(E A:Int)(C:Bool→Ob β)(z:Ls→Int→Int→Ob β)(F:Ob β):Ob β:=ifb (decide (A<E)) (idx D A fun G=>chk ((XK (XL 2 G))=2∧0+2≤2) (lt (zk [(Qe (0:Int)),(V.gs 1 ([]:Ls))] 0 (XL 2 G)) fun H=>cLd 1 H 1 fun I=>ifb (decide (((XK I:Nat):Int)>(600:Int))) (C false) (lt (QG .i64 ((A:Int)+(1:Int))) fun J=>z D E J))) (F)
theorem zQD{β:Type}(zp:zab)(L:Nat)(z:Ls)(A C:Int)(X:St→Ob β)(K:KT β):ze zb4 (zb9 zp L) 0 L zsX (zj0 z A C) (yH zwh X K)=zvJ zp L z A C (fun D=>K .ret (ziI D)) (fun z A C=>X (zj0 z A C)) (K (.exit 2) (zAJ)):=by kernel_rfl
def zoH{β:Type}(zp:zab)(L:Nat)(A:Bool)(z:Bool→Ob β):Ob β:=z A
theorem zI9{β:Type}(zp:zab)(L:Nat)(z:Bool)(k:KK β):(xi 2 (yv (ze zb4 (zb9 zp L) 0 L zA0) (zD 0 (CF.res cf_keep_Tx) k))) .ret (ziI z)=zoH zp L z (fun A=>k (V.sc (.bool A)) []):=by kernel_rfl
def zqK{β:Type}(zp:zab)(L:Nat)(z:Bool→Ob β):Ob β:=z true
theorem zLC{β:Type}(zp:zab)(L:Nat)(k:KK β):(xi 2 (yv (ze zb4 (zb9 zp L) 0 L zA0) (zD 0 (CF.res cf_keep_Tx) k))) (.exit 2) (zAJ)=zqK zp L (fun z=>k (V.sc (.bool z)) []):=by kernel_rfl
def zk1{β:Type}(zp:zab)(L:Nat)(z:Bool→Ob β)(A:List V→Ob β):Nat→Ls→Int→Int→List V→Ob β
 | 0,_,_,_,_=>none
 | n+1,C,D,E,F=>zxD zp L C D E F z (fun C D E F=>zk1 zp L z A n C D E F) A
theorem zBo{β:Type}(zp:zab)(L:Nat)(K:KT β):∀ (n:Nat) (A:Ls) (C D:Int) (z:List V),zx (ze zb4 (zb9 zp L) 0 L zv9) zxE n (zkM A C D z) K=zk1 zp L (fun E=>K .ret (ziI E)) (fun z=>K (.exit 0) (zsy z)) n A C D z:=by
 intro n; induction n <;> intros
 ·rfl
 ·exact (zRc ..).trans (by simp only [*]; rfl)
def zj7{β:Type}(zp:zab)(L:Nat)(z:Bool→Ob β)(A:Ob β):Nat→Ls→Int→Int→Ob β
 | 0,_,_,_=>none
 | n+1,C,D,E=>zvJ zp L C D E z (fun C D E=>zj7 zp L z A n C D E) A
theorem zzA{β:Type}(zp:zab)(L:Nat)(K:KT β):∀ (n:Nat) (z:Ls) (A C:Int),zx (ze zb4 (zb9 zp L) 0 L zsX) zwh n (zj0 z A C) K=zj7 zp L (fun D=>K .ret (ziI D)) (K (.exit 2) (zAJ)) n z A C:=by
 intro n; induction n <;> intros
 ·rfl
 ·exact (zQD ..).trans (by simp only [*]; rfl)
def zkL{β:Type}(zp:zab)(L:Nat)(E:List V)(z:Bool→Ob β):Ob β:=zs1 zp L E (fun A C D=>zj7 zp L (fun F=>zoH zp L F z) (zqK zp L z) L A C D)
theorem zMd{β:Type}(zp:zab)(L:Nat)(z:List V)(k:KK β):(xi 0 (yv (ze zb4 (zb9 zp L) 0 L zuH) (zD 0 (CF.res cf_keep_Tx) k))) (.exit 0) (zsy z)=zkL zp L z (fun A=>k (V.sc (.bool A)) []):=by
 refine (zOg zp L z k).trans ?_
 unfold zkL
 first
  | (simp only [zzA,zI9,zLC]; done)
  | (simp only [zzA]; rfl)
def zGS{β:Type}(zp:zab)(L:Nat)(F:List V)(z:Bool→Ob β):Ob β:=zQb zp L F z (fun C D E A=>zk1 zp L (fun G=>zqJ zp L G z) (fun A=>zkL zp L A z) L C D E A)
theorem z1r{β:Type}(zp:zab)(L:Nat)(z:List V)(k:KK β):zh zb4 (zb9 zp L) L cf_keep_Tx [(V.agg z)] [] k=zGS zp L z (fun z=>k (V.sc (.bool z)) []):=by
 refine (z12 zp L z k).trans ?_
 unfold zGS
 first
  | (simp only [zBo,zMo,zMd]; done)
  | (simp only [zBo]; rfl)
abbrev zdB:=∀ (β:Type),Nat→List V→(Bool→Ob β)→Ob β
def xO:zdB:=fun β=>@zGS β zp
def zOy(xO:zdB)(L:Nat):Dk:=dA AG fun z=>d0 fun β k=>xO β L z (fun z=>k (V.sc (.bool z)) [])
theorem z1G(L:Nat):DK (zOy xO L) (fun _=>zh zb4 (zb9 zp L) L cf_keep_Tx):=xv zak fun z=>yK fun _ k=>z1r zp L z k
def zGs:Hint:=⟨[(0,0),(5,2)],[],[none,none,none,some ((bl 7168 20),(bl 917481 20)),none,some ((bl 0 20),(bl 917481 20)),none,none,some ((bl 4 20),(bl 917485 20)),none],[],[],false,false,[]⟩
def cf_keep_Block:CF:=cfD zGs 12
def zpE:CC:=xz [1,1,0,1,0,0] cf_keep_Block.body
def zvi:CC:=xz [1,1,1] cf_keep_Block.body
def zdU:Nat→Sh:=zj [(6,(.sl 4)),(10,(.sl 4))]
def zdP(xO:zdB)(L:Nat):CBC:=(xe 127 (zOy xO L) noC)
def zqF:St→St:=yM 0 (bl 7168 20) (bl 917481 20)
def zhY(z:Ls)(A C:Int):St:=⟨(jn 10 ((V.sl 4 z)::((Qe A)::((Qe C)::(jn 7 []))))),(gn 20 [])⟩
def zqH(z:Bool):St:=⟨(jn 2 ((V.sc (.bool z))::(jn 17 []))),(gn 20 [])⟩
def zsY:St:=⟨(jn 20 []),(gn 20 [])⟩
def zEC{β:Type}(xO:zdB)(L:Nat)(C:List V)(A:Bool→Ob β)(z:Ls→Int→Int→Ob β):Ob β:=cLd 4 C 68 fun E=>ifb (decide (((XK E:Nat):Int)>(12:Int))) (A false) (cLd 4 C 68 fun D=>z D ((XK D:Nat):Int) (0:Int))
theorem zV3{β:Type}(xO:zdB)(L:Nat)(z:List V)(k:KK β):zh zdU (zdP xO L) L cf_keep_Block [(V.agg z)] [] k=zEC xO L z (fun z=>k (V.sc (.bool z)) []) (fun A C D=>zx (ze zdU (zdP xO L) 0 L zpE) zqF L (zhY A C D) (xi 0 (yv (ze zdU (zdP xO L) 0 L zvi) (zD 0 (CF.res cf_keep_Block) k)))):=by kernel_rfl
def zq8{β:Type}(xO:zdB)(L:Nat)(D:Ls)(E A:Int)(C:Bool→Ob β)(z:Ls→Int→Int→Ob β)(F:Ob β):Ob β:=ifb (decide (A<E)) (idx D A fun G=>chk ((XK (XL 4 G))=4∧0+4≤4) (lt (zk [(Qc (0:Int)),(V.gs 35 ([]:Ls)),(V.gs 2 ([]:Ls)),(Qc (0:Int))] 0 (XL 4 G)) fun H=>chk (0+4≤(XK H)) (xO β L (Xv V.dem (XL 4 H)) (fun I=>ifb (!I) (C false) (lt (QG .i64 ((A:Int)+(1:Int))) fun J=>z D E J))))) (F)
theorem zMn{β:Type}(xO:zdB)(L:Nat)(z:Ls)(A C:Int)(X:St→Ob β)(K:KT β):ze zdU (zdP xO L) 0 L zpE (zhY z A C) (yH zqF X K)=zq8 xO L z A C (fun D=>K .ret (zqH D)) (fun z A C=>X (zhY z A C)) (K (.exit 0) (zsY)):=by kernel_rfl
def zmg{β:Type}(xO:zdB)(L:Nat)(A:Bool)(z:Bool→Ob β):Ob β:=z A
theorem zFD{β:Type}(xO:zdB)(L:Nat)(z:Bool)(k:KK β):(xi 0 (yv (ze zdU (zdP xO L) 0 L zvi) (zD 0 (CF.res cf_keep_Block) k))) .ret (zqH z)=zmg xO L z (fun A=>k (V.sc (.bool A)) []):=by kernel_rfl
def zno{β:Type}(xO:zdB)(L:Nat)(z:Bool→Ob β):Ob β:=z true
theorem zH4{β:Type}(xO:zdB)(L:Nat)(k:KK β):(xi 0 (yv (ze zdU (zdP xO L) 0 L zvi) (zD 0 (CF.res cf_keep_Block) k))) (.exit 0) (zsY)=zno xO L (fun z=>k (V.sc (.bool z)) []):=by kernel_rfl
def zhP{β:Type}(xO:zdB)(L:Nat)(z:Bool→Ob β)(A:Ob β):Nat→Ls→Int→Int→Ob β
 | 0,_,_,_=>none
 | n+1,C,D,E=>zq8 xO L C D E z (fun C D E=>zhP xO L z A n C D E) A
theorem zuy{β:Type}(xO:zdB)(L:Nat)(K:KT β):∀ (n:Nat) (z:Ls) (A C:Int),zx (ze zdU (zdP xO L) 0 L zpE) zqF n (zhY z A C) K=zhP xO L (fun D=>K .ret (zqH D)) (K (.exit 0) (zsY)) n z A C:=by
 intro n; induction n <;> intros
 ·rfl
 ·exact (zMn ..).trans (by simp only [*]; rfl)
def zt4{β:Type}(xO:zdB)(L:Nat)(E:List V)(z:Bool→Ob β):Ob β:=zEC xO L E z (fun A C D=>zhP xO L (fun F=>zmg xO L F z) (zno xO L z) L A C D)
theorem zVK{β:Type}(xO:zdB)(L:Nat)(z:List V)(k:KK β):zh zdU (zdP xO L) L cf_keep_Block [(V.agg z)] [] k=zt4 xO L z (fun z=>k (V.sc (.bool z)) []):=by
 refine (zV3 xO L z k).trans ?_
 unfold zt4
 first
  | (simp only [zuy,zFD,zH4]; done)
  | (simp only [zuy]; rfl)
abbrev ziU:=∀ (β:Type),Nat→List V→(Bool→Ob β)→Ob β
def zav:ziU:=fun β=>@zt4 β xO
def zvX(zav:ziU)(L:Nat):Dk:=dA AG fun z=>d0 fun β k=>zav β L z (fun z=>k (V.sc (.bool z)) [])
theorem zUX(L:Nat):DK (zvX zav L) (fun _=>zh zdU (zdP xO L) L cf_keep_Block):=xv zak fun z=>yK fun _ k=>zVK xO L z k
def zBB:Hint:=⟨[(0,0),(1,2),(7,0),(7,1)],[(1,1)],[none,some ((bl 3105 24),(bl 16777151 24)),none,some ((bl 32 24),(bl 16777151 24)),none,none],[],[],false,false,[]⟩
def cf_ref01_little:CF:=cfD zBB 106
def zmV:CC:=xz [1,1,0,1,0,0] cf_ref01_little.body
def zBz:CC:=xz [1,1,1] cf_ref01_little.body
def zdk:Nat→Sh:=zj []
def zdh(L:Nat):CBC:=noC
def znw:St→St:=yM 0 (bl 3105 24) (bl 16777151 24)
def zgK(D:Int)(z:Nat)(A C:Int)(E:List V):St:=⟨((Qd D)::(jn 4 ((V.own 8 0 z 1)::(jn 4 ((Qe A)::((Qe C)::(jn 12 []))))))),(gn 8 ((.live true E)::(gn 15 [])))⟩
def zpT(z:Nat)(A:List V):St:=⟨(jn 5 ((V.own 8 0 z 1)::(jn 18 []))),(gn 8 ((.live true A)::(gn 15 [])))⟩
def zJr{β:Type}(L:Nat)(C z:Int)(A:Int→Nat→Int→Int→List V→Ob β):Ob β:=chk (0≤z∧z≤z∧(XM z)*1≤xm∧z≤xm) (A C (XM z) (((XM z):Nat):Int) (0:Int) (XN (We (XM z) [(Qa (0:Int))])))
theorem zRJ{β:Type}(L:Nat)(z A:Int)(k:KK β):zh zdk (zdh L) L cf_ref01_little [(Qd z),(Qe A)] [] k=zJr L z A (fun z C D E F=>zx (ze zdk (zdh L) 0 L zmV) znw L (zgK z C D E F) (xi 0 (yv (ze zdk (zdh L) 0 L zBz) (zD 0 (CF.res cf_ref01_little) k)))):=by kernel_rfl
def zwH{β:Type}(L:Nat)(G:Int)(C:Nat)(D z:Int)(E:List V)(A:Int→Nat→Int→Int→List V→Ob β)(F:Nat→List V→Ob β):Ob β:=ifb (decide (z<D)) (lt (QG .i64 (((8:Int):Int)*z)) fun H=>chk (0≤H) (lt (zcM .u64 G H) fun I=>lt (QG .u8 I) fun J=>chk (0≤z∧z<((C:Nat):Int)) (chk (1=1∧(0+((XM z)*1))+1≤(XK E)) (lt (zk E (0+((XM z)*1)) [(Qa J)]) fun M=>lt (QG .i64 ((z:Int)+(1:Int))) fun N=>A G C D N M)))) (F C E)
theorem zIR{β:Type}(L:Nat)(E:Int)(z:Nat)(A C:Int)(D:List V)(X:St→Ob β)(K:KT β):ze zdk (zdh L) 0 L zmV (zgK E z A C D) (yH znw X K)=zwH L E z A C D (fun E z A C D=>X (zgK E z A C D)) (fun z D=>K (.exit 0) (zpT z D)):=by kernel_rfl
def ztl{β:Type}(L:Nat)(A:Nat)(C:List V)(z:Ls→Ob β):Ob β:=chk (A≠0∨(XK C)=0) (z (yl 1 A C))
theorem zEA{β:Type}(L:Nat)(z:Nat)(A:List V)(k:KK β):(xi 0 (yv (ze zdk (zdh L) 0 L zBz) (zD 0 (CF.res cf_ref01_little) k))) (.exit 0) (zpT z A)=ztl L z A (fun C=>k (V.fr 1 C) []):=by kernel_rfl
def znZ{β:Type}(L:Nat)(z:Nat→List V→Ob β):Nat→Int→Nat→Int→Int→List V→Ob β
 | 0,_,_,_,_,_=>none
 | n+1,E,A,C,D,F=>zwH L E A C D F (fun E A C D F=>znZ L z n E A C D F) z
theorem zr1{β:Type}(L:Nat)(K:KT β):∀ (n:Nat) (E:Int) (z:Nat) (C D:Int) (A:List V),zx (ze zdk (zdh L) 0 L zmV) znw n (zgK E z C D A) K=znZ L (fun z A=>K (.exit 0) (zpT z A)) n E z C D A:=by
 intro n; induction n <;> intros
 ·rfl
 ·exact (zIR ..).trans (by simp only [*]; rfl)
def zw6{β:Type}(L:Nat)(C G:Int)(A:Ls→Ob β):Ob β:=zJr L C G (fun C z E F D=>znZ L (fun z D=>ztl L z D A) L C z E F D)
theorem zRB{β:Type}(L:Nat)(z A:Int)(k:KK β):zh zdk (zdh L) L cf_ref01_little [(Qd z),(Qe A)] [] k=zw6 L z A (fun z=>k (V.fr 1 z) []):=by
 refine (zRJ L z A k).trans ?_
 unfold zw6
 first
  | (simp only [zr1,zEA]; done)
  | (simp only [zr1]; rfl)
abbrev zcp:=∀ (β:Type),Nat→Int→Int→(Ls→Ob β)→Ob β
def xy:zcp:=fun β=>@zw6 β
def zla(xy:zcp)(L:Nat):Dk:=dA (AI .u64) fun z=>dA (AI .i64) fun A=>d0 fun β k=>xy β L z A (fun z=>k (V.fr 1 z) [])
theorem zRb(L:Nat):DK (zla xy L) (fun _=>zh zdk (zdh L) L cf_ref01_little):=xv zbN fun z=>xv zbN fun A=>yK fun _ k=>zRB L z A k
def zBI:Hint:=⟨[(0,0),(1,6),(2,0),(2,5)],[],[none],[],[],false,false,[]⟩
def zFM:CF:=cfD zBI 105
def zvw:Nat→Sh:=zj []
def zv6(L:Nat):CBC:=noC
def zx9{β:Type}(L:Nat)(z A:Ls)(C:Ls→Ob β):Ob β:=lt (QG .i64 ((((XK z:Nat):Int):Int)+((XK A:Nat):Int))) fun D=>chk (0≤(0:Int)∧(0:Int)≤D∧(XM D)*1≤xm∧D≤xm) (chk ((XK (We 0 [(Qa (0:Int))])+XK z)*1≤xm∧XK (We 0 [(Qa (0:Int))])+XK z≤xm) (lt ((We 0 [(Qa (0:Int))])++z) fun E=>chk ((XK E+XK A)*1≤xm∧XK E+XK A≤xm) (lt (E++A) fun F=>C F)))
theorem zRk{β:Type}(L:Nat)(z A:Ls)(k:KK β):zh zvw (zv6 L) L zFM [(V.sl 1 z),(V.sl 1 A)] [] k=zx9 L z A (fun z=>k (V.gs 1 z) []):=by kernel_rfl
abbrev xR:=∀ (β:Type),Nat→Ls→Ls→(Ls→Ob β)→Ob β
def yg:xR:=fun β=>@zx9 β
def ze0(yg:xR)(L:Nat):Dk:=dA (AL 1) fun z=>dA (AL 1) fun A=>d0 fun β k=>yg β L z A (fun z=>k (V.gs 1 z) [])
theorem zRF(L:Nat):DK (ze0 yg L) (fun _=>zh zvw (zv6 L) L zFM):=xv zaZ fun z=>xv zaZ fun A=>yK fun _ k=>zRk L z A k
def zvW:Hint:=⟨[(0,0),(1,5)],[],[none],[],[],false,false,[]⟩
def zzn:CF:=cfD zvW 64
def zpl:Nat→Sh:=zj []
def zpO(xy:zcp)(yg:xR)(L:Nat):CBC:=(xe 193 (ze0 yg L) (xe 194 (zla xy L) noC))
def zqY{β:Type}(xy:zcp)(yg:xR)(L:Nat)(A:Ls)(C:Int)(z:Ls→Ob β):Ob β:=lt (QG .u64 C) fun D=>xy β L D (4:Int) (fun E=>yg β L A E (fun F=>z F))
theorem zMq{β:Type}(xy:zcp)(yg:xR)(L:Nat)(z:Ls)(A:Int)(k:KK β):zh zpl (zpO xy yg L) L zzn [(V.sl 1 z),(Qc A)] [] k=zqY xy yg L z A (fun z=>k (V.gs 1 z) []):=by kernel_rfl
abbrev zq:=∀ (β:Type),Nat→Ls→Int→(Ls→Ob β)→Ob β
def xa:zq:=fun β=>@zqY β xy yg
def zfN(xa:zq)(L:Nat):Dk:=dA (AL 1) fun z=>dA (AI .u32) fun A=>d0 fun β k=>xa β L z A (fun z=>k (V.gs 1 z) [])
theorem zLw(L:Nat):DK (zfN xa L) (fun _=>zh zpl (zpO xy yg L) L zzn):=xv zaZ fun z=>xv zbN fun A=>yK fun _ k=>zMq xy yg L z A k
def ztq:Hint:=⟨[(0,0),(2,4),(4,6),(6,6),(7,6)],[],[none,none,none,none,none,none,none,none],[],[],false,false,[]⟩
def zwR:CF:=cfD ztq 79
def znt:Nat→Sh:=zj []
def znk(xy:zcp)(yg:xR)(L:Nat):CBC:=(xe 193 (ze0 yg L) (xe 194 (zla xy L) noC))
def zo1{β:Type}(xy:zcp)(yg:xR)(L:Nat)(C:Ls)(A:Int)(z:Ls→Ob β):Ob β:=ifb (decide (A<(253:Int))) (xy β L A (1:Int) (fun E=>yg β L C E (fun F=>z F))) (ifb (decide (A<(65536:Int))) (xy β L A (2:Int) (fun G=>yg β L (yl 1 1 [(Qa (253:Int))]) G (fun H=>yg β L C H (fun I=>z I)))) (ifb (decide (A<(4294967296:Int))) (xy β L A (4:Int) (fun J=>yg β L (yl 1 1 [(Qa (254:Int))]) J (fun M=>yg β L C M (fun N=>z N)))) (xy β L A (8:Int) (fun O=>yg β L (yl 1 1 [(Qa (255:Int))]) O (fun P=>yg β L C P (fun D=>z D))))))
theorem zLf{β:Type}(xy:zcp)(yg:xR)(L:Nat)(z:Ls)(A:Int)(k:KK β):zh znt (znk xy yg L) L zwR [(V.sl 1 z),(Qd A)] [] k=zo1 xy yg L z A (fun z=>k (V.gs 1 z) []):=by kernel_rfl
abbrev xo:=∀ (β:Type),Nat→Ls→Int→(Ls→Ob β)→Ob β
def ya:xo:=fun β=>@zo1 β xy yg
def zgV(ya:xo)(L:Nat):Dk:=dA (AL 1) fun z=>dA (AI .u64) fun A=>d0 fun β k=>ya β L z A (fun z=>k (V.gs 1 z) [])
theorem zJP(L:Nat):DK (zgV ya L) (fun _=>zh znt (znk xy yg L) L zwR):=xv zaZ fun z=>xv zbN fun A=>yK fun _ k=>zLf xy yg L z A k
def ztm:Hint:=⟨[(0,1),(1,3)],[],[none],[],[],false,false,[]⟩
def zwF:CF:=cfD ztm 65
def znH:Nat→Sh:=zj []
def znT(yg:xR)(L:Nat):CBC:=(xe 193 (ze0 yg L) noC)
def zjy{β:Type}(yg:xR)(L:Nat)(C:Ls)(A:List V)(z:Ls→Ob β):Ob β:=chk (0+32*1≤(XK A)) (ifb (List.isEmpty A) (yg β L C (yl 1 32 A) (fun D=>z D)) (yg β L C (yl 1 32 A) (fun E=>z E)))
theorem zKt{β:Type}(yg:xR)(L:Nat)(z:Ls)(A:List V)(k:KK β):zh znH (znT yg L) L zwF [(V.sl 1 z),(V.agg A)] [] k=zjy yg L z A (fun z=>k (V.gs 1 z) []):=by kernel_rfl
abbrev zaf:=∀ (β:Type),Nat→Ls→List V→(Ls→Ob β)→Ob β
def yn:zaf:=fun β=>@zjy β yg
def zhc(yn:zaf)(L:Nat):Dk:=dA (AL 1) fun z=>dA AG fun A=>d0 fun β k=>yn β L z A (fun z=>k (V.gs 1 z) [])
theorem zLe(L:Nat):DK (zhc yn L) (fun _=>zh znH (znT yg L) L zwF):=xv zaZ fun z=>xv zak fun A=>yK fun _ k=>zKt yg L z A k
def zCO:Hint:=⟨[(0,1),(1,6)],[],[none],[],[],false,false,[]⟩
def zJh:CF:=cfD zCO 95
def zw9:Nat→Sh:=zj [(7,(.int .u32))]
def zxS(yn:zaf)(xa:zq)(L:Nat):CBC:=(xe 159 (zfN xa L) (xe 160 (zhc yn L) noC))
def zzV{β:Type}(yn:zaf)(xa:zq)(L:Nat)(A:List V)(z:Ls→Ob β):Ob β:=chk (0+32≤(XK A)) (yn β L ([]:Ls) (XL 32 A) (fun C=>cI .u32 A 32 fun D=>xa β L C D (fun E=>z E)))
theorem zTv{β:Type}(yn:zaf)(xa:zq)(L:Nat)(z:List V)(k:KK β):zh zw9 (zxS yn xa L) L zJh [(V.agg z)] [] k=zzV yn xa L z (fun z=>k (V.gs 1 z) []):=by kernel_rfl
abbrev zL:=∀ (β:Type),Nat→List V→(Ls→Ob β)→Ob β
def zf:zL:=fun β=>@zzV β yn xa
def zss(zf:zL)(L:Nat):Dk:=dA AG fun z=>d0 fun β k=>zf β L z (fun z=>k (V.gs 1 z) [])
theorem zTa(L:Nat):DK (zss zf L) (fun _=>zh zw9 (zxS yn xa L) L zJh):=xv zak fun z=>yK fun _ k=>zTv yn xa L z k
def zvS:Hint:=⟨[(0,0),(1,4)],[],[none],[],[],false,false,[]⟩
def zyK:CF:=cfD zvS 153
def zpV:Nat→Sh:=zj []
def zpd(xy:zcp)(yg:xR)(L:Nat):CBC:=(xe 193 (ze0 yg L) (xe 194 (zla xy L) noC))
def zqQ{β:Type}(xy:zcp)(yg:xR)(L:Nat)(A:Ls)(C:Int)(z:Ls→Ob β):Ob β:=xy β L C (8:Int) (fun D=>yg β L A D (fun E=>z E))
theorem zLA{β:Type}(xy:zcp)(yg:xR)(L:Nat)(z:Ls)(A:Int)(k:KK β):zh zpV (zpd xy yg L) L zyK [(V.sl 1 z),(Qd A)] [] k=zqQ xy yg L z A (fun z=>k (V.gs 1 z) []):=by kernel_rfl
abbrev zhM:=∀ (β:Type),Nat→Ls→Int→(Ls→Ob β)→Ob β
def zad:zhM:=fun β=>@zqQ β xy yg
def zrf(zad:zhM)(L:Nat):Dk:=dA (AL 1) fun z=>dA (AI .u64) fun A=>d0 fun β k=>zad β L z A (fun z=>k (V.gs 1 z) [])
theorem zMS(L:Nat):DK (zrf zad L) (fun _=>zh zpV (zpd xy yg L) L zyK):=xv zaZ fun z=>xv zbN fun A=>yK fun _ k=>zLA xy yg L z A k
def zsa:Hint:=⟨[(0,0),(1,7)],[],[none],[],[],false,false,[]⟩
def zvk:CF:=cfD zsa 97
def zmD:Nat→Sh:=zj []
def zmM(ya:xo)(yg:xR)(L:Nat):CBC:=(xe 193 (ze0 yg L) (xe 185 (zgV ya L) noC))
def znJ{β:Type}(ya:xo)(yg:xR)(L:Nat)(C A:Ls)(z:Ls→Ob β):Ob β:=lt (QG .u64 ((XK A:Nat):Int)) fun D=>ya β L C D (fun E=>yg β L E A (fun F=>z F))
theorem zIA{β:Type}(ya:xo)(yg:xR)(L:Nat)(z A:Ls)(k:KK β):zh zmD (zmM ya yg L) L zvk [(V.sl 1 z),(V.sl 1 A)] [] k=znJ ya yg L z A (fun z=>k (V.gs 1 z) []):=by kernel_rfl
abbrev zu:=∀ (β:Type),Nat→Ls→Ls→(Ls→Ob β)→Ob β
def zc:zu:=fun β=>@znJ β ya yg
def zi6(zc:zu)(L:Nat):Dk:=dA (AL 1) fun z=>dA (AL 1) fun A=>d0 fun β k=>zc β L z A (fun z=>k (V.gs 1 z) [])
theorem zIN(L:Nat):DK (zi6 zc L) (fun _=>zh zmD (zmM ya yg L) L zvk):=xv zaZ fun z=>xv zaZ fun A=>yK fun _ k=>zIA ya yg L z A k
def zJs:Hint:=⟨[(0,0),(0,1),(1,7)],[],[none],[],[],false,false,[]⟩
def zPB:CF:=cfD zJs 96
def zDr:Nat→Sh:=zj [(4,(.int .i64)),(8,(.sl 1))]
def zDU(zad:zhM)(zc:zu)(L:Nat):CBC:=(xe 187 (zi6 zc L) (xe 206 (zrf zad L) noC))
def zH9{β:Type}(zad:zhM)(zc:zu)(L:Nat)(A:List V)(z:Ls→Ob β):Ob β:=cI .i64 A 0 fun C=>lt (QG .u64 C) fun D=>zad β L ([]:Ls) D (fun E=>cLd 1 A 1 fun F=>zc β L E F (fun G=>z G))
theorem zXC{β:Type}(zad:zhM)(zc:zu)(L:Nat)(z:List V)(k:KK β):zh zDr (zDU zad zc L) L zPB [(V.agg z)] [] k=zH9 zad zc L z (fun z=>k (V.gs 1 z) []):=by kernel_rfl
abbrev yQ:=∀ (β:Type),Nat→List V→(Ls→Ob β)→Ob β
def zi:yQ:=fun β=>@zH9 β zad zc
def zyn(zi:yQ)(L:Nat):Dk:=dA AG fun z=>d0 fun β k=>zi β L z (fun z=>k (V.gs 1 z) [])
theorem zXS(L:Nat):DK (zyn zi L) (fun _=>zh zDr (zDU zad zc L) L zPB):=xv zak fun z=>yK fun _ k=>zXC zad zc L z k
def zBn:Hint:=⟨[(0,0),(0,1),(1,3),(2,6),(5,2),(6,0),(6,8),(8,6),(11,2),(12,0),(12,4),(14,4),(17,2),(19,6),(23,3),(26,0),(26,1)],[],[none,some ((bl 117440550 89),(bl 618970019642689974240802175 89)),none,some ((bl 38 89),(bl 618970019642689974240802175 89)),none,none,some ((bl 492581209243686 89),(bl 618970019588646941921113471 89)),none,some ((bl 38 89),(bl 618970019588646941921113471 89)),none,none,some ((bl 32281802128991715362 89),(bl 579934938295289650113140091 89)),none,some ((bl 32 89),(bl 579934938295289650113140091 89)),none,none,some ((bl 32 89),(bl 579934938295289650113140091 89)),none,some ((bl 1057842373964929519583266 89),(bl 580284393415022003858953595 89)),none,some ((bl 32281802128991715362 89),(bl 580284393415022003858953595 89)),none,none],[],[],false,false,[]⟩
def cf_ref09_encode:CF:=cfD zBn 55
def zd5:CC:=xz [1,1,1,1,1,1,1,0,1,0,0,1,1,0,0,1,1,1,1,0,0] cf_ref09_encode.body
def zk6:CC:=xz [1,1,1,1,1,1,1,0,1,0,0,1,1,1] cf_ref09_encode.body
def ze6:CC:=xz [1,1,1,1,1,1,1,0,1,0,0] cf_ref09_encode.body
def zjn:CC:=xz [1,1,1,1,1,0,1,0,0] cf_ref09_encode.body
def zsd:CC:=xz [1,1,1,1,1,1,1,1] cf_ref09_encode.body
def zlD:CC:=xz [1,1,1,0,1,0,0] cf_ref09_encode.body
def zmp:CC:=xz [1,1,1,1,1,1] cf_ref09_encode.body
def zoA:CC:=xz [1,1,1,1] cf_ref09_encode.body
def xP:Nat→Sh:=zj [(15,(.int .u32)),(19,(.sl 35)),(24,(.sl 35)),(36,(.int .u32)),(41,(.sl 2)),(46,(.sl 2)),(59,(.int .u32)),(62,(.sl 35)),(72,(.sl 1)),(77,(.sl 1)),(82,(.sl 1))]
def zQ(xa:zq)(ya:xo)(zf:zL)(zi:yQ)(zc:zu)(L:Nat):CBC:=(xe 187 (zi6 zc L) (xe 186 (zyn zi L) (xe 138 (zss zf L) (xe 185 (zgV ya L) (xe 159 (zfN xa L) noC)))))
def zmk:St→St:=yM 0 (bl 117440550 89) (bl 618970019642689974240802175 89)
def zkw:St→St:=yM 0 (bl 492581209243686 89) (bl 618970019588646941921113471 89)
def zcr:St→St:=yM 0 (bl 32281802128991715362 89) (bl 579934938295289650113140091 89)
def zea:St→St:=yM 0 (bl 1057842373964929519583266 89) (bl 580284393415022003858953595 89)
def zfY(D:Bool)(E z:Ls)(A C:Int)(F:List V):St:=⟨(jn 1 ((V.sc (.bool D))::((V.ptr 2 0)::(jn 2 ((V.gs 1 E)::(jn 18 ((V.sl 35 z)::((Qe A)::((Qe C)::(jn 62 [])))))))))),(gn 2 ((.live true F)::(gn 86 [])))⟩
def zjE(z:Bool)(A:Ls)(C:List V):St:=⟨(jn 1 ((V.sc (.bool z))::((V.ptr 2 0)::(jn 2 ((V.gs 1 A)::(jn 83 [])))))),(gn 2 ((.live true C)::(gn 86 [])))⟩
def ze3(D:Bool)(E z:Ls)(A C:Int)(F:List V):St:=⟨(jn 1 ((V.sc (.bool D))::((V.ptr 2 0)::(jn 2 ((V.gs 1 E)::(jn 40 ((V.sl 2 z)::((Qe A)::((Qe C)::(jn 40 [])))))))))),(gn 2 ((.live true F)::(gn 86 [])))⟩
def zjB(z:Bool)(A:Ls)(C:List V):St:=⟨(jn 1 ((V.sc (.bool z))::((V.ptr 2 0)::(jn 2 ((V.gs 1 A)::(jn 83 [])))))),(gn 2 ((.live true C)::(gn 86 [])))⟩
def zbX(D:Bool)(E z:Ls)(A C:Int):St:=⟨(jn 1 ((V.sc (.bool D))::(jn 3 ((V.gs 1 E)::(jn 56 ((V.sl 35 z)::((Qe A)::((Qe C)::(jn 24 []))))))))),(gn 89 [])⟩
def zjK(z:Ls):St:=⟨(jn 5 ((V.gs 1 z)::(jn 83 []))),(gn 89 [])⟩
def zbZ(G:Bool)(H z:Ls)(A C:Int)(D:Ls)(E F:Int):St:=⟨(jn 1 ((V.sc (.bool G))::(jn 3 ((V.gs 1 H)::(jn 56 ((V.sl 35 z)::((Qe A)::((Qe C)::(jn 12 ((V.sl 1 D)::((Qe E)::((Qe F)::(jn 9 []))))))))))))),(gn 89 [])⟩
def zpA(D:Bool)(E z:Ls)(A C:Int):St:=⟨(jn 1 ((V.sc (.bool D))::(jn 3 ((V.gs 1 E)::(jn 56 ((V.sl 35 z)::((Qe A)::((Qe C)::(jn 24 []))))))))),(gn 89 [])⟩
abbrev ztu(β:Type):Type:=Bool→Ls→Ls→Int→Int→List V→Ob β
abbrev zqt(β:Type):Type:=Bool→Ls→Ls→Int→Int→List V→Ob β
abbrev zhm(β:Type):Type:=Bool→Ls→Ls→Int→Int→Ls→Int→Int→Ob β
def zxC{β:Type}(xa:zq)(ya:xo)(zf:zL)(zi:yQ)(zc:zu)(L:Nat)(A:List V)(D:Bool)(z:ztu β):Ob β:=cI .u32 A 0 fun E=>xa β L ([]:Ls) E (fun F=>cLd 35 A 1 fun G=>lt (QG .u64 ((XK G:Nat):Int)) fun H=>ya β L F H (fun I=>cLd 35 A 1 fun C=>z D I C ((XK C:Nat):Int) (0:Int) A))
theorem zRu{β:Type}(xa:zq)(ya:xo)(zf:zL)(zi:yQ)(zc:zu)(L:Nat)(A:List V)(z:Bool)(k:KK β):zh xP (zQ xa ya zf zi zc L) L cf_ref09_encode [(V.agg A),(V.sc (.bool z))] [] k=zxC xa ya zf zi zc L A z (fun z F C D E G=>zx (ze xP (zQ xa ya zf zi zc L) 0 L zlD) zmk L (zfY z F C D E G) (xi 0 (yv (ze xP (zQ xa ya zf zi zc L) 0 L zoA) (zD 0 (CF.res cf_ref09_encode) k)))):=by kernel_rfl
def zmK{β:Type}(xa:zq)(ya:xo)(zf:zL)(zi:yQ)(zc:zu)(L:Nat)(I:Bool)(C D:Ls)(E A:Int)(J:List V)(z:ztu β)(F:Bool→Ls→List V→Ob β):Ob β:=ifb (decide (A<E)) (idx D A fun M=>chk ((XK (XL 35 M))=35∧0+35≤35) (lt (zk (We 32 (Qa (0:Int))++[(Qc (0:Int)),(Qc (0:Int)),(V.gs 1 ([]:Ls))]) 0 (XL 35 M)) fun G=>chk (0+33≤(XK G)) (zf β L (XL 33 G) (fun H=>chk ((XK C+XK H)*1≤xm∧XK C+XK H≤xm) (lt (C++H) fun Q=>cI .u32 G 33 fun N=>xa β L Q N (fun O=>lt (QG .i64 ((A:Int)+(1:Int))) fun P=>z I O D E P J)))))) (F I C J)
theorem zFr{β:Type}(xa:zq)(ya:xo)(zf:zL)(zi:yQ)(zc:zu)(L:Nat)(D:Bool)(E z:Ls)(A C:Int)(F:List V)(X:St→Ob β)(K:KT β):ze xP (zQ xa ya zf zi zc L) 0 L zlD (zfY D E z A C F) (yH zmk X K)=zmK xa ya zf zi zc L D E z A C F (fun D E z A C F=>X (zfY D E z A C F)) (fun D E F=>K (.exit 0) (zjE D E F)):=by kernel_rfl
def zkt{β:Type}(xa:zq)(ya:xo)(zf:zL)(zi:yQ)(zc:zu)(L:Nat)(G:Bool)(H:Ls)(C:List V)(z:zqt β):Ob β:=cLd 2 C 2 fun D=>lt (QG .u64 ((XK D:Nat):Int)) fun E=>ya β L H E (fun F=>cLd 2 C 2 fun A=>z G F A ((XK A:Nat):Int) (0:Int) C)
theorem zCk{β:Type}(xa:zq)(ya:xo)(zf:zL)(zi:yQ)(zc:zu)(L:Nat)(z:Bool)(A:Ls)(C:List V)(k:KK β):(xi 0 (yv (ze xP (zQ xa ya zf zi zc L) 0 L zoA) (zD 0 (CF.res cf_ref09_encode) k))) (.exit 0) (zjE z A C)=zkt xa ya zf zi zc L z A C (fun z A D E F C=>zx (ze xP (zQ xa ya zf zi zc L) 0 L zjn) zkw L (ze3 z A D E F C) (xi 2 (yv (ze xP (zQ xa ya zf zi zc L) 0 L zmp) (zD 0 (CF.res cf_ref09_encode) k)))):=by kernel_rfl
def zkp{β:Type}(xa:zq)(ya:xo)(zf:zL)(zi:yQ)(zc:zu)(L:Nat)(J:Bool)(D E:Ls)(F A:Int)(M:List V)(z:zqt β)(I:Bool→Ls→List V→Ob β):Ob β:=ifb (decide (A<F)) (idx E A fun G=>chk ((XK (XL 2 G))=2∧0+2≤2) (lt (zk [(Qe (0:Int)),(V.gs 1 ([]:Ls))] 0 (XL 2 G)) fun H=>chk (0+2≤(XK H)) (zi β L (Xv V.dem (XL 2 H)) (fun C=>chk ((XK D+XK C)*1≤xm∧XK D+XK C≤xm) (lt (D++C) fun N=>lt (QG .i64 ((A:Int)+(1:Int))) fun O=>z J N E F O M))))) (I J D M)
theorem zCl{β:Type}(xa:zq)(ya:xo)(zf:zL)(zi:yQ)(zc:zu)(L:Nat)(D:Bool)(E z:Ls)(A C:Int)(F:List V)(X:St→Ob β)(K:KT β):ze xP (zQ xa ya zf zi zc L) 0 L zjn (ze3 D E z A C F) (yH zkw X K)=zkp xa ya zf zi zc L D E z A C F (fun D E z A C F=>X (ze3 D E z A C F)) (fun D E F=>K (.exit 2) (zjB D E F)):=by kernel_rfl
def ziM{β:Type}(xa:zq)(ya:xo)(zf:zL)(zi:yQ)(zc:zu)(L:Nat)(F:Bool)(G:Ls)(C:List V)(z:Bool→Ls→Ls→Int→Int→Ob β):Ob β:=cI .u32 C 3 fun D=>xa β L G D (fun E=>cLd 35 C 1 fun A=>z F E A ((XK A:Nat):Int) (0:Int))
theorem zzf{β:Type}(xa:zq)(ya:xo)(zf:zL)(zi:yQ)(zc:zu)(L:Nat)(z:Bool)(A:Ls)(C:List V)(k:KK β):(xi 2 (yv (ze xP (zQ xa ya zf zi zc L) 0 L zmp) (zD 0 (CF.res cf_ref09_encode) k))) (.exit 2) (zjB z A C)=ziM xa ya zf zi zc L z A C (fun z A D E F=>zx (ze xP (zQ xa ya zf zi zc L) 0 L ze6) zcr L (zbX z A D E F) (xi 4 (yv (ze xP (zQ xa ya zf zi zc L) 0 L zsd) (zD 0 (CF.res cf_ref09_encode) k)))):=by kernel_rfl
def zfr{β:Type}(xa:zq)(ya:xo)(zf:zL)(zi:yQ)(zc:zu)(L:Nat)(J:Bool)(I D:Ls)(E A:Int)(C:Ls→Ob β)(z:zhm β):Ob β:=ifb (decide (A<E)) (idx D A fun F=>chk ((XK (XL 35 F))=35∧0+35≤35) (lt (zk (We 32 (Qa (0:Int))++[(Qc (0:Int)),(Qc (0:Int)),(V.gs 1 ([]:Ls))]) 0 (XL 35 F)) fun G=>ifb (!J) (C I) (cLd 1 G 34 fun M=>lt (QG .u64 ((XK M:Nat):Int)) fun N=>ya β L I N (fun O=>cLd 1 G 34 fun H=>z J O D E A H ((XK H:Nat):Int) (0:Int))))) (C I)
theorem zzK{β:Type}(xa:zq)(ya:xo)(zf:zL)(zi:yQ)(zc:zu)(L:Nat)(E:Bool)(D z:Ls)(A C:Int)(X:St→Ob β)(K:KT β):ze xP (zQ xa ya zf zi zc L) 0 L ze6 (zbX E D z A C) (yH zcr X K)=zfr xa ya zf zi zc L E D z A C (fun D=>K (.exit 4) (zjK D)) (fun E D z A C F G H=>zx (ze xP (zQ xa ya zf zi zc L) 0 L zd5) zea L (zbZ E D z A C F G H) (xi 6 (xi 5 (yv (ze xP (zQ xa ya zf zi zc L) 0 L zk6) (yH zcr X K))))):=by kernel_rfl
def zeG{β:Type}(xa:zq)(ya:xo)(zf:zL)(zi:yQ)(zc:zu)(L:Nat)(A:Ls)(z:Ls→Ob β):Ob β:=z A
theorem zwy{β:Type}(xa:zq)(ya:xo)(zf:zL)(zi:yQ)(zc:zu)(L:Nat)(z:Ls)(k:KK β):(xi 4 (yv (ze xP (zQ xa ya zf zi zc L) 0 L zsd) (zD 0 (CF.res cf_ref09_encode) k))) (.exit 4) (zjK z)=zeG xa ya zf zi zc L z (fun A=>k (V.gs 1 A) []):=by kernel_rfl
def zee{β:Type}(xa:zq)(ya:xo)(zf:zL)(zi:yQ)(zc:zu)(L:Nat)(I:Bool)(J C:Ls)(D E:Int)(F:Ls)(G A:Int)(z:zhm β)(H:Bool→Ls→Ls→Int→Int→Ob β):Ob β:=ifb (decide (A<G)) (idx F A fun M=>cL 1 M 0 fun N=>zc β L J N (fun O=>lt (QG .i64 ((A:Int)+(1:Int))) fun P=>z I O C D E F G P)) (H I J C D E)
theorem zou{β:Type}(xa:zq)(ya:xo)(zf:zL)(zi:yQ)(zc:zu)(L:Nat)(G:Bool)(H z:Ls)(A C:Int)(D:Ls)(E F:Int)(X:St→Ob β)(K:KT β):ze xP (zQ xa ya zf zi zc L) 0 L zd5 (zbZ G H z A C D E F) (yH zea X K)=zee xa ya zf zi zc L G H z A C D E F (fun G H z A C D E F=>X (zbZ G H z A C D E F)) (fun G H z A C=>K (.exit 6) (zpA G H z A C)):=by kernel_rfl
def zdD{β:Type}(xa:zq)(ya:xo)(zf:zL)(zi:yQ)(zc:zu)(L:Nat)(F:Bool)(G A:Ls)(C D:Int)(z:Bool→Ls→Ls→Int→Int→Ob β):Ob β:=lt (QG .i64 ((D:Int)+(1:Int))) fun E=>z F G A C E
theorem zm5{β:Type}(xa:zq)(ya:xo)(zf:zL)(zi:yQ)(zc:zu)(L:Nat)(D:Bool)(E z:Ls)(A C:Int)(X:St→Ob β)(K:KT β):(xi 6 (xi 5 (yv (ze xP (zQ xa ya zf zi zc L) 0 L zk6) (yH zcr X K)))) (.exit 6) (zpA D E z A C)=zdD xa ya zf zi zc L D E z A C (fun D E z A C=>X (zbX D E z A C)):=by kernel_rfl
def zfG{β:Type}(xa:zq)(ya:xo)(zf:zL)(zi:yQ)(zc:zu)(L:Nat)(z:Bool→Ls→List V→Ob β):Nat→Bool→Ls→Ls→Int→Int→List V→Ob β
 | 0,_,_,_,_,_,_=>none
 | n+1,E,F,A,C,D,G=>zmK xa ya zf zi zc L E F A C D G (fun E F A C D G=>zfG xa ya zf zi zc L z n E F A C D G) z
theorem zqn{β:Type}(xa:zq)(ya:xo)(zf:zL)(zi:yQ)(zc:zu)(L:Nat)(K:KT β):∀ (n:Nat) (z:Bool) (A D:Ls) (E F:Int) (C:List V),zx (ze xP (zQ xa ya zf zi zc L) 0 L zlD) zmk n (zfY z A D E F C) K=zfG xa ya zf zi zc L (fun z A C=>K (.exit 0) (zjE z A C)) n z A D E F C:=by
 intro n; induction n <;> intros
 ·rfl
 ·exact (zFr ..).trans (by simp only [*]; rfl)
def zex{β:Type}(xa:zq)(ya:xo)(zf:zL)(zi:yQ)(zc:zu)(L:Nat)(z:Bool→Ls→List V→Ob β):Nat→Bool→Ls→Ls→Int→Int→List V→Ob β
 | 0,_,_,_,_,_,_=>none
 | n+1,E,F,A,C,D,G=>zkp xa ya zf zi zc L E F A C D G (fun E F A C D G=>zex xa ya zf zi zc L z n E F A C D G) z
theorem zob{β:Type}(xa:zq)(ya:xo)(zf:zL)(zi:yQ)(zc:zu)(L:Nat)(K:KT β):∀ (n:Nat) (z:Bool) (A D:Ls) (E F:Int) (C:List V),zx (ze xP (zQ xa ya zf zi zc L) 0 L zjn) zkw n (ze3 z A D E F C) K=zex xa ya zf zi zc L (fun z A C=>K (.exit 2) (zjB z A C)) n z A D E F C:=by
 intro n; induction n <;> intros
 ·rfl
 ·exact (zCl ..).trans (by simp only [*]; rfl)
def zbx{β:Type}(xa:zq)(ya:xo)(zf:zL)(zi:yQ)(zc:zu)(L:Nat)(z:Bool→Ls→Ls→Int→Int→Ob β):Nat→Bool→Ls→Ls→Int→Int→Ls→Int→Int→Ob β
 | 0,_,_,_,_,_,_,_,_=>none
 | n+1,H,I,A,C,D,E,F,G=>zee xa ya zf zi zc L H I A C D E F G (fun H I A C D E F G=>zbx xa ya zf zi zc L z n H I A C D E F G) z
theorem zgA{β:Type}(xa:zq)(ya:xo)(zf:zL)(zi:yQ)(zc:zu)(L:Nat)(K:KT β):∀ (n:Nat) (D:Bool) (E z:Ls) (A C:Int) (F:Ls) (G H:Int),zx (ze xP (zQ xa ya zf zi zc L) 0 L zd5) zea n (zbZ D E z A C F G H) K=zbx xa ya zf zi zc L (fun D E z A C=>K (.exit 6) (zpA D E z A C)) n D E z A C F G H:=by
 intro n; induction n <;> intros
 ·rfl
 ·exact (zou ..).trans (by simp only [*]; rfl)
def zdp{β:Type}(xa:zq)(ya:xo)(zf:zL)(zi:yQ)(zc:zu)(L:Nat)(E:Bool)(F A:Ls)(C D:Int)(G:Ls→Ob β)(z:Bool→Ls→Ls→Int→Int→Ob β):Ob β:=zfr xa ya zf zi zc L E F A C D G (fun E F A C D H I J=>zbx xa ya zf zi zc L (fun E F A C D=>zdD xa ya zf zi zc L E F A C D z) L E F A C D H I J)
theorem zxo{β:Type}(xa:zq)(ya:xo)(zf:zL)(zi:yQ)(zc:zu)(L:Nat)(E:Bool)(D z:Ls)(A C:Int)(X:St→Ob β)(K:KT β):ze xP (zQ xa ya zf zi zc L) 0 L ze6 (zbX E D z A C) (yH zcr X K)=zdp xa ya zf zi zc L E D z A C (fun D=>K (.exit 4) (zjK D)) (fun E D z A C=>X (zbX E D z A C)):=by
 refine (zzK xa ya zf zi zc L E D z A C X K).trans ?_
 unfold zdp
 first
  | (simp only [zgA,zm5]; done)
  | (simp only [zgA]; rfl)
def zbk{β:Type}(xa:zq)(ya:xo)(zf:zL)(zi:yQ)(zc:zu)(L:Nat)(z:Ls→Ob β):Nat→Bool→Ls→Ls→Int→Int→Ob β
 | 0,_,_,_,_,_=>none
 | n+1,E,F,A,C,D=>zdp xa ya zf zi zc L E F A C D z (fun E F A C D=>zbk xa ya zf zi zc L z n E F A C D)
theorem zlR{β:Type}(xa:zq)(ya:xo)(zf:zL)(zi:yQ)(zc:zu)(L:Nat)(K:KT β):∀ (n:Nat) (E:Bool) (z A:Ls) (C D:Int),zx (ze xP (zQ xa ya zf zi zc L) 0 L ze6) zcr n (zbX E z A C D) K=zbk xa ya zf zi zc L (fun z=>K (.exit 4) (zjK z)) n E z A C D:=by
 intro n; induction n <;> intros
 ·rfl
 ·exact (zxo ..).trans (by simp only [*]; rfl)
def ze7{β:Type}(xa:zq)(ya:xo)(zf:zL)(zi:yQ)(zc:zu)(L:Nat)(C:Bool)(z:Ls)(G:List V)(A:Ls→Ob β):Ob β:=ziM xa ya zf zi zc L C z G (fun C z D E F=>zbk xa ya zf zi zc L (fun z=>zeG xa ya zf zi zc L z A) L C z D E F)
theorem zx3{β:Type}(xa:zq)(ya:xo)(zf:zL)(zi:yQ)(zc:zu)(L:Nat)(z:Bool)(A:Ls)(C:List V)(k:KK β):(xi 2 (yv (ze xP (zQ xa ya zf zi zc L) 0 L zmp) (zD 0 (CF.res cf_ref09_encode) k))) (.exit 2) (zjB z A C)=ze7 xa ya zf zi zc L z A C (fun D=>k (V.gs 1 D) []):=by
 refine (zzf xa ya zf zi zc L z A C k).trans ?_
 unfold ze7
 first
  | (simp only [zlR,zwy]; done)
  | (simp only [zlR]; rfl)
def zf4{β:Type}(xa:zq)(ya:xo)(zf:zL)(zi:yQ)(zc:zu)(L:Nat)(z:Bool)(A:Ls)(C:List V)(D:Ls→Ob β):Ob β:=zkt xa ya zf zi zc L z A C (fun z A E F G C=>zex xa ya zf zi zc L (fun z A C=>ze7 xa ya zf zi zc L z A C D) L z A E F G C)
theorem zAB{β:Type}(xa:zq)(ya:xo)(zf:zL)(zi:yQ)(zc:zu)(L:Nat)(z:Bool)(A:Ls)(C:List V)(k:KK β):(xi 0 (yv (ze xP (zQ xa ya zf zi zc L) 0 L zoA) (zD 0 (CF.res cf_ref09_encode) k))) (.exit 0) (zjE z A C)=zf4 xa ya zf zi zc L z A C (fun D=>k (V.gs 1 D) []):=by
 refine (zCk xa ya zf zi zc L z A C k).trans ?_
 unfold zf4
 first
  | (simp only [zob,zx3]; done)
  | (simp only [zob]; rfl)
def zp0{β:Type}(xa:zq)(ya:xo)(zf:zL)(zi:yQ)(zc:zu)(L:Nat)(H:List V)(z:Bool)(A:Ls→Ob β):Ob β:=zxC xa ya zf zi zc L H z (fun z C E F G D=>zfG xa ya zf zi zc L (fun z C D=>zf4 xa ya zf zi zc L z C D A) L z C E F G D)
theorem zR2{β:Type}(xa:zq)(ya:xo)(zf:zL)(zi:yQ)(zc:zu)(L:Nat)(z:List V)(A:Bool)(k:KK β):zh xP (zQ xa ya zf zi zc L) L cf_ref09_encode [(V.agg z),(V.sc (.bool A))] [] k=zp0 xa ya zf zi zc L z A (fun z=>k (V.gs 1 z) []):=by
 refine (zRu xa ya zf zi zc L z A k).trans ?_
 unfold zp0
 first
  | (simp only [zqn,zAB]; done)
  | (simp only [zqn]; rfl)
abbrev yD:=∀ (β:Type),Nat→List V→Bool→(Ls→Ob β)→Ob β
def yd:yD:=fun β=>@zp0 β xa ya zf zi zc
def zeS(yd:yD)(L:Nat):Dk:=dA AG fun z=>dA AB fun A=>d0 fun β k=>yd β L z A (fun z=>k (V.gs 1 z) [])
theorem zRM(L:Nat):DK (zeS yd L) (fun _=>zh xP (zQ xa ya zf zi zc L) L cf_ref09_encode):=xv zak fun z=>xv zUm fun A=>yK fun _ k=>zR2 xa ya zf zi zc L z A k
def zGQ:Hint:=⟨[(0,0),(5,2),(11,2)],[],[none,none,none,some ((bl 7340034 63),(bl 9223372032559808427 63)),none,some ((bl 2 63),(bl 9223372032559808427 63)),none,none,some ((bl 4 63),(bl 9223372032559808429 63)),none,some ((bl 962072674306 63),(bl 9186745105510301355 63)),none,some ((bl 2 63),(bl 9186745105510301355 63)),none,none,some ((bl 4 63),(bl 9186745105510301357 63)),none,some ((bl 1971286909648898 63),(bl 9187343239835811499 63)),none,some ((bl 962072674306 63),(bl 9187343239835811499 63)),none,none,some ((bl 4 63),(bl 9186745105510301357 63)),none],[],[],false,false,[]⟩
def cf_ref09_Fits:CF:=cfD zGQ 53
def zgl:CC:=xz [1,1,1,0,1,0,0,1,1,0,0,1,1,1,0,0] cf_ref09_Fits.body
def zki:CC:=xz [1,1,1,0,1,0,0,1,1,1] cf_ref09_Fits.body
def zjg:CC:=xz [1,1,1,0,1,0,0] cf_ref09_Fits.body
def zpH:CC:=xz [1,1,0,1,0,0] cf_ref09_Fits.body
def zte:CC:=xz [1,1,1,1] cf_ref09_Fits.body
def zol:CC:=xz [1,1,1] cf_ref09_Fits.body
def z9:Nat→Sh:=zj [(10,(.sl 35)),(15,(.sl 2)),(20,(.sl 2)),(27,(.int .i64)),(31,(.sl 1)),(37,(.sl 35)),(44,(.sl 1)),(48,(.sl 1)),(53,(.sl 1))]
def y8(yd:yD)(L:Nat):CBC:=(xe 149 (zeS yd L) noC)
def zq7:St→St:=yM 0 (bl 7340034 63) (bl 9223372032559808427 63)
def zdM:St→St:=yM 0 (bl 962072674306 63) (bl 9186745105510301355 63)
def zgW:St→St:=yM 0 (bl 1971286909648898 63) (bl 9187343239835811499 63)
def ziq(z:Ls)(A C:Int)(D:List V):St:=⟨(jn 1 ((V.ptr 1 0)::(jn 18 ((V.sl 2 z)::((Qe A)::((Qe C)::(jn 40 []))))))),(gn 1 ((.live true D)::(gn 61 [])))⟩
def zbw(z:Bool):St:=⟨(jn 2 ((V.sc (.bool z))::(jn 60 []))),(gn 63 [])⟩
def zmS(z:List V):St:=⟨(jn 1 ((V.ptr 1 0)::(jn 61 []))),(gn 1 ((.live true z)::(gn 61 [])))⟩
def zdv(z:Ls)(A C:Int)(D:List V):St:=⟨(jn 1 ((V.ptr 1 0)::(jn 35 ((V.sl 35 z)::((Qe A)::((Qe C)::(jn 23 []))))))),(gn 1 ((.live true D)::(gn 61 [])))⟩
def zdo(z:Ls)(A C:Int)(D:Ls)(E F:Int)(G:List V):St:=⟨(jn 1 ((V.ptr 1 0)::(jn 35 ((V.sl 35 z)::((Qe A)::((Qe C)::(jn 8 ((V.sl 1 D)::((Qe E)::((Qe F)::(jn 12 []))))))))))),(gn 1 ((.live true G)::(gn 61 [])))⟩
def zmt(z:List V):St:=⟨(jn 1 ((V.ptr 1 0)::(jn 61 []))),(gn 1 ((.live true z)::(gn 61 [])))⟩
def ztb(z:Ls)(A C:Int)(D:List V):St:=⟨(jn 1 ((V.ptr 1 0)::(jn 35 ((V.sl 35 z)::((Qe A)::((Qe C)::(jn 23 []))))))),(gn 1 ((.live true D)::(gn 61 [])))⟩
abbrev zlL(β:Type):Type:=Ls→Int→Int→Ls→Int→Int→List V→Ob β
def zCM{β:Type}(yd:yD)(L:Nat)(C:List V)(A:Bool→Ob β)(z:Ls→Int→Int→List V→Ob β):Ob β:=cLd 35 C 1 fun E=>ifb (decide (((XK E:Nat):Int)>(64:Int))) (A false) (cLd 2 C 2 fun F=>ifb (decide (((XK F:Nat):Int)>(64:Int))) (A false) (cLd 2 C 2 fun D=>z D ((XK D:Nat):Int) (0:Int) C))
theorem zVG{β:Type}(yd:yD)(L:Nat)(z:List V)(k:KK β):zh z9 (y8 yd L) L cf_ref09_Fits [(V.agg z)] [] k=zCM yd L z (fun z=>k (V.sc (.bool z)) []) (fun A C D E=>zx (ze z9 (y8 yd L) 0 L zpH) zq7 L (ziq A C D E) (xi 0 (yv (ze z9 (y8 yd L) 0 L zol) (zD 0 (CF.res cf_ref09_Fits) k)))):=by kernel_rfl
def zq0{β:Type}(yd:yD)(L:Nat)(D:Ls)(E C:Int)(G:List V)(A:Bool→Ob β)(z:Ls→Int→Int→List V→Ob β)(F:List V→Ob β):Ob β:=ifb (decide (C<E)) (idx D C fun H=>chk ((XK (XL 2 H))=2∧0+2≤2) (lt (zk [(Qe (0:Int)),(V.gs 1 ([]:Ls))] 0 (XL 2 H)) fun I=>cI .i64 I 0 fun J=>ifb (decide (J<(0:Int))) (A false) (cLd 1 I 1 fun M=>ifb (decide (((XK M:Nat):Int)>(520:Int))) (A false) (lt (QG .i64 ((C:Int)+(1:Int))) fun N=>z D E N G)))) (F G)
theorem zMs{β:Type}(yd:yD)(L:Nat)(z:Ls)(A C:Int)(D:List V)(X:St→Ob β)(K:KT β):ze z9 (y8 yd L) 0 L zpH (ziq z A C D) (yH zq7 X K)=zq0 yd L z A C D (fun E=>K .ret (zbw E)) (fun z A C D=>X (ziq z A C D)) (fun D=>K (.exit 0) (zmS D)):=by kernel_rfl
def zmw{β:Type}(yd:yD)(L:Nat)(A:Bool)(z:Bool→Ob β):Ob β:=z A
theorem zFE{β:Type}(yd:yD)(L:Nat)(z:Bool)(k:KK β):(xi 0 (yv (ze z9 (y8 yd L) 0 L zol) (zD 0 (CF.res cf_ref09_Fits) k))) .ret (zbw z)=zmw yd L z (fun A=>k (V.sc (.bool A)) []):=by kernel_rfl
def znP{β:Type}(yd:yD)(L:Nat)(A:List V)(z:Ls→Int→Int→List V→Ob β):Ob β:=cLd 35 A 1 fun C=>z C ((XK C:Nat):Int) (0:Int) A
theorem zIP{β:Type}(yd:yD)(L:Nat)(z:List V)(k:KK β):(xi 0 (yv (ze z9 (y8 yd L) 0 L zol) (zD 0 (CF.res cf_ref09_Fits) k))) (.exit 0) (zmS z)=znP yd L z (fun A C D z=>zx (ze z9 (y8 yd L) 0 L zjg) zdM L (zdv A C D z) (xi 2 (yv (ze z9 (y8 yd L) 0 L zte) (zD 0 (CF.res cf_ref09_Fits) k)))):=by kernel_rfl
def zpt{β:Type}(yd:yD)(L:Nat)(D:Ls)(E A:Int)(I:List V)(C:Bool→Ob β)(z:zlL β)(H:List V→Ob β):Ob β:=ifb (decide (A<E)) (idx D A fun J=>chk ((XK (XL 35 J))=35∧0+35≤35) (lt (zk (We 32 (Qa (0:Int))++[(Qc (0:Int)),(Qc (0:Int)),(V.gs 1 ([]:Ls))]) 0 (XL 35 J)) fun F=>cLd 1 F 34 fun M=>ifb (decide (((XK M:Nat):Int)>(32:Int))) (C false) (cLd 1 F 34 fun G=>z D E A G ((XK G:Nat):Int) (0:Int) I))) (H I)
theorem zLd{β:Type}(yd:yD)(L:Nat)(z:Ls)(A C:Int)(D:List V)(X:St→Ob β)(K:KT β):ze z9 (y8 yd L) 0 L zjg (zdv z A C D) (yH zdM X K)=zpt yd L z A C D (fun H=>K .ret (zbw H)) (fun z A C E F G D=>zx (ze z9 (y8 yd L) 0 L zgl) zgW L (zdo z A C E F G D) (xi 4 (xi 3 (yv (ze z9 (y8 yd L) 0 L zki) (yH zdM X K))))) (fun D=>K (.exit 2) (zmt D)):=by kernel_rfl
def zk2{β:Type}(yd:yD)(L:Nat)(A:Bool)(z:Bool→Ob β):Ob β:=z A
theorem zDg{β:Type}(yd:yD)(L:Nat)(z:Bool)(k:KK β):(xi 2 (yv (ze z9 (y8 yd L) 0 L zte) (zD 0 (CF.res cf_ref09_Fits) k))) .ret (zbw z)=zk2 yd L z (fun A=>k (V.sc (.bool A)) []):=by kernel_rfl
def zml{β:Type}(yd:yD)(L:Nat)(A:List V)(z:Bool→Ob β):Ob β:=chk (0+4≤(XK A)) (yd β L (Xv V.dem (XL 4 A)) true (fun C=>z (decide (((XK C:Nat):Int)≤(20000:Int)))))
theorem zFx{β:Type}(yd:yD)(L:Nat)(z:List V)(k:KK β):(xi 2 (yv (ze z9 (y8 yd L) 0 L zte) (zD 0 (CF.res cf_ref09_Fits) k))) (.exit 2) (zmt z)=zml yd L z (fun A=>k (V.sc (.bool A)) []):=by kernel_rfl
def zg6{β:Type}(yd:yD)(L:Nat)(D:Ls)(E F:Int)(G:Ls)(H A:Int)(J:List V)(C:Bool→Ob β)(z:zlL β)(I:Ls→Int→Int→List V→Ob β):Ob β:=ifb (decide (A<H)) (idx G A fun M=>cL 1 M 0 fun N=>ifb (decide (((XK N:Nat):Int)>(520:Int))) (C false) (lt (QG .i64 ((A:Int)+(1:Int))) fun O=>z D E F G H O J)) (I D E F J)
theorem zug{β:Type}(yd:yD)(L:Nat)(z:Ls)(A C:Int)(D:Ls)(E F:Int)(G:List V)(X:St→Ob β)(K:KT β):ze z9 (y8 yd L) 0 L zgl (zdo z A C D E F G) (yH zgW X K)=zg6 yd L z A C D E F G (fun H=>K .ret (zbw H)) (fun z A C D E F G=>X (zdo z A C D E F G)) (fun z A C G=>K (.exit 4) (ztb z A C G)):=by kernel_rfl
def zfx{β:Type}(yd:yD)(L:Nat)(A:Bool)(z:Bool→Ob β):Ob β:=z A
theorem zrU{β:Type}(yd:yD)(L:Nat)(z:Bool)(X:St→Ob β)(K:KT β):(xi 4 (xi 3 (yv (ze z9 (y8 yd L) 0 L zki) (yH zdM X K)))) .ret (zbw z)=zfx yd L z (fun z=>K .ret (zbw z)):=by kernel_rfl
def zfU{β:Type}(yd:yD)(L:Nat)(A:Ls)(C D:Int)(F:List V)(z:Ls→Int→Int→List V→Ob β):Ob β:=lt (QG .i64 ((D:Int)+(1:Int))) fun E=>z A C E F
theorem zsJ{β:Type}(yd:yD)(L:Nat)(z:Ls)(A C:Int)(D:List V)(X:St→Ob β)(K:KT β):(xi 4 (xi 3 (yv (ze z9 (y8 yd L) 0 L zki) (yH zdM X K)))) (.exit 4) (ztb z A C D)=zfU yd L z A C D (fun z A C D=>X (zdv z A C D)):=by kernel_rfl
def zhK{β:Type}(yd:yD)(L:Nat)(z:Bool→Ob β)(A:List V→Ob β):Nat→Ls→Int→Int→List V→Ob β
 | 0,_,_,_,_=>none
 | n+1,C,D,E,F=>zq0 yd L C D E F z (fun C D E F=>zhK yd L z A n C D E F) A
theorem zt7{β:Type}(yd:yD)(L:Nat)(K:KT β):∀ (n:Nat) (A:Ls) (C D:Int) (z:List V),zx (ze z9 (y8 yd L) 0 L zpH) zq7 n (ziq A C D z) K=zhK yd L (fun E=>K .ret (zbw E)) (fun z=>K (.exit 0) (zmS z)) n A C D z:=by
 intro n; induction n <;> intros
 ·rfl
 ·exact (zMs ..).trans (by simp only [*]; rfl)
def zcB{β:Type}(yd:yD)(L:Nat)(z:Bool→Ob β)(A:Ls→Int→Int→List V→Ob β):Nat→Ls→Int→Int→Ls→Int→Int→List V→Ob β
 | 0,_,_,_,_,_,_,_=>none
 | n+1,C,D,E,F,G,H,I=>zg6 yd L C D E F G H I z (fun C D E F G H I=>zcB yd L z A n C D E F G H I) A
theorem zjD{β:Type}(yd:yD)(L:Nat)(K:KT β):∀ (n:Nat) (z:Ls) (A C:Int) (E:Ls) (F G:Int) (D:List V),zx (ze z9 (y8 yd L) 0 L zgl) zgW n (zdo z A C E F G D) K=zcB yd L (fun H=>K .ret (zbw H)) (fun z A C D=>K (.exit 4) (ztb z A C D)) n z A C E F G D:=by
 intro n; induction n <;> intros
 ·rfl
 ·exact (zug ..).trans (by simp only [*]; rfl)
def zji{β:Type}(yd:yD)(L:Nat)(z:Ls)(A C:Int)(F:List V)(E:Bool→Ob β)(G:List V→Ob β)(D:Ls→Int→Int→List V→Ob β):Ob β:=zpt yd L z A C F E (fun z A C H I J F=>zcB yd L (fun M=>zfx yd L M E) (fun z A C F=>zfU yd L z A C F D) L z A C H I J F) G
theorem zHR{β:Type}(yd:yD)(L:Nat)(z:Ls)(A C:Int)(D:List V)(X:St→Ob β)(K:KT β):ze z9 (y8 yd L) 0 L zjg (zdv z A C D) (yH zdM X K)=zji yd L z A C D (fun E=>K .ret (zbw E)) (fun D=>K (.exit 2) (zmt D)) (fun z A C D=>X (zdv z A C D)):=by
 refine (zLd yd L z A C D X K).trans ?_
 unfold zji
 first
  | (simp only [zjD,zrU,zsJ]; done)
  | (simp only [zjD]; rfl)
def zg5{β:Type}(yd:yD)(L:Nat)(z:Bool→Ob β)(A:List V→Ob β):Nat→Ls→Int→Int→List V→Ob β
 | 0,_,_,_,_=>none
 | n+1,C,D,E,F=>zji yd L C D E F z A (fun C D E F=>zg5 yd L z A n C D E F)
theorem ztV{β:Type}(yd:yD)(L:Nat)(K:KT β):∀ (n:Nat) (A:Ls) (C D:Int) (z:List V),zx (ze z9 (y8 yd L) 0 L zjg) zdM n (zdv A C D z) K=zg5 yd L (fun E=>K .ret (zbw E)) (fun z=>K (.exit 2) (zmt z)) n A C D z:=by
 intro n; induction n <;> intros
 ·rfl
 ·exact (zHR ..).trans (by simp only [*]; rfl)
def zii{β:Type}(yd:yD)(L:Nat)(A:List V)(z:Bool→Ob β):Ob β:=znP yd L A (fun C D E A=>zg5 yd L (fun F=>zk2 yd L F z) (fun A=>zml yd L A z) L C D E A)
theorem zFi{β:Type}(yd:yD)(L:Nat)(z:List V)(k:KK β):(xi 0 (yv (ze z9 (y8 yd L) 0 L zol) (zD 0 (CF.res cf_ref09_Fits) k))) (.exit 0) (zmS z)=zii yd L z (fun A=>k (V.sc (.bool A)) []):=by
 refine (zIP yd L z k).trans ?_
 unfold zii
 first
  | (simp only [ztV,zDg,zFx]; done)
  | (simp only [ztV]; rfl)
def zvs{β:Type}(yd:yD)(L:Nat)(F:List V)(z:Bool→Ob β):Ob β:=zCM yd L F z (fun C D E A=>zhK yd L (fun G=>zmw yd L G z) (fun A=>zii yd L A z) L C D E A)
theorem zVy{β:Type}(yd:yD)(L:Nat)(z:List V)(k:KK β):zh z9 (y8 yd L) L cf_ref09_Fits [(V.agg z)] [] k=zvs yd L z (fun z=>k (V.sc (.bool z)) []):=by
 refine (zVG yd L z k).trans ?_
 unfold zvs
 first
  | (simp only [zt7,zFE,zFi]; done)
  | (simp only [zt7]; rfl)
abbrev zt:=∀ (β:Type),Nat→List V→(Bool→Ob β)→Ob β
def yc:zt:=fun β=>@zvs β yd
def zeC(yc:zt)(L:Nat):Dk:=dA AG fun z=>d0 fun β k=>yc β L z (fun z=>k (V.sc (.bool z)) [])
theorem zVB(L:Nat):DK (zeC yc L) (fun _=>zh z9 (y8 yd L) L cf_ref09_Fits):=xv zak fun z=>yK fun _ k=>zVy yd L z k
def zJJ:Hint:=⟨[(0,0),(1,1),(3,0),(3,3),(7,0),(7,9),(8,0),(8,1)],[],[none,some ((bl 9 31),(bl 2147385087 31)),none,some ((bl 9 31),(bl 2147385087 31)),none,none,some ((bl 25 31),(bl 1342177279 31)),none,some ((bl 8 31),(bl 1342177263 31)),none,none],[],[],false,false,[]⟩
def cf_ref03_Pad:CF:=cfD zJJ 150
def zo5:CC:=xz [1,1,1,0,1,0,0] cf_ref03_Pad.body
def zs6:CC:=xz [1,1,0,0,0] cf_ref03_Pad.body
def zHx:CC:=xz [1,1,1,1] cf_ref03_Pad.body
def zxu:CC:=xz [1,1,1] cf_ref03_Pad.body
def zbU:Nat→Sh:=zj []
def zbT(L:Nat):CBC:=noC
def zuK:St→St:=yM 0 (bl 9 31) (bl 2147385087 31)
def zqT:St→St:=yM 0 (bl 25 31) (bl 1342177279 31)
def zjG(z:Int)(A:Ls):St:=⟨((Qd z)::(jn 2 ((V.gs 1 A)::(jn 27 [])))),(gn 31 [])⟩
def zoo(z:Int)(A:Ls):St:=⟨((Qd z)::(jn 2 ((V.gs 1 A)::(jn 27 [])))),(gn 31 [])⟩
def zin(z:Int)(A:Ls)(C:Int):St:=⟨((Qd z)::(jn 2 ((V.gs 1 A)::((Qe C)::(jn 26 []))))),(gn 31 [])⟩
def zva(z:Ls):St:=⟨(jn 3 ((V.gs 1 z)::(jn 27 []))),(gn 31 [])⟩
def zI2{β:Type}(L:Nat)(A:Int)(z:Int→Ls→Ob β):Ob β:=z A (yl 1 1 [(Qa (128:Int))])
theorem zXy{β:Type}(L:Nat)(z:Int)(k:KK β):zh zbU (zbT L) L cf_ref03_Pad [(Qd z)] [] k=zI2 L z (fun z A=>zx (ze zbU (zbT L) 0 L zs6) zuK L (zjG z A) (xi 0 (yv (ze zbU (zbT L) 0 L zxu) (zD 0 (CF.res cf_ref03_Pad) k)))):=by kernel_rfl
def zul{β:Type}(L:Nat)(C:Int)(A:Ls)(z:Int→Ls→Ob β)(D:Int→Ls→Ob β):Ob β:=lt (QG .u64 ((XK A:Nat):Int)) fun E=>lt (QG .u64 ((C:Int)+E)) fun F=>lt (QG .u64 ((F:Int)+(8:Int))) fun G=>lt (Int.tmod G (64:Int)) fun H=>ifb ((H:Int) != (0:Int)) (chk ((XK A+XK (yl 1 1 [(Qa (0:Int))]))*1≤xm∧XK A+XK (yl 1 1 [(Qa (0:Int))])≤xm) (lt (A++(yl 1 1 [(Qa (0:Int))])) fun I=>z C I)) (D C A)
theorem zOP{β:Type}(L:Nat)(z:Int)(A:Ls)(X:St→Ob β)(K:KT β):ze zbU (zbT L) 0 L zs6 (zjG z A) (yH zuK X K)=zul L z A (fun z A=>X (zjG z A)) (fun z A=>K (.exit 0) (zoo z A)):=by kernel_rfl
def zro{β:Type}(L:Nat)(A:Int)(C:Ls)(z:Int→Ls→Int→Ob β):Ob β:=z A C (7:Int)
theorem zLU{β:Type}(L:Nat)(z:Int)(A:Ls)(k:KK β):(xi 0 (yv (ze zbU (zbT L) 0 L zxu) (zD 0 (CF.res cf_ref03_Pad) k))) (.exit 0) (zoo z A)=zro L z A (fun z A C=>zx (ze zbU (zbT L) 0 L zo5) zqT L (zin z A C) (xi 2 (yv (ze zbU (zbT L) 0 L zHx) (zD 0 (CF.res cf_ref03_Pad) k)))):=by kernel_rfl
def zhH{β:Type}(L:Nat)(F:Int)(A:Ls)(C:Int)(z:Int→Ls→Int→Ob β)(D:Ls→Ob β):Ob β:=ifb (decide (C≥(0:Int))) (lt (QG .u64 (((8:Int):Int)*F)) fun I=>lt (QG .i64 (((8:Int):Int)*C)) fun G=>chk (0≤G) (lt (zcM .u64 I G) fun J=>lt (QG .u8 J) fun E=>chk ((XK A+XK (yl 1 1 [(Qa E)]))*1≤xm∧XK A+XK (yl 1 1 [(Qa E)])≤xm) (lt (A++(yl 1 1 [(Qa E)])) fun M=>lt (QG .i64 ((C:Int)-(1:Int))) fun H=>z F M H))) (D A)
theorem zLR{β:Type}(L:Nat)(A:Int)(z:Ls)(C:Int)(X:St→Ob β)(K:KT β):ze zbU (zbT L) 0 L zo5 (zin A z C) (yH zqT X K)=zhH L A z C (fun A z C=>X (zin A z C)) (fun z=>K (.exit 2) (zva z)):=by kernel_rfl
def znV{β:Type}(L:Nat)(A:Ls)(z:Ls→Ob β):Ob β:=z A
theorem zIw{β:Type}(L:Nat)(z:Ls)(k:KK β):(xi 2 (yv (ze zbU (zbT L) 0 L zHx) (zD 0 (CF.res cf_ref03_Pad) k))) (.exit 2) (zva z)=znV L z (fun A=>k (V.gs 1 A) []):=by kernel_rfl
def zjT{β:Type}(L:Nat)(z:Int→Ls→Ob β):Nat→Int→Ls→Ob β
 | 0,_,_=>none
 | n+1,A,C=>zul L A C (fun A C=>zjT L z n A C) z
theorem zzo{β:Type}(L:Nat)(K:KT β):∀ (n:Nat) (z:Int) (A:Ls),zx (ze zbU (zbT L) 0 L zs6) zuK n (zjG z A) K=zjT L (fun z A=>K (.exit 0) (zoo z A)) n z A:=by
 intro n; induction n <;> intros
 ·rfl
 ·exact (zOP ..).trans (by simp only [*]; rfl)
def zfL{β:Type}(L:Nat)(z:Ls→Ob β):Nat→Int→Ls→Int→Ob β
 | 0,_,_,_=>none
 | n+1,A,C,D=>zhH L A C D (fun A C D=>zfL L z n A C D) z
theorem zvn{β:Type}(L:Nat)(K:KT β):∀ (n:Nat) (A:Int) (z:Ls) (C:Int),zx (ze zbU (zbT L) 0 L zo5) zqT n (zin A z C) K=zfL L (fun z=>K (.exit 2) (zva z)) n A z C:=by
 intro n; induction n <;> intros
 ·rfl
 ·exact (zLR ..).trans (by simp only [*]; rfl)
def zjA{β:Type}(L:Nat)(C:Int)(z:Ls)(A:Ls→Ob β):Ob β:=zro L C z (fun C z D=>zfL L (fun z=>znV L z A) L C z D)
theorem zJc{β:Type}(L:Nat)(z:Int)(A:Ls)(k:KK β):(xi 0 (yv (ze zbU (zbT L) 0 L zxu) (zD 0 (CF.res cf_ref03_Pad) k))) (.exit 0) (zoo z A)=zjA L z A (fun z=>k (V.gs 1 z) []):=by
 refine (zLU L z A k).trans ?_
 unfold zjA
 first
  | (simp only [zvn,zIw]; done)
  | (simp only [zvn]; rfl)
def zyj{β:Type}(L:Nat)(z:Int)(A:Ls→Ob β):Ob β:=zI2 L z (fun z C=>zjT L (fun z C=>zjA L z C A) L z C)
theorem zXW{β:Type}(L:Nat)(z:Int)(k:KK β):zh zbU (zbT L) L cf_ref03_Pad [(Qd z)] [] k=zyj L z (fun z=>k (V.gs 1 z) []):=by
 refine (zXy L z k).trans ?_
 unfold zyj
 first
  | (simp only [zzo,zJc]; done)
  | (simp only [zzo]; rfl)
abbrev zaS:=∀ (β:Type),Nat→Int→(Ls→Ob β)→Ob β
def yu:zaS:=fun β=>@zyj β
def zH2(yu:zaS)(L:Nat):Dk:=dA (AI .u64) fun z=>d0 fun β k=>yu β L z (fun z=>k (V.gs 1 z) [])
theorem zXn(L:Nat):DK (zH2 yu L) (fun _=>zh zbU (zbT L) L cf_ref03_Pad):=xv zbN fun z=>yK fun _ k=>zXW L z k
def zyU:Hint:=⟨[],[],[none],[],[],false,false,[]⟩
def zD7:CF:=cfD zyU 151
def ztc:Nat→Sh:=zj []
def zti(L:Nat):CBC:=noC
def zvM{β:Type}(L:Nat)(z:List V→Ob β):Ob β:=lt [(Qc (1779033703:Int)),(Qc (3144134277:Int)),(Qc (1013904242:Int)),(Qc (2773480762:Int)),(Qc (1359893119:Int)),(Qc (2600822924:Int)),(Qc (528734635:Int)),(Qc (1541459225:Int))] fun A=>chk (0=0∧(XK A)=8∧8≠0) (z A)
theorem zPT{β:Type}(L:Nat)(k:KK β):zh ztc (zti L) L zD7 [] [] k=zvM L (fun z=>k (V.agg z) []):=by kernel_rfl
abbrev z8:=∀ (β:Type),Nat→(List V→Ob β)→Ob β
def ym:z8:=fun β=>@zvM β
def zuB(ym:z8)(L:Nat):Dk:=d0 fun β k=>ym β L (fun z=>k (V.agg z) [])
theorem zPz(L:Nat):DK (zuB ym L) (fun _=>zh ztc (zti L) L zD7):=yK fun _ k=>zPT L k
def zlW:Hint:=⟨[],[],[none],[],[],false,false,[]⟩
def zon:CF:=cfD zlW 192
def zik:Nat→Sh:=zj []
def ziv(L:Nat):CBC:=noC
def ziP{β:Type}(L:Nat)(C E:Int)(z:Int→Ob β):Ob β:=lt (QG .u64 E) fun F=>lt (zgv .u64 F (31:Int)) fun A=>chk (0≤A) (lt (zgp .u32 C A) fun G=>lt (QG .u64 (((32:Int):Int)-A)) fun D=>chk (0≤D) (lt (zcM .u32 C D) fun H=>lt (ior .u32 G H) fun I=>z I))
theorem zy0{β:Type}(L:Nat)(z A:Int)(k:KK β):zh zik (ziv L) L zon [(Qc z),(Qe A)] [] k=ziP L z A (fun z=>k (Qc z) []):=by kernel_rfl
abbrev zbj:=∀ (β:Type),Nat→Int→Int→(Int→Ob β)→Ob β
def xx:zbj:=fun β=>@ziP β
def zfF(xx:zbj)(L:Nat):Dk:=dA (AI .u32) fun z=>dA (AI .i64) fun A=>d0 fun β k=>xx β L z A (fun z=>k (Qc z) [])
theorem zzp(L:Nat):DK (zfF xx L) (fun _=>zh zik (ziv L) L zon):=xv zbN fun z=>xv zbN fun A=>yK fun _ k=>zy0 L z A k
def zGv:Hint:=⟨[],[],[none],[],[],false,false,[]⟩
def zNz:CF:=cfD zGv 178
def zzR:Nat→Sh:=zj []
def zAa(xx:zbj)(L:Nat):CBC:=(xe 572 (zfF xx L) noC)
def zDY{β:Type}(xx:zbj)(L:Nat)(A C:Int)(z:Int→Ob β):Ob β:=lt (QG .i64 (0-C)) fun D=>xx β L A D (fun E=>z E)
theorem zUv{β:Type}(xx:zbj)(L:Nat)(z A:Int)(k:KK β):zh zzR (zAa xx L) L zNz [(Qc z),(Qe A)] [] k=zDY xx L z A (fun z=>k (Qc z) []):=by kernel_rfl
abbrev yT:=∀ (β:Type),Nat→Int→Int→(Int→Ob β)→Ob β
def yh:yT:=fun β=>@zDY β xx
def zwc(yh:yT)(L:Nat):Dk:=dA (AI .u32) fun z=>dA (AI .i64) fun A=>d0 fun β k=>yh β L z A (fun z=>k (Qc z) [])
theorem zWg(L:Nat):DK (zwc yh L) (fun _=>zh zzR (zAa xx L) L zNz):=xv zbN fun z=>xv zbN fun A=>yK fun _ k=>zUv xx L z A k
def zwM:Hint:=⟨[],[],[none,some ((bl 30 97),(bl 158456325028528675187087900671 97)),none,some ((bl 12 97),(bl 158456325028528675187087900653 97)),none,none,some ((bl 44 97),(bl 158456315288573494874593034045 97)),none,some ((bl 12 97),(bl 158456315288573494874593034013 97)),none,none],[],[],false,false,[]⟩
def cf_ref03_schedule:CF:=cfD zwM 176
def zjr:CC:=xz [1,1,1,0,1,0,0] cf_ref03_schedule.body
def zkr:CC:=xz [1,1,0,1,0,0] cf_ref03_schedule.body
def zuc:CC:=xz [1,1,1,1] cf_ref03_schedule.body
def znv:CC:=xz [1,1,1] cf_ref03_schedule.body
def zay:Nat→Sh:=zj [(16,(.int .u8)),(23,(.int .u8)),(31,(.int .u8)),(39,(.int .u8)),(50,(.int .u32)),(55,(.int .u32)),(61,(.int .u32)),(67,(.int .u32)),(72,(.int .u32)),(78,(.int .u32)),(85,(.int .u32)),(91,(.int .u32))]
def zax(yh:yT)(L:Nat):CBC:=(xe 571 (zwc yh L) noC)
def zlK:St→St:=yM 0 (bl 30 97) (bl 158456325028528675187087900671 97)
def zkj:St→St:=yM 0 (bl 44 97) (bl 158456315288573494874593034045 97)
def zfD(z:Int)(A C D:List V):St:=⟨(jn 1 ((V.ptr 1 0)::((V.ptr 2 0)::((V.ptr 3 0)::((Qe z)::(jn 92 [])))))),(gn 1 ((.live true A)::((.live true C)::((.live true D)::(gn 93 [])))))⟩
def zh7(z A:List V):St:=⟨(jn 2 ((V.ptr 2 0)::((V.ptr 3 0)::(jn 93 [])))),(gn 2 ((.live true z)::((.live true A)::(gn 93 []))))⟩
def ze2(z:Int)(A C:List V):St:=⟨(jn 2 ((V.ptr 2 0)::((V.ptr 3 0)::(jn 1 ((Qe z)::(jn 91 [])))))),(gn 2 ((.live true A)::((.live true C)::(gn 93 []))))⟩
def zmH(z A:List V):St:=⟨(jn 2 ((V.ptr 2 0)::((V.ptr 3 0)::(jn 93 [])))),(gn 2 ((.live true z)::((.live true A)::(gn 93 []))))⟩
def zs8{β:Type}(yh:yT)(L:Nat)(A:List V)(z:Int→List V→List V→List V→Ob β):Ob β:=z (0:Int) A (We 64 (Qc (0:Int))) (We 64 (Qc (0:Int)))
theorem zOb{β:Type}(yh:yT)(L:Nat)(z:List V)(k:KK β):zh zay (zax yh L) L cf_ref03_schedule [(V.agg z)] [] k=zs8 yh L z (fun A C D E=>zx (ze zay (zax yh L) 0 L zkr) zlK L (zfD A C D E) (xi 0 (yv (ze zay (zax yh L) 0 L znv) (zD 0 (CF.res cf_ref03_schedule) k)))):=by kernel_rfl
def zeU{β:Type}(yh:yT)(L:Nat)(z:Int)(C J F:List V)(A:Int→List V→List V→List V→Ob β)(G:List V→List V→Ob β):Ob β:=ifb (decide (z<(16:Int))) (lt (QG .i64 (((4:Int):Int)*z)) fun H=>chk (0≤H∧H<((64:Nat):Int)) (cI .u8 C (0+((XM H)*1)) fun Y=>lt (QG .u32 Y) fun Z=>lt (zgp .u32 Z (24:Int)) fun x3=>lt (QG .i64 (((4:Int):Int)*z)) fun x4=>lt (QG .i64 ((x4:Int)+(1:Int))) fun I=>chk (0≤I∧I<((64:Nat):Int)) (cI .u8 C (0+((XM I)*1)) fun v6=>lt (QG .u32 v6) fun x7=>lt (zgp .u32 x7 (16:Int)) fun x8=>lt (ior .u32 x3 x8) fun x9=>lt (QG .i64 (((4:Int):Int)*z)) fun M=>lt (QG .i64 ((M:Int)+(2:Int))) fun D=>chk (0≤D∧D<((64:Nat):Int)) (cI .u8 C (0+((XM D)*1)) fun N=>lt (QG .u32 N) fun O=>lt (zgp .u32 O (8:Int)) fun P=>lt (ior .u32 x9 P) fun Q=>lt (QG .i64 (((4:Int):Int)*z)) fun R=>lt (QG .i64 ((R:Int)+(3:Int))) fun E=>chk (0≤E∧E<((64:Nat):Int)) (cI .u8 C (0+((XM E)*1)) fun S=>lt (QG .u32 S) fun T=>lt (ior .u32 Q T) fun U=>chk (0≤z∧z<((64:Nat):Int)) (chk (1=1∧(0+((XM z)*1))+1≤(XK F)) (lt (zk F (0+((XM z)*1)) [(Qc U)]) fun W=>lt (QG .i64 ((z:Int)+(1:Int))) fun X=>A X C J W))))))) (G J F)
theorem zDe{β:Type}(yh:yT)(L:Nat)(C:Int)(D z A:List V)(X:St→Ob β)(K:KT β):ze zay (zax yh L) 0 L zkr (zfD C D z A) (yH zlK X K)=zeU yh L C D z A (fun C D z A=>X (zfD C D z A)) (fun z A=>K (.exit 0) (zh7 z A)):=by kernel_rfl
def zjt{β:Type}(yh:yT)(L:Nat)(A C:List V)(z:Int→List V→List V→Ob β):Ob β:=z (16:Int) A C
theorem zAS{β:Type}(yh:yT)(L:Nat)(z A:List V)(k:KK β):(xi 0 (yv (ze zay (zax yh L) 0 L znv) (zD 0 (CF.res cf_ref03_schedule) k))) (.exit 0) (zh7 z A)=zjt yh L z A (fun C z A=>zx (ze zay (zax yh L) 0 L zjr) zkj L (ze2 C z A) (xi 2 (yv (ze zay (zax yh L) 0 L zuc) (zD 0 (CF.res cf_ref03_schedule) k)))):=by kernel_rfl
def zeA{β:Type}(yh:yT)(L:Nat)(z:Int)(O A:List V)(C:Int→List V→List V→Ob β)(N:List V→List V→Ob β):Ob β:=ifb (decide (z<(64:Int))) (lt (QG .i64 ((z:Int)-(15:Int))) fun D=>chk (0≤D∧D<((64:Nat):Int)) (cI .u32 A (0+((XM D)*1)) fun P=>yh β L P (7:Int) (fun Q=>lt (QG .i64 ((z:Int)-(15:Int))) fun E=>chk (0≤E∧E<((64:Nat):Int)) (cI .u32 A (0+((XM E)*1)) fun R=>yh β L R (18:Int) (fun S=>lt (zdH .u32 Q S) fun T=>lt (QG .i64 ((z:Int)-(15:Int))) fun F=>chk (0≤F∧F<((64:Nat):Int)) (cI .u32 A (0+((XM F)*1)) fun U=>lt (zcM .u32 U (3:Int)) fun W=>lt (zdH .u32 T W) fun X=>lt (QG .i64 ((z:Int)-(2:Int))) fun G=>chk (0≤G∧G<((64:Nat):Int)) (cI .u32 A (0+((XM G)*1)) fun Y=>yh β L Y (17:Int) (fun Z=>lt (QG .i64 ((z:Int)-(2:Int))) fun H=>chk (0≤H∧H<((64:Nat):Int)) (cI .u32 A (0+((XM H)*1)) fun aa=>yh β L aa (19:Int) (fun ab=>lt (zdH .u32 Z ab) fun ac=>lt (QG .i64 ((z:Int)-(2:Int))) fun I=>chk (0≤I∧I<((64:Nat):Int)) (cI .u32 A (0+((XM I)*1)) fun ad=>lt (zcM .u32 ad (10:Int)) fun ae=>lt (zdH .u32 ac ae) fun af=>lt (QG .i64 ((z:Int)-(16:Int))) fun J=>chk (0≤J∧J<((64:Nat):Int)) (cI .u32 A (0+((XM J)*1)) fun ag=>lt (QG .u32 ((ag:Int)+X)) fun ah=>lt (QG .i64 ((z:Int)-(7:Int))) fun M=>chk (0≤M∧M<((64:Nat):Int)) (cI .u32 A (0+((XM M)*1)) fun ai=>lt (QG .u32 ((ah:Int)+ai)) fun aj=>lt (QG .u32 ((aj:Int)+af)) fun ak=>chk (0≤z∧z<((64:Nat):Int)) (chk (1=1∧(0+((XM z)*1))+1≤(XK A)) (lt (zk A (0+((XM z)*1)) [(Qc ak)]) fun al=>lt (QG .i64 ((z:Int)+(1:Int))) fun am=>C am O al))))))))))))))) (N O A)
theorem zCq{β:Type}(yh:yT)(L:Nat)(C:Int)(z A:List V)(X:St→Ob β)(K:KT β):ze zay (zax yh L) 0 L zjr (ze2 C z A) (yH zkj X K)=zeA yh L C z A (fun C z A=>X (ze2 C z A)) (fun z A=>K (.exit 2) (zmH z A)):=by kernel_rfl
def ziS{β:Type}(yh:yT)(L:Nat)(D C:List V)(z:List V→Ob β):Ob β:=chk (0+64≤(XK C)) (chk ((XK (XL 64 C))=64∧0+64≤(XK D)) (lt (zk D 0 (XL 64 C)) fun A=>chk (0=0∧(XK A)=64∧64≠0) (z A)))
theorem zzC{β:Type}(yh:yT)(L:Nat)(z A:List V)(k:KK β):(xi 2 (yv (ze zay (zax yh L) 0 L zuc) (zD 0 (CF.res cf_ref03_schedule) k))) (.exit 2) (zmH z A)=ziS yh L z A (fun C=>k (V.agg C) []):=by kernel_rfl
def zdr{β:Type}(yh:yT)(L:Nat)(z:List V→List V→Ob β):Nat→Int→List V→List V→List V→Ob β
 | 0,_,_,_,_=>none
 | n+1,A,C,D,E=>zeU yh L A C D E (fun A C D E=>zdr yh L z n A C D E) z
theorem zo3{β:Type}(yh:yT)(L:Nat)(K:KT β):∀ (n:Nat) (C:Int) (D z A:List V),zx (ze zay (zax yh L) 0 L zkr) zlK n (zfD C D z A) K=zdr yh L (fun z A=>K (.exit 0) (zh7 z A)) n C D z A:=by
 intro n; induction n <;> intros
 ·rfl
 ·exact (zDe ..).trans (by simp only [*]; rfl)
def zcY{β:Type}(yh:yT)(L:Nat)(z:List V→List V→Ob β):Nat→Int→List V→List V→Ob β
 | 0,_,_,_=>none
 | n+1,A,C,D=>zeA yh L A C D (fun A C D=>zcY yh L z n A C D) z
theorem zn7{β:Type}(yh:yT)(L:Nat)(K:KT β):∀ (n:Nat) (C:Int) (z A:List V),zx (ze zay (zax yh L) 0 L zjr) zkj n (ze2 C z A) K=zcY yh L (fun z A=>K (.exit 2) (zmH z A)) n C z A:=by
 intro n; induction n <;> intros
 ·rfl
 ·exact (zCq ..).trans (by simp only [*]; rfl)
def zfJ{β:Type}(yh:yT)(L:Nat)(z A:List V)(C:List V→Ob β):Ob β:=zjt yh L z A (fun D z A=>zcY yh L (fun z A=>ziS yh L z A C) L D z A)
theorem zy3{β:Type}(yh:yT)(L:Nat)(z A:List V)(k:KK β):(xi 0 (yv (ze zay (zax yh L) 0 L znv) (zD 0 (CF.res cf_ref03_schedule) k))) (.exit 0) (zh7 z A)=zfJ yh L z A (fun C=>k (V.agg C) []):=by
 refine (zAS yh L z A k).trans ?_
 unfold zfJ
 first
  | (simp only [zn7,zzC]; done)
  | (simp only [zn7]; rfl)
def zmv{β:Type}(yh:yT)(L:Nat)(D:List V)(z:List V→Ob β):Ob β:=zs8 yh L D (fun E F A C=>zdr yh L (fun A C=>zfJ yh L A C z) L E F A C)
theorem zN3{β:Type}(yh:yT)(L:Nat)(z:List V)(k:KK β):zh zay (zax yh L) L cf_ref03_schedule [(V.agg z)] [] k=zmv yh L z (fun z=>k (V.agg z) []):=by
 refine (zOb yh L z k).trans ?_
 unfold zmv
 first
  | (simp only [zo3,zy3]; done)
  | (simp only [zo3]; rfl)
abbrev za8:=∀ (β:Type),Nat→List V→(List V→Ob β)→Ob β
def xw:za8:=fun β=>@zmv β yh
def zsM(xw:za8)(L:Nat):Dk:=dA AG fun z=>d0 fun β k=>xw β L z (fun z=>k (V.agg z) [])
theorem zOo(L:Nat):DK (zsM xw L) (fun _=>zh zay (zax yh L) L cf_ref03_schedule):=xv zak fun z=>yK fun _ k=>zN3 yh L z k
def zvp:Hint:=⟨[],[],[none],[],[],false,false,[]⟩
def zy7:CF:=cfD zvp 177
def zoR:Nat→Sh:=zj []
def zpS(L:Nat):CBC:=noC
def zrp{β:Type}(L:Nat)(z:List V→Ob β):Ob β:=lt [(Qc (1116352408:Int)),(Qc (1899447441:Int)),(Qc (3049323471:Int)),(Qc (3921009573:Int)),(Qc (961987163:Int)),(Qc (1508970993:Int)),(Qc (2453635748:Int)),(Qc (2870763221:Int)),(Qc (3624381080:Int)),(Qc (310598401:Int)),(Qc (607225278:Int)),(Qc (1426881987:Int)),(Qc (1925078388:Int)),(Qc (2162078206:Int)),(Qc (2614888103:Int)),(Qc (3248222580:Int)),(Qc (3835390401:Int)),(Qc (4022224774:Int)),(Qc (264347078:Int)),(Qc (604807628:Int)),(Qc (770255983:Int)),(Qc (1249150122:Int)),(Qc (1555081692:Int)),(Qc (1996064986:Int)),(Qc (2554220882:Int)),(Qc (2821834349:Int)),(Qc (2952996808:Int)),(Qc (3210313671:Int)),(Qc (3336571891:Int)),(Qc (3584528711:Int)),(Qc (113926993:Int)),(Qc (338241895:Int)),(Qc (666307205:Int)),(Qc (773529912:Int)),(Qc (1294757372:Int)),(Qc (1396182291:Int)),(Qc (1695183700:Int)),(Qc (1986661051:Int)),(Qc (2177026350:Int)),(Qc (2456956037:Int)),(Qc (2730485921:Int)),(Qc (2820302411:Int)),(Qc (3259730800:Int)),(Qc (3345764771:Int)),(Qc (3516065817:Int)),(Qc (3600352804:Int)),(Qc (4094571909:Int)),(Qc (275423344:Int)),(Qc (430227734:Int)),(Qc (506948616:Int)),(Qc (659060556:Int)),(Qc (883997877:Int)),(Qc (958139571:Int)),(Qc (1322822218:Int)),(Qc (1537002063:Int)),(Qc (1747873779:Int)),(Qc (1955562222:Int)),(Qc (2024104815:Int)),(Qc (2227730452:Int)),(Qc (2361852424:Int)),(Qc (2428436474:Int)),(Qc (2756734187:Int)),(Qc (3204031479:Int)),(Qc (3329325298:Int))] fun A=>chk (0=0∧(XK A)=64∧64≠0) (z A)
theorem zMM{β:Type}(L:Nat)(k:KK β):zh zoR (zpS L) L zy7 [] [] k=zrp L (fun z=>k (V.agg z) []):=by kernel_rfl
abbrev zaX:=∀ (β:Type),Nat→(List V→Ob β)→Ob β
def xu:zaX:=fun β=>@zrp β
def zqN(xu:zaX)(L:Nat):Dk:=d0 fun β k=>xu β L (fun z=>k (V.agg z) [])
theorem zMa(L:Nat):DK (zqN xu L) (fun _=>zh zoR (zpS L) L zy7):=yK fun _ k=>zMM L k
def zwG:Hint:=⟨[],[],[none,some ((bl 65524 133),(bl 10889035741470030808987042129089031634935 133)),none,some ((bl 32660 133),(bl 10889035741470030808987042129089031602071 133)),none,none],[],[],false,false,[]⟩
def cf_ref03_Compress:CF:=cfD zwG 152
def zjl:CC:=xz [1,1,1,0,1,0,0] cf_ref03_Compress.body
def zwl:CC:=xz [1,1,1,1] cf_ref03_Compress.body
def zcm:Nat→Sh:=zj [(22,(.int .u32)),(24,(.int .u32)),(26,(.int .u32)),(28,(.int .u32)),(30,(.int .u32)),(32,(.int .u32)),(34,(.int .u32)),(36,(.int .u32)),(62,(.int .u32)),(66,(.int .u32)),(101,(.int .u32)),(105,(.int .u32)),(109,(.int .u32)),(113,(.int .u32)),(117,(.int .u32)),(121,(.int .u32)),(125,(.int .u32)),(129,(.int .u32))]
def zcl(xw:za8)(xu:zaX)(yh:yT)(L:Nat):CBC:=(xe 571 (zwc yh L) (xe 570 (zqN xu L) (xe 569 (zsM xw L) noC)))
def zkC:St→St:=yM 0 (bl 65524 133) (bl 10889035741470030808987042129089031634935 133)
def ze4(Q R S I J M N O P:Int)(T:List V)(z A C D E F G H:Int)(U W:List V):St:=⟨(jn 2 ((V.ptr 2 0)::(jn 1 ((V.ptr 4 0)::((V.ptr 5 0)::((V.ptr 6 0)::((Qc Q)::((Qc R)::((Qc S)::((Qc I)::((Qc J)::((Qc M)::((Qc N)::((Qc O)::((Qe P)::(jn 117 [])))))))))))))))),(gn 2 ((.live true T)::(gn 1 ((.live true [(Qc z),(Qc A),(Qc C),(Qc D),(Qc E),(Qc F),(Qc G),(Qc H)])::((.live true U)::((.live true W)::(gn 126 [])))))))⟩
def zmn(P Q R I J M N O:Int)(S:List V)(z A C D E F G H:Int):St:=⟨(jn 2 ((V.ptr 2 0)::(jn 1 ((V.ptr 4 0)::(jn 2 ((Qc P)::((Qc Q)::((Qc R)::((Qc I)::((Qc J)::((Qc M)::((Qc N)::((Qc O)::(jn 118 [])))))))))))))),(gn 2 ((.live true S)::(gn 1 ((.live true [(Qc z),(Qc A),(Qc C),(Qc D),(Qc E),(Qc F),(Qc G),(Qc H)])::(gn 128 [])))))⟩
abbrev zju(β:Type):Type:=Int→Int→Int→Int→Int→Int→Int→Int→Int→List V→Int→Int→Int→Int→Int→Int→Int→Int→List V→List V→Ob β
abbrev zj5(β:Type):Type:=Int→Int→Int→Int→Int→Int→Int→Int→List V→Int→Int→Int→Int→Int→Int→Int→Int→Ob β
def zs3{β:Type}(xw:za8)(xu:zaX)(yh:yT)(L:Nat)(z C:List V)(A:zju β):Ob β:=chk (0+64≤(XK C)) (xw β L (XL 64 C) (fun D=>xu β L  (fun E=>chk ((XK D)=64∧0+64≤64) (lt (zk (We 64 (Qc (0:Int))) 0 D) fun H=>chk ((XK E)=64∧0+64≤64) (lt (zk (We 64 (Qc (0:Int))) 0 E) fun I=>cI .u32 z 0 fun J=>cI .u32 z 1 fun M=>cI .u32 z 2 fun N=>cI .u32 z 3 fun O=>cI .u32 z 4 fun P=>cI .u32 z 5 fun Q=>cI .u32 z 6 fun F=>cI .u32 z 7 fun G=>A J M N O P Q F G (0:Int) z (0:Int) (0:Int) (0:Int) (0:Int) (0:Int) (0:Int) (0:Int) (0:Int) H I)))))
theorem zOp{β:Type}(xw:za8)(xu:zaX)(yh:yT)(L:Nat)(I J:List V)(k:KK β):zh zcm (zcl xw xu yh L) L cf_ref03_Compress [(V.agg I),(V.agg J)] [] k=zs3 xw xu yh L I J (fun S T U M N O P Q R W z A C D E F G H X Y=>zx (ze zcm (zcl xw xu yh L) 0 L zjl) zkC L (ze4 S T U M N O P Q R W z A C D E F G H X Y) (xi 0 (yv (ze zcm (zcl xw xu yh L) 0 L zwl) (zD 0 (CF.res cf_ref03_Compress) k)))):=by kernel_rfl
def zeu{β:Type}(xw:za8)(xu:zaX)(yh:yT)(L:Nat)(D Q R S A E F T z:Int)(X:List V)(G H I J M N O P:Int)(Y Z:List V)(C:zju β)(W:zj5 β):Ob β:=ifb (decide (z<(64:Int))) (yh β L A (6:Int) (fun aa=>yh β L A (11:Int) (fun ab=>lt (zdH .u32 aa ab) fun ac=>yh β L A (25:Int) (fun ad=>lt (zdH .u32 ac ad) fun ae=>lt (QG .u32 ((T:Int)+ae)) fun af=>lt (zgv .u32 A E) fun ag=>lt (z1v .u32 A) fun ah=>lt (zgv .u32 ah F) fun ai=>lt (zdH .u32 ag ai) fun aj=>lt (QG .u32 ((af:Int)+aj)) fun ak=>chk (0≤z∧z<((64:Nat):Int)) (cI .u32 Z (0+((XM z)*1)) fun al=>lt (QG .u32 ((ak:Int)+al)) fun am=>chk (0≤z∧z<((64:Nat):Int)) (cI .u32 Y (0+((XM z)*1)) fun an=>lt (QG .u32 ((am:Int)+an)) fun U=>yh β L D (2:Int) (fun ao=>yh β L D (13:Int) (fun ap=>lt (zdH .u32 ao ap) fun aq=>yh β L D (22:Int) (fun ar=>lt (zdH .u32 aq ar) fun au=>lt (zgv .u32 D Q) fun av=>lt (zgv .u32 D R) fun aw=>lt (zdH .u32 av aw) fun ax=>lt (zgv .u32 Q R) fun ay=>lt (zdH .u32 ax ay) fun az=>lt (QG .u32 ((au:Int)+az)) fun aC=>lt (QG .u32 ((S:Int)+U)) fun aD=>lt (QG .u32 ((U:Int)+aC)) fun aE=>lt (QG .i64 ((z:Int)+(1:Int))) fun aH=>C aE D Q R aD A E F aH X G H I J M N O P Y Z))))))))) (W D Q R S A E F T X G H I J M N O P)
theorem zCd{β:Type}(xw:za8)(xu:zaX)(yh:yT)(L:Nat)(Q R S I J M N O P:Int)(T:List V)(z A C D E F G H:Int)(U W:List V)(X:St→Ob β)(K:KT β):ze zcm (zcl xw xu yh L) 0 L zjl (ze4 Q R S I J M N O P T z A C D E F G H U W) (yH zkC X K)=zeu xw xu yh L Q R S I J M N O P T z A C D E F G H U W (fun Q R S I J M N O P T z A C D E F G H U W=>X (ze4 Q R S I J M N O P T z A C D E F G H U W)) (fun Q R S I J M N O T z A C D E F G H=>K (.exit 0) (zmn Q R S I J M N O T z A C D E F G H)):=by kernel_rfl
def zfE{β:Type}(xw:za8)(xu:zaX)(yh:yT)(L:Nat)(p7 p8 p9 D E F G H:Int)(z:List V)(ae af ag ah ai aj ak al:Int)(A:List V→Ob β):Ob β:=cI .u32 z 0 fun I=>lt (QG .u32 ((I:Int)+p7)) fun J=>cI .u32 z 1 fun M=>lt (QG .u32 ((M:Int)+p8)) fun N=>cI .u32 z 2 fun O=>lt (QG .u32 ((O:Int)+p9)) fun P=>cI .u32 z 3 fun Q=>lt (QG .u32 ((Q:Int)+D)) fun R=>cI .u32 z 4 fun S=>lt (QG .u32 ((S:Int)+E)) fun T=>cI .u32 z 5 fun U=>lt (QG .u32 ((U:Int)+F)) fun W=>cI .u32 z 6 fun X=>lt (QG .u32 ((X:Int)+G)) fun Y=>cI .u32 z 7 fun Z=>lt (QG .u32 ((Z:Int)+H)) fun aa=>lt [(Qc J),(Qc N),(Qc P),(Qc R),(Qc T),(Qc W),(Qc Y),(Qc aa)] fun C=>chk (0=0∧(XK C)=8∧8≠0) (A C)
theorem zyN{β:Type}(xw:za8)(xu:zaX)(yh:yT)(L:Nat)(P Q R I J M N O:Int)(S:List V)(z A C D E F G H:Int)(k:KK β):(xi 0 (yv (ze zcm (zcl xw xu yh L) 0 L zwl) (zD 0 (CF.res cf_ref03_Compress) k))) (.exit 0) (zmn P Q R I J M N O S z A C D E F G H)=zfE xw xu yh L P Q R I J M N O S z A C D E F G H (fun T=>k (V.agg T) []):=by kernel_rfl
def zcX{β:Type}(xw:za8)(xu:zaX)(yh:yT)(L:Nat)(I:zj5 β):Nat→Int→Int→Int→Int→Int→Int→Int→Int→Int→List V→Int→Int→Int→Int→Int→Int→Int→Int→List V→List V→Ob β
 | 0,_,_,_,_,_,_,_,_,_,_,_,_,_,_,_,_,_,_,_,_=>none
 | n+1,R,S,T,J,M,N,O,P,Q,U,z,A,C,D,E,F,G,H,W,X=>zeu xw xu yh L R S T J M N O P Q U z A C D E F G H W X (fun R S T J M N O P Q U z A C D E F G H W X=>zcX xw xu yh L I n R S T J M N O P Q U z A C D E F G H W X) I
theorem zod{β:Type}(xw:za8)(xu:zaX)(yh:yT)(L:Nat)(K:KT β):∀ (n:Nat) (P Q R I J M N O T:Int) (S:List V) (z A C D E F G H:Int) (U W:List V),zx (ze zcm (zcl xw xu yh L) 0 L zjl) zkC n (ze4 P Q R I J M N O T S z A C D E F G H U W) K=zcX xw xu yh L (fun P Q R I J M N O S z A C D E F G H=>K (.exit 0) (zmn P Q R I J M N O S z A C D E F G H)) n P Q R I J M N O T S z A C D E F G H U W:=by
 intro n; induction n <;> intros
 ·rfl
 ·exact (zCd ..).trans (by simp only [*]; rfl)
def zmT{β:Type}(xw:za8)(xu:zaX)(yh:yT)(L:Nat)(W X:List V)(P:List V→Ob β):Ob β:=zs3 xw xu yh L W X (fun Q R S I J M N O U T z A C D E F G H Y Z=>zcX xw xu yh L (fun Q R S I J M N O T z A C D E F G H=>zfE xw xu yh L Q R S I J M N O T z A C D E F G H P) L Q R S I J M N O U T z A C D E F G H Y Z)
theorem zN8{β:Type}(xw:za8)(xu:zaX)(yh:yT)(L:Nat)(z A:List V)(k:KK β):zh zcm (zcl xw xu yh L) L cf_ref03_Compress [(V.agg z),(V.agg A)] [] k=zmT xw xu yh L z A (fun z=>k (V.agg z) []):=by
 refine (zOp xw xu yh L z A k).trans ?_
 unfold zmT
 first
  | (simp only [zod,zyN]; done)
  | (simp only [zod]; rfl)
abbrev xY:=∀ (β:Type),Nat→List V→List V→(List V→Ob β)→Ob β
def zl:xY:=fun β=>@zmT β xw xu yh
def zs7(zl:xY)(L:Nat):Dk:=dA AG fun z=>dA AG fun A=>d0 fun β k=>zl β L z A (fun z=>k (V.agg z) [])
theorem zOn(L:Nat):DK (zs7 zl L) (fun _=>zh zcm (zcl xw xu yh L) L cf_ref03_Compress):=xv zak fun z=>xv zak fun A=>yK fun _ k=>zN8 xw xu yh L z A k
def zKs:Hint:=⟨[(1,7)],[],[none,some ((bl 60 66),(bl 73786976290004270911 66)),none,some ((bl 20 66),(bl 73786976290004270879 66)),none,none,some ((bl 25769803908 66),(bl 73786976294838205615 66)),none,some ((bl 132 66),(bl 73786976294838205615 66)),none,none],[],[],false,false,[]⟩
def cf_ref03_Sum:CF:=cfD zKs 94
def zmN:CC:=xz [1,1,1,1,1,0,1,0,0] cf_ref03_Sum.body
def zpL:CC:=xz [1,1,1,0,1,0,0] cf_ref03_Sum.body
def zBP:CC:=xz [1,1,1,1,1,1] cf_ref03_Sum.body
def zvd:CC:=xz [1,1,1,1] cf_ref03_Sum.body
def zbS:Nat→Sh:=zj [(37,(.int .u32))]
def zbP(yu:zaS)(ym:z8)(zl:xY)(L:Nat):CBC:=(xe 533 (zs7 zl L) (xe 532 (zuB ym L) (xe 531 (zH2 yu L) noC)))
def zrn:St→St:=yM 0 (bl 60 66) (bl 73786976290004270911 66)
def zni:St→St:=yM 0 (bl 25769803908 66) (bl 73786976294838205615 66)
def zic(z:Ls)(A:Int)(C D:List V):St:=⟨(jn 2 ((V.ptr 2 0)::((V.gs 1 z)::((V.ptr 4 0)::((Qe A)::(jn 60 [])))))),(gn 2 ((.live true C)::(gn 1 ((.live true D)::(gn 61 [])))))⟩
def zog(z A:List V):St:=⟨(jn 2 ((V.ptr 2 0)::(jn 1 ((V.ptr 4 0)::(jn 61 []))))),(gn 2 ((.live true z)::(gn 1 ((.live true A)::(gn 61 [])))))⟩
def zgH(z:List V)(A:Int)(C D:List V):St:=⟨(jn 2 ((V.ptr 2 0)::(jn 4 ((V.ptr 7 0)::(jn 25 ((V.agg z)::((Qe A)::(jn 31 [])))))))),(gn 2 ((.live true C)::(gn 4 ((.live true D)::(gn 58 [])))))⟩
def zux(z A:List V):St:=⟨(jn 2 ((V.ptr 2 0)::(jn 4 ((V.ptr 7 0)::(jn 58 []))))),(gn 2 ((.live true z)::(gn 4 ((.live true A)::(gn 58 [])))))⟩
def zIm{β:Type}(yu:zaS)(ym:z8)(zl:xY)(L:Nat)(A:Ls)(z:Ls→Int→List V→List V→Ob β):Ob β:=chk ((XK ([]:Ls)+XK A)*1≤xm∧XK ([]:Ls)+XK A≤xm) (lt (([]:Ls)++A) fun C=>lt (QG .u64 ((XK A:Nat):Int)) fun F=>yu β L F (fun D=>chk ((XK C+XK D)*1≤xm∧XK C+XK D≤xm) (lt (C++D) fun G=>ym β L  (fun E=>chk ((XK E)=8∧0+8≤8) (lt (zk [(Qc (0:Int)),(Qc (0:Int)),(Qc (0:Int)),(Qc (0:Int)),(Qc (0:Int)),(Qc (0:Int)),(Qc (0:Int)),(Qc (0:Int))] 0 E) fun H=>z G (0:Int) (We 32 (Qa (0:Int))) H)))))
theorem zXe{β:Type}(yu:zaS)(ym:z8)(zl:xY)(L:Nat)(z:Ls)(k:KK β):zh zbS (zbP yu ym zl L) L cf_ref03_Sum [(V.sl 1 z)] [] k=zIm yu ym zl L z (fun A C D E=>zx (ze zbS (zbP yu ym zl L) 0 L zpL) zrn L (zic A C D E) (xi 0 (yv (ze zbS (zbP yu ym zl L) 0 L zvd) (zD 0 (CF.res cf_ref03_Sum) k)))):=by kernel_rfl
def zhE{β:Type}(yu:zaS)(ym:z8)(zl:xY)(L:Nat)(C:Ls)(z:Int)(F D:List V)(A:Ls→Int→List V→List V→Ob β)(E:List V→List V→Ob β):Ob β:=lt (QG .i64 ((z:Int)+(64:Int))) fun J=>ifb (decide (J≤((XK C:Nat):Int))) (chk (0≤z∧z≤(((XK C):Nat):Int)) (lt (zk (We 64 (Qa (0:Int))) 0 (XN (XL (min (XK (XL ((XK C)-(XM z)) (List.drop (XM z) C))) 64) (XL ((XK C)-(XM z)) (List.drop (XM z) C))))) fun G=>chk (0+8≤(XK D)) (chk (0+64≤(XK G)) (zl β L (XL 8 D) (XL 64 G) (fun H=>chk ((XK H)=8∧0+8≤(XK D)) (lt (zk D 0 H) fun M=>lt (QG .i64 ((z:Int)+(64:Int))) fun I=>A C I F M)))))) (E F D)
theorem zL8{β:Type}(yu:zaS)(ym:z8)(zl:xY)(L:Nat)(C:Ls)(D:Int)(z A:List V)(X:St→Ob β)(K:KT β):ze zbS (zbP yu ym zl L) 0 L zpL (zic C D z A) (yH zrn X K)=zhE yu ym zl L C D z A (fun C D z A=>X (zic C D z A)) (fun z A=>K (.exit 0) (zog z A)):=by kernel_rfl
def znG{β:Type}(yu:zaS)(ym:z8)(zl:xY)(L:Nat)(C A:List V)(z:List V→Int→List V→List V→Ob β):Ob β:=chk (0+8≤(XK A)) (z (XL 8 A) (0:Int) C (We 32 (Qa (0:Int))))
theorem zID{β:Type}(yu:zaS)(ym:z8)(zl:xY)(L:Nat)(z A:List V)(k:KK β):(xi 0 (yv (ze zbS (zbP yu ym zl L) 0 L zvd) (zD 0 (CF.res cf_ref03_Sum) k))) (.exit 0) (zog z A)=znG yu ym zl L z A (fun C D z E=>zx (ze zbS (zbP yu ym zl L) 0 L zmN) zni L (zgH C D z E) (xi 2 (yv (ze zbS (zbP yu ym zl L) 0 L zBP) (zD 0 (CF.res cf_ref03_Sum) k)))):=by kernel_rfl
def zga{β:Type}(yu:zaS)(ym:z8)(zl:xY)(L:Nat)(H:List V)(z:Int)(P N:List V)(A:List V→Int→List V→List V→Ob β)(O:List V→List V→Ob β):Ob β:=ifb (decide (z<(8:Int))) (chk (0≤z∧z<((8:Nat):Int)) (cI .u32 H ((XM z)*1) fun C=>lt (QG .i64 (((4:Int):Int)*z)) fun D=>lt (QG .i64 (((4:Int):Int)*z)) fun Q=>lt (QG .i64 ((Q:Int)+(1:Int))) fun E=>lt (QG .i64 (((4:Int):Int)*z)) fun R=>lt (QG .i64 ((R:Int)+(2:Int))) fun F=>lt (QG .i64 (((4:Int):Int)*z)) fun S=>lt (QG .i64 ((S:Int)+(3:Int))) fun G=>lt (zcM .u32 C (24:Int)) fun T=>lt (QG .u8 T) fun U=>lt (zcM .u32 C (16:Int)) fun W=>lt (QG .u8 W) fun X=>lt (zcM .u32 C (8:Int)) fun Y=>lt (QG .u8 Y) fun Z=>lt (QG .u8 C) fun aa=>chk (0≤D∧D<((32:Nat):Int)) (chk (1=1∧(0+((XM D)*1))+1≤(XK N)) (lt (zk N (0+((XM D)*1)) [(Qa U)]) fun I=>chk (0≤E∧E<((32:Nat):Int)) (chk (1=1∧(0+((XM E)*1))+1≤(XK I)) (lt (zk I (0+((XM E)*1)) [(Qa X)]) fun J=>chk (0≤F∧F<((32:Nat):Int)) (chk (1=1∧(0+((XM F)*1))+1≤(XK J)) (lt (zk J (0+((XM F)*1)) [(Qa Z)]) fun M=>chk (0≤G∧G<((32:Nat):Int)) (chk (1=1∧(0+((XM G)*1))+1≤(XK M)) (lt (zk M (0+((XM G)*1)) [(Qa aa)]) fun ab=>lt (QG .i64 ((z:Int)+(1:Int))) fun ac=>A H ac P ab)))))))))) (O P N)
theorem zHY{β:Type}(yu:zaS)(ym:z8)(zl:xY)(L:Nat)(z:List V)(A:Int)(C D:List V)(X:St→Ob β)(K:KT β):ze zbS (zbP yu ym zl L) 0 L zmN (zgH z A C D) (yH zni X K)=zga yu ym zl L z A C D (fun z A C D=>X (zgH z A C D)) (fun C D=>K (.exit 2) (zux C D)):=by kernel_rfl
def zlE{β:Type}(yu:zaS)(ym:z8)(zl:xY)(L:Nat)(D C:List V)(z:List V→Ob β):Ob β:=chk (0+32≤(XK C)) (chk ((XK (XL 32 C))=32∧0+32≤(XK D)) (lt (zk D 0 (XL 32 C)) fun A=>chk (0=0∧(XK A)=32∧32≠0) (z A)))
theorem zEF{β:Type}(yu:zaS)(ym:z8)(zl:xY)(L:Nat)(z A:List V)(k:KK β):(xi 2 (yv (ze zbS (zbP yu ym zl L) 0 L zBP) (zD 0 (CF.res cf_ref03_Sum) k))) (.exit 2) (zux z A)=zlE yu ym zl L z A (fun C=>k (V.agg C) []):=by kernel_rfl
def zfO{β:Type}(yu:zaS)(ym:z8)(zl:xY)(L:Nat)(z:List V→List V→Ob β):Nat→Ls→Int→List V→List V→Ob β
 | 0,_,_,_,_=>none
 | n+1,A,C,D,E=>zhE yu ym zl L A C D E (fun A C D E=>zfO yu ym zl L z n A C D E) z
theorem zvP{β:Type}(yu:zaS)(ym:z8)(zl:xY)(L:Nat)(K:KT β):∀ (n:Nat) (C:Ls) (D:Int) (z A:List V),zx (ze zbS (zbP yu ym zl L) 0 L zpL) zrn n (zic C D z A) K=zfO yu ym zl L (fun z A=>K (.exit 0) (zog z A)) n C D z A:=by
 intro n; induction n <;> intros
 ·rfl
 ·exact (zL8 ..).trans (by simp only [*]; rfl)
def zeq{β:Type}(yu:zaS)(ym:z8)(zl:xY)(L:Nat)(z:List V→List V→Ob β):Nat→List V→Int→List V→List V→Ob β
 | 0,_,_,_,_=>none
 | n+1,A,C,D,E=>zga yu ym zl L A C D E (fun A C D E=>zeq yu ym zl L z n A C D E) z
theorem zrN{β:Type}(yu:zaS)(ym:z8)(zl:xY)(L:Nat)(K:KT β):∀ (n:Nat) (C:List V) (D:Int) (z A:List V),zx (ze zbS (zbP yu ym zl L) 0 L zmN) zni n (zgH C D z A) K=zeq yu ym zl L (fun z A=>K (.exit 2) (zux z A)) n C D z A:=by
 intro n; induction n <;> intros
 ·rfl
 ·exact (zHY ..).trans (by simp only [*]; rfl)
def zig{β:Type}(yu:zaS)(ym:z8)(zl:xY)(L:Nat)(z F:List V)(A:List V→Ob β):Ob β:=znG yu ym zl L z F (fun D E z C=>zeq yu ym zl L (fun z C=>zlE yu ym zl L z C A) L D E z C)
theorem zFa{β:Type}(yu:zaS)(ym:z8)(zl:xY)(L:Nat)(z A:List V)(k:KK β):(xi 0 (yv (ze zbS (zbP yu ym zl L) 0 L zvd) (zD 0 (CF.res cf_ref03_Sum) k))) (.exit 0) (zog z A)=zig yu ym zl L z A (fun C=>k (V.agg C) []):=by
 refine (zID yu ym zl L z A k).trans ?_
 unfold zig
 first
  | (simp only [zrN,zEF]; done)
  | (simp only [zrN]; rfl)
def zyt{β:Type}(yu:zaS)(ym:z8)(zl:xY)(L:Nat)(D:Ls)(z:List V→Ob β):Ob β:=zIm yu ym zl L D (fun E F A C=>zfO yu ym zl L (fun A C=>zig yu ym zl L A C z) L E F A C)
theorem zXx{β:Type}(yu:zaS)(ym:z8)(zl:xY)(L:Nat)(z:Ls)(k:KK β):zh zbS (zbP yu ym zl L) L cf_ref03_Sum [(V.sl 1 z)] [] k=zyt yu ym zl L z (fun z=>k (V.agg z) []):=by
 refine (zXe yu ym zl L z k).trans ?_
 unfold zyt
 first
  | (simp only [zvP,zFa]; done)
  | (simp only [zvP]; rfl)
abbrev ziz:=∀ (β:Type),Nat→Ls→(List V→Ob β)→Ob β
def yX:ziz:=fun β=>@zyt β yu ym zl
def zrI(yX:ziz)(L:Nat):Dk:=dA (AL 1) fun z=>d0 fun β k=>yX β L z (fun z=>k (V.agg z) [])
theorem zXD(L:Nat):DK (zrI yX L) (fun _=>zh zbS (zbP yu ym zl L) L cf_ref03_Sum):=xv zaZ fun z=>yK fun _ k=>zXx yu ym zl L z k
def zBR:Hint:=⟨[],[],[none],[],[],false,false,[]⟩
def zF0:CF:=cfD zBR 54
def zvh:Nat→Sh:=zj []
def zvI(yX:ziz)(L:Nat):CBC:=(xe 494 (zrI yX L) noC)
def zx8{β:Type}(yX:ziz)(L:Nat)(H:Ls)(z:List V→Ob β):Ob β:=yX β L H (fun C=>chk ((XK C)=32∧0+32≤32) (lt (zk (We 32 (Qa (0:Int))) 0 C) fun A=>chk (0+32*1≤(XK A)) (ifb (List.isEmpty A) (yX β L (yl 1 32 A) (fun D=>chk ((XK D)=32∧0+32≤32) (lt (zk (We 32 (Qa (0:Int))) 0 D) fun E=>chk (0=0∧(XK E)=32∧32≠0) (z E)))) (yX β L (yl 1 32 A) (fun F=>chk ((XK F)=32∧0+32≤32) (lt (zk (We 32 (Qa (0:Int))) 0 F) fun G=>chk (0=0∧(XK G)=32∧32≠0) (z G)))))))
theorem zRa{β:Type}(yX:ziz)(L:Nat)(z:Ls)(k:KK β):zh zvh (zvI yX L) L zF0 [(V.sl 1 z)] [] k=zx8 yX L z (fun z=>k (V.agg z) []):=by kernel_rfl
abbrev zcQ:=∀ (β:Type),Nat→Ls→(List V→Ob β)→Ob β
def xJ:zcQ:=fun β=>@zx8 β yX
def ziC(xJ:zcQ)(L:Nat):Dk:=dA (AL 1) fun z=>d0 fun β k=>xJ β L z (fun z=>k (V.agg z) [])
theorem zRd(L:Nat):DK (ziC xJ L) (fun _=>zh zvh (zvI yX L) L zF0):=xv zaZ fun z=>yK fun _ k=>zRa yX L z k
def zGB:Hint:=⟨[(0,0)],[],[none,none,none],[],[],false,false,[]⟩
def zAW:CF:=cfD zGB 22
def zzS:Nat→Sh:=zj []
def zzN(yc:zt)(yd:yD)(xJ:zcQ)(L:Nat):CBC:=(xe 454 (ziC xJ L) (xe 149 (zeS yd L) (xe 148 (zeC yc L) noC)))
def zET{β:Type}(yc:zt)(yd:yD)(xJ:zcQ)(L:Nat)(A:List V)(z:List V→Ob β):Ob β:=chk (0+4≤(XK A)) (yc β L (Xv V.dem (XL 4 A)) (fun F=>ifb (!F) (lt (We 32 (Qa (0:Int))) fun C=>chk (0=0∧(XK C)=32∧32≠0) (z C)) (chk (0+4≤(XK A)) (yd β L (Xv V.dem (XL 4 A)) true (fun G=>xJ β L G (fun D=>chk ((XK D)=32∧0+32≤32) (lt (zk (We 32 (Qa (0:Int))) 0 D) fun E=>chk (0=0∧(XK E)=32∧32≠0) (z E))))))))
theorem zWG{β:Type}(yc:zt)(yd:yD)(xJ:zcQ)(L:Nat)(z:List V)(k:KK β):zh zzS (zzN yc yd xJ L) L zAW [(V.agg z)] [] k=zET yc yd xJ L z (fun z=>k (V.agg z) []):=by kernel_rfl
abbrev zcq:=∀ (β:Type),Nat→List V→(List V→Ob β)→Ob β
def yI:zcq:=fun β=>@zET β yc yd xJ
def zCP(yI:zcq)(L:Nat):Dk:=dA AG fun z=>d0 fun β k=>yI β L z (fun z=>k (V.agg z) [])
theorem zU2(L:Nat):DK (zCP yI L) (fun _=>zh zzS (zzN yc yd xJ L) L zAW):=xv zak fun z=>yK fun _ k=>zWG yc yd xJ L z k
def zF5:Hint:=⟨[(0,0),(1,0),(5,3),(7,0),(7,1)],[],[none,some ((bl 456 17),(bl 114655 17)),none,some ((bl 8 17),(bl 114655 17)),none,none],[],[],false,false,[]⟩
def cf_ref01_Join:CF:=cfD zF5 98
def zpq:CC:=xz [1,1,0,1,0,0] cf_ref01_Join.body
def zF1:CC:=xz [1,1,1] cf_ref01_Join.body
def zeE:Nat→Sh:=zj [(11,(.sl 1))]
def zeK(yg:xR)(L:Nat):CBC:=(xe 193 (ze0 yg L) noC)
def zrm:St→St:=yM 0 (bl 456 17) (bl 114655 17)
def zh2(z A:Ls)(C D:Int):St:=⟨(jn 3 ((V.gs 1 z)::(jn 2 ((V.sl 1 A)::((Qe C)::((Qe D)::(jn 8 []))))))),(gn 17 [])⟩
def zsO(z:Ls):St:=⟨(jn 3 ((V.gs 1 z)::(jn 13 []))),(gn 17 [])⟩
def zEo{β:Type}(yg:xR)(L:Nat)(A:Ls)(z:Ls→Ls→Int→Int→Ob β):Ob β:=z ([]:Ls) A ((XK A:Nat):Int) (0:Int)
theorem zWe{β:Type}(yg:xR)(L:Nat)(z:Ls)(k:KK β):zh zeE (zeK yg L) L cf_ref01_Join [(V.sl 1 z)] [] k=zEo yg L z (fun A C D E=>zx (ze zeE (zeK yg L) 0 L zpq) zrm L (zh2 A C D E) (xi 0 (yv (ze zeE (zeK yg L) 0 L zF1) (zD 0 (CF.res cf_ref01_Join) k)))):=by kernel_rfl
def zrd{β:Type}(yg:xR)(L:Nat)(D E:Ls)(F A:Int)(z:Ls→Ls→Int→Int→Ob β)(C:Ls→Ob β):Ob β:=ifb (decide (A<F)) (idx E A fun G=>cL 1 G 0 fun H=>yg β L D H (fun I=>lt (QG .i64 ((A:Int)+(1:Int))) fun J=>z I E F J)) (C D)
theorem zMb{β:Type}(yg:xR)(L:Nat)(z A:Ls)(C D:Int)(X:St→Ob β)(K:KT β):ze zeE (zeK yg L) 0 L zpq (zh2 z A C D) (yH zrm X K)=zrd yg L z A C D (fun z A C D=>X (zh2 z A C D)) (fun z=>K (.exit 0) (zsO z)):=by kernel_rfl
def zwL{β:Type}(yg:xR)(L:Nat)(A:Ls)(z:Ls→Ob β):Ob β:=z A
theorem zII{β:Type}(yg:xR)(L:Nat)(z:Ls)(k:KK β):(xi 0 (yv (ze zeE (zeK yg L) 0 L zF1) (zD 0 (CF.res cf_ref01_Join) k))) (.exit 0) (zsO z)=zwL yg L z (fun A=>k (V.gs 1 A) []):=by kernel_rfl
def zhO{β:Type}(yg:xR)(L:Nat)(z:Ls→Ob β):Nat→Ls→Ls→Int→Int→Ob β
 | 0,_,_,_,_=>none
 | n+1,A,C,D,E=>zrd yg L A C D E (fun A C D E=>zhO yg L z n A C D E) z
theorem zvL{β:Type}(yg:xR)(L:Nat)(K:KT β):∀ (n:Nat) (z A:Ls) (C D:Int),zx (ze zeE (zeK yg L) 0 L zpq) zrm n (zh2 z A C D) K=zhO yg L (fun z=>K (.exit 0) (zsO z)) n z A C D:=by
 intro n; induction n <;> intros
 ·rfl
 ·exact (zMb ..).trans (by simp only [*]; rfl)
def zuk{β:Type}(yg:xR)(L:Nat)(C:Ls)(z:Ls→Ob β):Ob β:=zEo yg L C (fun A D E F=>zhO yg L (fun A=>zwL yg L A z) L A D E F)
theorem zUu{β:Type}(yg:xR)(L:Nat)(z:Ls)(k:KK β):zh zeE (zeK yg L) L cf_ref01_Join [(V.sl 1 z)] [] k=zuk yg L z (fun z=>k (V.gs 1 z) []):=by
 refine (zWe yg L z k).trans ?_
 unfold zuk
 first
  | (simp only [zvL,zII]; done)
  | (simp only [zvL]; rfl)
abbrev zpW:=∀ (β:Type),Nat→Ls→(Ls→Ob β)→Ob β
def zai:zpW:=fun β=>@zuk β yg
def zfh(zai:zpW)(L:Nat):Dk:=dA (AL 1) fun z=>d0 fun β k=>zai β L z (fun z=>k (V.gs 1 z) [])
theorem zU9(L:Nat):DK (zfh zai L) (fun _=>zh zeE (zeK yg L) L cf_ref01_Join):=xv zaZ fun z=>yK fun _ k=>zUu yg L z k
def zF3:Hint:=⟨[],[],[none],[(1,[2,3])],[],false,false,[]⟩
def zAC:CF:=cfD zF3 57
def zAb:Nat→Sh:=zj []
def zAn(zai:zpW)(yX:ziz)(L:Nat):CBC:=(xe 494 (zrI yX L) (xe 453 (zfh zai L) noC))
def zPR{β:Type}(zai:zpW)(yX:ziz)(L:Nat)(H C:List V)(z:List V→Ob β):Ob β:=lc H (lc C (none) (fun J M=>none)) (fun A t1=>lc C (chk (0+32*1≤(XK (A::t1))) (none)) (fun D E=>chk (0+32*1≤(XK (A::t1))) (chk (0+32*1≤(XK (D::E))) (zai β L (yl 1 3 [(V.sl 1 (yl 1 1 [(Qa (1:Int))])),(V.sl 1 (yl 1 32 (A::t1))),(V.sl 1 (yl 1 32 (D::E)))]) (fun I=>yX β L I (fun F=>chk ((XK F)=32∧0+32≤32) (lt (zk (We 32 (Qa (0:Int))) 0 F) fun G=>chk (0=0∧(XK G)=32∧32≠0) (z G))))))))
theorem zVU{β:Type}(zai:zpW)(yX:ziz)(L:Nat)(z A:List V)(k:KK β):zh zAb (zAn zai yX L) L zAC [(V.agg z),(V.agg A)] [] k=zPR zai yX L z A (fun z=>k (V.agg z) []):=by kernel_rfl
abbrev zaD:=∀ (β:Type),Nat→List V→List V→(List V→Ob β)→Ob β
def xq:zaD:=fun β=>@zPR β zai yX
def zC4(xq:zaD)(L:Nat):Dk:=dA AG fun z=>dA AG fun A=>d0 fun β k=>xq β L z A (fun z=>k (V.agg z) [])
theorem zUD(L:Nat):DK (zC4 xq L) (fun _=>zh zAb (zAn zai yX L) L zAC):=xv zak fun z=>xv zak fun A=>yK fun _ k=>zVU zai yX L z A k
def zBY:Hint:=⟨[(0,0),(1,2),(3,0),(8,0),(8,13),(9,0),(9,7),(10,0),(10,5),(11,0),(11,1)],[],[none,some ((bl 9 48),(bl 225369817865679 48)),none,some ((bl 8 48),(bl 225369817865678 48)),none,none,some ((bl 57 48),(bl 278146375999487 48)),none,some ((bl 24 48),(bl 278146375999455 48)),none,none,none],[],[],false,false,[]⟩
def cf_ref07_levels:CF:=cfD zBY 56
def zhs:CC:=xz [1,1,0,0,0,1,0,1,0,1,0,0] cf_ref07_levels.body
def zqp:CC:=xz [1,1,0,0,0,1,0,1,1] cf_ref07_levels.body
def zjc:CC:=xz [1,1,0,0,0] cf_ref07_levels.body
def zBx:CC:=xz [1,1,1] cf_ref07_levels.body
def zaU:Nat→Sh:=zj []
def zaV(xq:zaD)(L:Nat):CBC:=(xe 588 (zC4 xq L) noC)
def zeV:St→St:=yM 0 (bl 9 48) (bl 225369817865679 48)
def zh9:St→St:=yM 0 (bl 57 48) (bl 278146375999487 48)
def zds(z A:Ls):St:=⟨((V.sl 32 z)::(jn 2 ((V.gs 1 A)::(jn 44 [])))),(gn 48 [])⟩
def zd4(z A C:Ls)(D:Int):St:=⟨((V.sl 32 z)::(jn 2 ((V.gs 1 A)::((V.gs 32 C)::((Qe D)::(jn 42 [])))))),(gn 48 [])⟩
def zj1(z:Ls):St:=⟨(jn 3 ((V.gs 1 z)::(jn 44 []))),(gn 48 [])⟩
def zpM(z A:Ls):St:=⟨(jn 3 ((V.gs 1 z)::((V.gs 32 A)::(jn 43 [])))),(gn 48 [])⟩
abbrev zm9(β:Type):Type:=Ls→Ls→Ls→Int→Ob β
def zx1{β:Type}(xq:zaD)(L:Nat)(A:Ls)(z:Ls→Ls→Ob β):Ob β:=z A (yl 1 1 [(V.sl 32 A)])
theorem zRs{β:Type}(xq:zaD)(L:Nat)(z:Ls)(k:KK β):zh zaU (zaV xq L) L cf_ref07_levels [(V.sl 32 z)] [] k=zx1 xq L z (fun z A=>zx (ze zaU (zaV xq L) 0 L zjc) zeV L (zds z A) (xi 0 (yv (ze zaU (zaV xq L) 0 L zBx) (zD 0 (CF.res cf_ref07_levels) k)))):=by kernel_rfl
def zkd{β:Type}(xq:zaD)(L:Nat)(C D:Ls)(z:zm9 β)(A:Ls→Ob β):Ob β:=ifb (decide (((XK C:Nat):Int)>(1:Int))) (z C D ([]:Ls) (0:Int)) (A D)
theorem zKV{β:Type}(xq:zaD)(L:Nat)(A z:Ls)(X:St→Ob β)(K:KT β):ze zaU (zaV xq L) 0 L zjc (zds A z) (yH zeV X K)=zkd xq L A z (fun A z C D=>zx (ze zaU (zaV xq L) 0 L zhs) zh9 L (zd4 A z C D) (xi 2 (yv (ze zaU (zaV xq L) 0 L zqp) (xi 1 (yH zeV X K))))) (fun z=>K (.exit 0) (zj1 z)):=by kernel_rfl
def zmm{β:Type}(xq:zaD)(L:Nat)(A:Ls)(z:Ls→Ob β):Ob β:=z A
theorem zFw{β:Type}(xq:zaD)(L:Nat)(z:Ls)(k:KK β):(xi 0 (yv (ze zaU (zaV xq L) 0 L zBx) (zD 0 (CF.res cf_ref07_levels) k))) (.exit 0) (zj1 z)=zmm xq L z (fun A=>k (V.gs 1 A) []):=by kernel_rfl
def zij{β:Type}(xq:zaD)(L:Nat)(A G C:Ls)(D:Int)(z:zm9 β)(H:Ls→Ls→Ob β):Ob β:=ifb (decide (D<((XK A:Nat):Int))) (lt (QG .i64 ((D:Int)+(1:Int))) fun I=>ifb (decide (I<((XK A:Nat):Int))) (idx A D fun J=>lt (QG .i64 ((D:Int)+(1:Int))) fun M=>idx A M fun N=>xq β L (XL 32 J) (XL 32 N) (fun E=>chk ((XK E)=32∧0+32≤32) (chk ((XK C+XK (yl 32 1 (zk (We 32 (Qa (0:Int))) 0 E)))*32≤xm∧XK C+XK (yl 32 1 (zk (We 32 (Qa (0:Int))) 0 E))≤xm) (lt (C++(yl 32 1 (zk (We 32 (Qa (0:Int))) 0 E))) fun O=>lt (QG .i64 ((D:Int)+(2:Int))) fun P=>z A G O P)))) (idx A D fun F=>chk ((XK (XL 32 F))=32∧0+32≤32) (chk ((XK C+XK (yl 32 1 (zk (We 32 (Qa (0:Int))) 0 (XL 32 F))))*32≤xm∧XK C+XK (yl 32 1 (zk (We 32 (Qa (0:Int))) 0 (XL 32 F)))≤xm) (lt (C++(yl 32 1 (zk (We 32 (Qa (0:Int))) 0 (XL 32 F)))) fun Q=>lt (QG .i64 ((D:Int)+(2:Int))) fun R=>z A G Q R)))) (H G C)
theorem zxe{β:Type}(xq:zaD)(L:Nat)(C z A:Ls)(D:Int)(X:St→Ob β)(K:KT β):ze zaU (zaV xq L) 0 L zhs (zd4 C z A D) (yH zh9 X K)=zij xq L C z A D (fun C z A D=>X (zd4 C z A D)) (fun z A=>K (.exit 2) (zpM z A)):=by kernel_rfl
def zek{β:Type}(xq:zaD)(L:Nat)(C A:Ls)(z:Ls→Ls→Ob β):Ob β:=chk ((XK C+XK (yl 1 1 [(V.sl 32 A)]))*24≤xm∧XK C+XK (yl 1 1 [(V.sl 32 A)])≤xm) (lt (C++(yl 1 1 [(V.sl 32 A)])) fun D=>z A D)
theorem zvG{β:Type}(xq:zaD)(L:Nat)(z A:Ls)(X:St→Ob β)(K:KT β):(xi 2 (yv (ze zaU (zaV xq L) 0 L zqp) (xi 1 (yH zeV X K)))) (.exit 2) (zpM z A)=zek xq L z A (fun C z=>X (zds C z)):=by kernel_rfl
def zdl{β:Type}(xq:zaD)(L:Nat)(z:Ls→Ls→Ob β):Nat→Ls→Ls→Ls→Int→Ob β
 | 0,_,_,_,_=>none
 | n+1,A,C,D,E=>zij xq L A C D E (fun A C D E=>zdl xq L z n A C D E) z
theorem zlq{β:Type}(xq:zaD)(L:Nat)(K:KT β):∀ (n:Nat) (C z A:Ls) (D:Int),zx (ze zaU (zaV xq L) 0 L zhs) zh9 n (zd4 C z A D) K=zdl xq L (fun z A=>K (.exit 2) (zpM z A)) n C z A D:=by
 intro n; induction n <;> intros
 ·rfl
 ·exact (zxe ..).trans (by simp only [*]; rfl)
def zgb{β:Type}(xq:zaD)(L:Nat)(C A:Ls)(D:Ls→Ob β)(z:Ls→Ls→Ob β):Ob β:=zkd xq L C A (fun C A E F=>zdl xq L (fun A E=>zek xq L A E z) L C A E F) D
theorem zHW{β:Type}(xq:zaD)(L:Nat)(A z:Ls)(X:St→Ob β)(K:KT β):ze zaU (zaV xq L) 0 L zjc (zds A z) (yH zeV X K)=zgb xq L A z (fun z=>K (.exit 0) (zj1 z)) (fun A z=>X (zds A z)):=by
 refine (zKV xq L A z X K).trans ?_
 unfold zgb
 first
  | (simp only [zlq,zvG]; done)
  | (simp only [zlq]; rfl)
def zdI{β:Type}(xq:zaD)(L:Nat)(z:Ls→Ob β):Nat→Ls→Ls→Ob β
 | 0,_,_=>none
 | n+1,A,C=>zgb xq L A C z (fun A C=>zdI xq L z n A C)
theorem ztC{β:Type}(xq:zaD)(L:Nat)(K:KT β):∀ (n:Nat) (A z:Ls),zx (ze zaU (zaV xq L) 0 L zjc) zeV n (zds A z) K=zdI xq L (fun z=>K (.exit 0) (zj1 z)) n A z:=by
 intro n; induction n <;> intros
 ·rfl
 ·exact (zHW ..).trans (by simp only [*]; rfl)
def zqg{β:Type}(xq:zaD)(L:Nat)(A:Ls)(z:Ls→Ob β):Ob β:=zx1 xq L A (fun A C=>zdI xq L (fun C=>zmm xq L C z) L A C)
theorem zR4{β:Type}(xq:zaD)(L:Nat)(z:Ls)(k:KK β):zh zaU (zaV xq L) L cf_ref07_levels [(V.sl 32 z)] [] k=zqg xq L z (fun z=>k (V.gs 1 z) []):=by
 refine (zRs xq L z k).trans ?_
 unfold zqg
 first
  | (simp only [ztC,zFw]; done)
  | (simp only [ztC]; rfl)
abbrev zk7:=∀ (β:Type),Nat→Ls→(Ls→Ob β)→Ob β
def zaY:zk7:=fun β=>@zqg β xq
def zxs(zaY:zk7)(L:Nat):Dk:=dA (AL 32) fun z=>d0 fun β k=>zaY β L z (fun z=>k (V.gs 1 z) [])
theorem zRA(L:Nat):DK (zxs zaY L) (fun _=>zh zaU (zaV xq L) L cf_ref07_levels):=xv zaZ fun z=>yK fun _ k=>zR4 xq L z k
def zHK:Hint:=⟨[],[],[none,none,none],[],[],false,false,[]⟩
def zAX:CF:=cfD zHK 42
def zAR:Nat→Sh:=zj [(20,(.sl 32))]
def zz9(zaY:zk7)(L:Nat):CBC:=(xe 555 (zxs zaY L) noC)
def zCR{β:Type}(zaY:zk7)(L:Nat)(A:Ls)(z:List V→Ob β):Ob β:=ifb ((((XK A:Nat):Int):Int)==(0:Int)) (lt (We 32 (Qa (0:Int))) fun C=>chk (0=0∧(XK C)=32∧32≠0) (z C)) (ifb (decide (((XK A:Nat):Int)>(1024:Int))) (lt (We 32 (Qa (0:Int))) fun D=>chk (0=0∧(XK D)=32∧32≠0) (z D)) (zaY β L A (fun E=>lt (QG .i64 ((((XK E:Nat):Int):Int)-(1:Int))) fun H=>idx E H fun I=>cL 32 I 0 fun J=>idx J (0:Int) fun F=>chk ((XK (XL 32 F))=32∧0+32≤32) (lt (zk (We 32 (Qa (0:Int))) 0 (XL 32 F)) fun G=>chk (0=0∧(XK G)=32∧32≠0) (z G)))))
theorem zU5{β:Type}(zaY:zk7)(L:Nat)(z:Ls)(k:KK β):zh zAR (zz9 zaY L) L zAX [(V.sl 32 z)] [] k=zCR zaY L z (fun z=>k (V.agg z) []):=by kernel_rfl
abbrev zcv:=∀ (β:Type),Nat→Ls→(List V→Ob β)→Ob β
def xI:zcv:=fun β=>@zCR β zaY
def zEH(xI:zcv)(L:Nat):Dk:=dA (AL 32) fun z=>d0 fun β k=>xI β L z (fun z=>k (V.agg z) [])
theorem zWt(L:Nat):DK (zEH xI L) (fun _=>zh zAR (zz9 zaY L) L zAX):=xv zaZ fun z=>yK fun _ k=>zU5 zaY L z k
def zHH:Hint:=⟨[(1,0),(4,2),(5,0),(5,5)],[],[none,some ((bl 460 20),(bl 933855 20)),none,some ((bl 12 20),(bl 933855 20)),none,none],[],[],false,false,[]⟩
def cf_ref11_Root:CF:=cfD zHH 17
def zpy:CC:=xz [1,1,0,1,0,0] cf_ref11_Root.body
def zGk:CC:=xz [1,1,1] cf_ref11_Root.body
def zeM:Nat→Sh:=zj []
def zeL(yI:zcq)(xI:zcv)(L:Nat):CBC:=(xe 520 (zEH xI L) (xe 519 (zCP yI L) noC))
def zqD:St→St:=yM 0 (bl 460 20) (bl 933855 20)
def zhX(z A:Ls)(C D:Int)(E:List V):St:=⟨(jn 2 ((V.ptr 2 0)::((V.gs 32 z)::(jn 2 ((V.sl 4 A)::((Qe C)::((Qe D)::(jn 11 [])))))))),(gn 2 ((.live true E)::(gn 17 [])))⟩
def zsS(z:Ls)(A:List V):St:=⟨(jn 2 ((V.ptr 2 0)::((V.gs 32 z)::(jn 16 [])))),(gn 2 ((.live true A)::(gn 17 [])))⟩
abbrev zzH(β:Type):Type:=Ls→Ls→Int→Int→List V→Ob β
def zEE{β:Type}(yI:zcq)(xI:zcv)(L:Nat)(A:Ls)(z:zzH β):Ob β:=z ([]:Ls) A ((XK A:Nat):Int) (0:Int) (We 32 (Qa (0:Int)))
theorem zUH{β:Type}(yI:zcq)(xI:zcv)(L:Nat)(z:Ls)(k:KK β):zh zeM (zeL yI xI L) L cf_ref11_Root [(V.sl 4 z)] [] k=zEE yI xI L z (fun A C D E F=>zx (ze zeM (zeL yI xI L) 0 L zpy) zqD L (zhX A C D E F) (xi 0 (yv (ze zeM (zeL yI xI L) 0 L zGk) (zD 0 (CF.res cf_ref11_Root) k)))):=by kernel_rfl
def zqR{β:Type}(yI:zcq)(xI:zcv)(L:Nat)(A F:Ls)(G D:Int)(H:List V)(z:zzH β)(E:Ls→List V→Ob β):Ob β:=ifb (decide (D<G)) (idx F D fun I=>chk ((XK (XL 4 I))=4∧0+4≤4) (lt (zk [(Qc (0:Int)),(V.gs 35 ([]:Ls)),(V.gs 2 ([]:Ls)),(Qc (0:Int))] 0 (XL 4 I)) fun J=>chk (0+4≤(XK J)) (yI β L (Xv V.dem (XL 4 J)) (fun C=>chk ((XK C)=32∧0+32≤32) (chk ((XK A+XK (yl 32 1 (zk (We 32 (Qa (0:Int))) 0 C)))*32≤xm∧XK A+XK (yl 32 1 (zk (We 32 (Qa (0:Int))) 0 C))≤xm) (lt (A++(yl 32 1 (zk (We 32 (Qa (0:Int))) 0 C))) fun M=>lt (QG .i64 ((D:Int)+(1:Int))) fun N=>z M F G N H)))))) (E A H)
theorem zLs{β:Type}(yI:zcq)(xI:zcv)(L:Nat)(z C:Ls)(D E:Int)(A:List V)(X:St→Ob β)(K:KT β):ze zeM (zeL yI xI L) 0 L zpy (zhX z C D E A) (yH zqD X K)=zqR yI xI L z C D E A (fun z C D E A=>X (zhX z C D E A)) (fun z A=>K (.exit 0) (zsS z A)):=by kernel_rfl
def zjf{β:Type}(yI:zcq)(xI:zcv)(L:Nat)(E:Ls)(A:List V)(z:List V→Ob β):Ob β:=xI β L E (fun C=>chk ((XK C)=32∧0+32≤(XK A)) (lt (zk A 0 C) fun D=>chk (0=0∧(XK D)=32∧32≠0) (z D)))
theorem zIM{β:Type}(yI:zcq)(xI:zcv)(L:Nat)(z:Ls)(A:List V)(k:KK β):(xi 0 (yv (ze zeM (zeL yI xI L) 0 L zGk) (zD 0 (CF.res cf_ref11_Root) k))) (.exit 0) (zsS z A)=zjf yI xI L z A (fun C=>k (V.agg C) []):=by kernel_rfl
def zhL{β:Type}(yI:zcq)(xI:zcv)(L:Nat)(z:Ls→List V→Ob β):Nat→Ls→Ls→Int→Int→List V→Ob β
 | 0,_,_,_,_,_=>none
 | n+1,A,C,D,E,F=>zqR yI xI L A C D E F (fun A C D E F=>zhL yI xI L z n A C D E F) z
theorem zvR{β:Type}(yI:zcq)(xI:zcv)(L:Nat)(K:KT β):∀ (n:Nat) (z C:Ls) (D E:Int) (A:List V),zx (ze zeM (zeL yI xI L) 0 L zpy) zqD n (zhX z C D E A) K=zhL yI xI L (fun z A=>K (.exit 0) (zsS z A)) n z C D E A:=by
 intro n; induction n <;> intros
 ·rfl
 ·exact (zLs ..).trans (by simp only [*]; rfl)
def zvB{β:Type}(yI:zcq)(xI:zcv)(L:Nat)(D:Ls)(z:List V→Ob β):Ob β:=zEE yI xI L D (fun A E F G C=>zhL yI xI L (fun A C=>zjf yI xI L A C z) L A E F G C)
theorem zVq{β:Type}(yI:zcq)(xI:zcv)(L:Nat)(z:Ls)(k:KK β):zh zeM (zeL yI xI L) L cf_ref11_Root [(V.sl 4 z)] [] k=zvB yI xI L z (fun z=>k (V.agg z) []):=by
 refine (zUH yI xI L z k).trans ?_
 unfold zvB
 first
  | (simp only [zvR,zIM]; done)
  | (simp only [zvR]; rfl)
abbrev zag:=∀ (β:Type),Nat→Ls→(List V→Ob β)→Ob β
def zw:zag:=fun β=>@zvB β yI xI
def zpo(zw:zag)(L:Nat):Dk:=dA (AL 4) fun z=>d0 fun β k=>zw β L z (fun z=>k (V.agg z) [])
theorem zVS(L:Nat):DK (zpo zw L) (fun _=>zh zeM (zeL yI xI L) L cf_ref11_Root):=xv zaZ fun z=>yK fun _ k=>zVq yI xI L z k
def zB1:Hint:=⟨[(0,0),(1,2),(7,0),(7,1)],[(1,1)],[none,some ((bl 1569 23),(bl 8388543 23)),none,some ((bl 32 23),(bl 8388543 23)),none,none],[],[],false,false,[]⟩
def cf_codec_lowest:CF:=cfD zB1 103
def zl4:CC:=xz [1,1,0,1,0,0] cf_codec_lowest.body
def zB4:CC:=xz [1,1,1] cf_codec_lowest.body
def zdn:Nat→Sh:=zj []
def zdj(L:Nat):CBC:=noC
def znW:St→St:=yM 0 (bl 1569 23) (bl 8388543 23)
def zgM(C:Int)(z:Nat)(D A:Int)(E:List V):St:=⟨((Qd C)::(jn 4 ((V.own 8 0 z 1)::(jn 3 ((Qe D)::((Qe A)::(jn 12 []))))))),(gn 8 ((.live true E)::(gn 14 [])))⟩
def zoL(z:Nat)(A:List V):St:=⟨(jn 5 ((V.own 8 0 z 1)::(jn 17 []))),(gn 8 ((.live true A)::(gn 14 [])))⟩
def zJw{β:Type}(L:Nat)(C z:Int)(A:Int→Nat→Int→Int→List V→Ob β):Ob β:=chk (0≤z∧z≤z∧(XM z)*1≤xm∧z≤xm) (A C (XM z) z (0:Int) (XN (We (XM z) [(Qa (0:Int))])))
theorem zRW{β:Type}(L:Nat)(z A:Int)(k:KK β):zh zdn (zdj L) L cf_codec_lowest [(Qd z),(Qe A)] [] k=zJw L z A (fun z C E D F=>zx (ze zdn (zdj L) 0 L zl4) znW L (zgM z C E D F) (xi 0 (yv (ze zdn (zdj L) 0 L zB4) (zD 0 (CF.res cf_codec_lowest) k)))):=by kernel_rfl
def zwI{β:Type}(L:Nat)(F:Int)(C:Nat)(G z:Int)(D:List V)(A:Int→Nat→Int→Int→List V→Ob β)(E:Nat→List V→Ob β):Ob β:=ifb (decide (z<G)) (lt (QG .i64 (((8:Int):Int)*z)) fun H=>chk (0≤H) (lt (zcM .u64 F H) fun I=>lt (QG .u8 I) fun J=>chk (0≤z∧z<((C:Nat):Int)) (chk (1=1∧(0+((XM z)*1))+1≤(XK D)) (lt (zk D (0+((XM z)*1)) [(Qa J)]) fun M=>lt (QG .i64 ((z:Int)+(1:Int))) fun N=>A F C G N M)))) (E C D)
theorem zI3{β:Type}(L:Nat)(D:Int)(z:Nat)(E A:Int)(C:List V)(X:St→Ob β)(K:KT β):ze zdn (zdj L) 0 L zl4 (zgM D z E A C) (yH znW X K)=zwI L D z E A C (fun D z E A C=>X (zgM D z E A C)) (fun z C=>K (.exit 0) (zoL z C)):=by kernel_rfl
def ztK{β:Type}(L:Nat)(A:Nat)(C:List V)(z:Ls→Ob β):Ob β:=chk (A≠0∨(XK C)=0) (z (yl 1 A C))
theorem zEl{β:Type}(L:Nat)(z:Nat)(A:List V)(k:KK β):(xi 0 (yv (ze zdn (zdj L) 0 L zB4) (zD 0 (CF.res cf_codec_lowest) k))) (.exit 0) (zoL z A)=ztK L z A (fun C=>k (V.fr 1 C) []):=by kernel_rfl
def znB{β:Type}(L:Nat)(z:Nat→List V→Ob β):Nat→Int→Nat→Int→Int→List V→Ob β
 | 0,_,_,_,_,_=>none
 | n+1,D,A,E,C,F=>zwI L D A E C F (fun D A E C F=>znB L z n D A E C F) z
theorem zr8{β:Type}(L:Nat)(K:KT β):∀ (n:Nat) (D:Int) (z:Nat) (E C:Int) (A:List V),zx (ze zdn (zdj L) 0 L zl4) znW n (zgM D z E C A) K=znB L (fun z A=>K (.exit 0) (zoL z A)) n D z E C A:=by
 intro n; induction n <;> intros
 ·rfl
 ·exact (zI3 ..).trans (by simp only [*]; rfl)
def zxc{β:Type}(L:Nat)(C F:Int)(A:Ls→Ob β):Ob β:=zJw L C F (fun C z G E D=>znB L (fun z D=>ztK L z D A) L C z G E D)
theorem zRP{β:Type}(L:Nat)(z A:Int)(k:KK β):zh zdn (zdj L) L cf_codec_lowest [(Qd z),(Qe A)] [] k=zxc L z A (fun z=>k (V.fr 1 z) []):=by
 refine (zRW L z A k).trans ?_
 unfold zxc
 first
  | (simp only [zr8,zEl]; done)
  | (simp only [zr8]; rfl)
abbrev zcs:=∀ (β:Type),Nat→Int→Int→(Ls→Ob β)→Ob β
def xD:zcs:=fun β=>@zxc β
def zlm(xD:zcs)(L:Nat):Dk:=dA (AI .u64) fun z=>dA (AI .i64) fun A=>d0 fun β k=>xD β L z A (fun z=>k (V.fr 1 z) [])
theorem zRo(L:Nat):DK (zlm xD L) (fun _=>zh zdn (zdj L) L cf_codec_lowest):=xv zbN fun z=>xv zbN fun A=>yK fun _ k=>zRP L z A k
end
end
end Go.Proofs.YtgmhijonllockaaGreatDoor
