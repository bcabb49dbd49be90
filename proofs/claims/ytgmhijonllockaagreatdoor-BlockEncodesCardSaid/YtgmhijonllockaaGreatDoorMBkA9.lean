/- Part 9 of the proof of BkA: an abstract machine over plain values, its soundness, and the functions of the program on plain values. -/
import Derived.Test.YtgmhijonllockaaGreatDoorRows
import Derived.Test.YtgmhijonllockaaGreatDoorMBkA8
namespace Go.Proofs.YtgmhijonllockaaGreatDoor
set_option maxRecDepth 100000
set_option linter.unusedVariables false
set_option linter.unusedSimpArgs false
open List renaming length->XK,replicate->We,take->XL,map->Xv,flatten->XN
open IntKind renaming wrap->QG
open Int renaming toNat->XM
section
noncomputable section
def gk_sha_initial:List V:=[.sc (.int .u32 1779033703),.sc (.int .u32 3144134277),.sc (.int .u32 1013904242),.sc (.int .u32 2773480762),.sc (.int .u32 1359893119),.sc (.int .u32 2600822924),.sc (.int .u32 528734635),.sc (.int .u32 1541459225)]
def gk_sha_k:List V:=[.sc (.int .u32 1116352408),.sc (.int .u32 1899447441),.sc (.int .u32 3049323471),.sc (.int .u32 3921009573),.sc (.int .u32 961987163),.sc (.int .u32 1508970993),.sc (.int .u32 2453635748),.sc (.int .u32 2870763221),.sc (.int .u32 3624381080),.sc (.int .u32 310598401),.sc (.int .u32 607225278),.sc (.int .u32 1426881987),.sc (.int .u32 1925078388),.sc (.int .u32 2162078206),.sc (.int .u32 2614888103),.sc (.int .u32 3248222580),.sc (.int .u32 3835390401),.sc (.int .u32 4022224774),.sc (.int .u32 264347078),.sc (.int .u32 604807628),.sc (.int .u32 770255983),.sc (.int .u32 1249150122),.sc (.int .u32 1555081692),.sc (.int .u32 1996064986),.sc (.int .u32 2554220882),.sc (.int .u32 2821834349),.sc (.int .u32 2952996808),.sc (.int .u32 3210313671),.sc (.int .u32 3336571891),.sc (.int .u32 3584528711),.sc (.int .u32 113926993),.sc (.int .u32 338241895),.sc (.int .u32 666307205),.sc (.int .u32 773529912),.sc (.int .u32 1294757372),.sc (.int .u32 1396182291),.sc (.int .u32 1695183700),.sc (.int .u32 1986661051),.sc (.int .u32 2177026350),.sc (.int .u32 2456956037),.sc (.int .u32 2730485921),.sc (.int .u32 2820302411),.sc (.int .u32 3259730800),.sc (.int .u32 3345764771),.sc (.int .u32 3516065817),.sc (.int .u32 3600352804),.sc (.int .u32 4094571909),.sc (.int .u32 275423344),.sc (.int .u32 430227734),.sc (.int .u32 506948616),.sc (.int .u32 659060556),.sc (.int .u32 883997877),.sc (.int .u32 958139571),.sc (.int .u32 1322822218),.sc (.int .u32 1537002063),.sc (.int .u32 1747873779),.sc (.int .u32 1955562222),.sc (.int .u32 2024104815),.sc (.int .u32 2227730452),.sc (.int .u32 2361852424),.sc (.int .u32 2428436474),.sc (.int .u32 2756734187),.sc (.int .u32 3204031479),.sc (.int .u32 3329325298)]
def gls:List (Nat × List V):=[(0,gk_sha_initial),(1,gk_sha_k)]
def fg:List (Nat × Nat):=[(3,661),(4,662),(5,663),(6,664),(7,665),(8,666),(9,667),(10,668),(11,669),(12,670),(13,577),(14,456),(15,130),(16,579),(17,474),(18,542),(19,522),(20,422),(21,671),(22,519),(23,672),(24,673),(25,517),(26,503),(27,674),(28,502),(29,461),(30,429),(31,455),(32,509),(33,675),(34,431),(35,127),(36,182),(37,128),(38,449),(39,488),(40,596),(41,597),(42,520),(43,151),(44,131),(45,578),(46,153),(47,132),(48,556),(49,557),(50,558),(51,424),(52,442),(53,148),(54,454),(55,149),(56,555),(57,588),(58,170),(59,172),(60,676),(61,157),(62,158),(63,501),(64,159),(65,160),(66,164),(67,139),(68,179),(69,201),(70,140),(71,180),(72,143),(73,145),(74,191),(75,205),(76,183),(77,146),(78,147),(79,185),(80,129),(81,583),(82,608),(83,188),(84,150),(85,548),(86,152),(87,443),(88,444),(89,445),(90,446),(91,467),(92,468),(93,469),(94,494),(95,138),(96,186),(97,187),(98,453),(99,197),(100,198),(101,200),(102,202),(103,192),(104,458),(105,193),(106,194),(107,195),(108,196),(109,173),(110,161),(111,162),(112,163),(113,165),(114,166),(115,167),(116,168),(117,169),(118,171),(119,209),(120,174),(121,175),(122,176),(123,177),(124,178),(125,181),(126,137),(127,184),(128,617),(129,470),(130,471),(131,472),(132,448),(133,473),(134,475),(135,476),(136,477),(137,478),(138,479),(139,480),(140,481),(141,482),(142,483),(143,484),(144,485),(145,486),(146,487),(147,513),(148,514),(149,515),(150,531),(151,532),(152,533),(153,206),(154,496),(155,497),(156,498),(157,207),(158,208),(159,199),(160,203),(161,204),(162,516),(163,518),(164,521),(165,134),(166,441),(167,523),(168,524),(169,525),(170,526),(171,527),(172,528),(173,529),(174,552),(175,553),(176,569),(177,570),(178,571),(179,534),(180,535),(181,210),(182,554),(183,136),(184,559),(185,560),(186,561),(187,562),(188,563),(189,564),(190,565),(191,566),(192,572),(193,589),(194,590),(195,591),(196,117),(197,592),(198,593),(199,594),(200,599),(201,600),(202,601),(203,602),(204,603),(205,604),(206,605),(207,606),(208,607),(209,610),(210,611),(211,612),(212,613),(213,614),(214,615),(215,616),(216,618),(217,619),(218,620),(219,621),(220,622),(221,623),(222,624),(223,625),(224,626),(225,627),(226,628),(227,629),(228,630),(229,631),(230,632),(231,633),(232,634),(233,635),(234,636),(235,637),(236,638),(237,639),(254,640),(255,641),(256,642),(257,643)]
noncomputable def cfD:Hint→Nat→CF:=cfG Tryz.prog (zcK fg gls)
def zF5:Hint:=⟨[],[],[none,none,none,some ((bl 57348 24),(bl 15728319 24)),none,some ((bl 0 24),(bl 15728319 24)),none,none,some ((bl 64 24),(bl 15728383 24)),none],[],[],false,false,[]⟩
def cf_keep_Items:CF:=cfD zF5 73
def zpQ:CC:=yz [1,1,0,1,0,0] cf_keep_Items.body
def zwr:CC:=yz [1,1,1] cf_keep_Items.body
def zdT:Nat→Sh:=zj [(18,(.sl 1))]
def zdR(L:Nat):CBC:=noC
def zqM:St→St:=yM 0 (bl 57348 24) (bl 15728319 24)
def zim(D:Int)(z:Ls)(A C:Int):St:=⟨(jn 2 ((Qe D)::(jn 10 ((V.sl 1 z)::((Qe A)::((Qe C)::(jn 8 []))))))),(gn 24 [])⟩
def zrp(z:Bool):St:=⟨(jn 6 ((V.sc (.bool z))::(jn 17 []))),(gn 24 [])⟩
def zsY:St:=⟨(jn 24 []),(gn 24 [])⟩
def zC4{β:Type}(L:Nat)(C:Ls)(D E:Int)(A:Bool→Ob β)(z:Int→Ls→Int→Int→Ob β):Ob β:=ifb (decide (((XK C:Nat):Int)>D)) (A false) (z E C ((XK C:Nat):Int) (0:Int))
theorem zWF{β:Type}(L:Nat)(z:Ls)(C A:Int)(k:KK β):yh zdT (zdR L) L cf_keep_Items [(V.sl 1 z),(Qe C),(Qe A)] [] k=zC4 L z C A (fun z=>k (V.sc (.bool z)) []) (fun A D E F=>zx (ze zdT (zdR L) 0 L zpQ) zqM L (zim A D E F) (xi 0 (yv (ze zdT (zdR L) 0 L zwr) (zD 0 (CF.res cf_keep_Items) k)))):=by kernel_rfl
def zqN{β:Type}(L:Nat)(G:Int)(D:Ls)(E A:Int)(C:Bool→Ob β)(z:Int→Ls→Int→Int→Ob β)(F:Ob β):Ob β:=ifb (decide (A<E)) (idx D A fun H=>cL 1 H 0 fun I=>ifb (decide (((XK I:Nat):Int)>G)) (C false) (lt (QG .i64 ((A:Int)+(1:Int))) fun J=>z G D E J)) (F)
theorem zLH{β:Type}(L:Nat)(D:Int)(z:Ls)(A C:Int)(X:St→Ob β)(K:KT β):ze zdT (zdR L) 0 L zpQ (zim D z A C) (yH zqM X K)=zqN L D z A C (fun E=>K .ret (zrp E)) (fun D z A C=>X (zim D z A C)) (K (.exit 0) (zsY)):=by kernel_rfl
def zmJ{β:Type}(L:Nat)(A:Bool)(z:Bool→Ob β):Ob β:=z A
theorem zFt{β:Type}(L:Nat)(z:Bool)(k:KK β):(xi 0 (yv (ze zdT (zdR L) 0 L zwr) (zD 0 (CF.res cf_keep_Items) k))) .ret (zrp z)=zmJ L z (fun A=>k (V.sc (.bool A)) []):=by kernel_rfl
def znn{β:Type}(L:Nat)(z:Bool→Ob β):Ob β:=z true
theorem zIx{β:Type}(L:Nat)(k:KK β):(xi 0 (yv (ze zdT (zdR L) 0 L zwr) (zD 0 (CF.res cf_keep_Items) k))) (.exit 0) (zsY)=znn L (fun z=>k (V.sc (.bool z)) []):=by kernel_rfl
def zhU{β:Type}(L:Nat)(z:Bool→Ob β)(A:Ob β):Nat→Int→Ls→Int→Int→Ob β
 | 0,_,_,_,_=>none
 | n+1,F,C,D,E=>zqN L F C D E z (fun F C D E=>zhU L z A n F C D E) A
theorem zuA{β:Type}(L:Nat)(K:KT β):∀ (n:Nat) (D:Int) (z:Ls) (A C:Int),zx (ze zdT (zdR L) 0 L zpQ) zqM n (zim D z A C) K=zhU L (fun E=>K .ret (zrp E)) (K (.exit 0) (zsY)) n D z A C:=by
 intro n; induction n <;> intros
 ·rfl
 ·exact (zLH ..).trans (by simp only [*]; rfl)
def zt5{β:Type}(L:Nat)(F:Ls)(G A:Int)(z:Bool→Ob β):Ob β:=zC4 L F G A z (fun A C D E=>zhU L (fun H=>zmJ L H z) (znn L z) L A C D E)
theorem zWS{β:Type}(L:Nat)(z:Ls)(A C:Int)(k:KK β):yh zdT (zdR L) L cf_keep_Items [(V.sl 1 z),(Qe A),(Qe C)] [] k=zt5 L z A C (fun z=>k (V.sc (.bool z)) []):=by
 refine (zWF L z A C k).trans ?_
 unfold zt5
 first
  | (simp only [zuA,zFt,zIx]; done)
  | (simp only [zuA]; rfl)
abbrev zab:=∀ (β:Type),Nat→Ls→Int→Int→(Bool→Ob β)→Ob β
def xo:zab:=fun β=>@zt5 β
def zD5(xo:zab)(L:Nat):Dk:=dA (AL 1) fun z=>dA (AI .i64) fun A=>dA (AI .i64) fun C=>d0 fun β k=>xo β L z A C (fun z=>k (V.sc (.bool z)) [])
theorem zVX(L:Nat):DK (zD5 xo L) (fun _=>yh zdT (zdR L) L cf_keep_Items):=xv zaZ fun z=>xv zbN fun A=>xv zbN fun C=>yK fun _ k=>zWS L z A C k
def zOZ:Hint:=⟨[(0,0),(5,2),(11,2)],[],[none,none,none,some ((bl 1835010 41),(bl 2198956146603 41)),none,some ((bl 2 41),(bl 2198956146603 41)),none,none,some ((bl 4 41),(bl 2198956146605 41)),none,some ((bl 7516192768 41),(bl 1924145348521 41)),none,some ((bl 0 41),(bl 1924145348521 41)),none,none,some ((bl 4 41),(bl 1924145348525 41)),none],[],[],false,false,[]⟩
def cf_keep_Tx:CF:=cfD zOZ 35
def zs7:CC:=yz [1,1,1,0,1,0,0] cf_keep_Tx.body
def zu4:CC:=yz [1,1,0,1,0,0] cf_keep_Tx.body
def zAx:CC:=yz [1,1,1,1] cf_keep_Tx.body
def zuS:CC:=yz [1,1,1] cf_keep_Tx.body
def zb4:Nat→Sh:=zj [(8,(.sl 35)),(13,(.sl 2)),(18,(.sl 35)),(25,(.sl 1)),(30,(.sl 2)),(37,(.sl 1))]
def zb3(xo:zab)(L:Nat):CBC:=(xe 145 (zD5 xo L) noC)
def zyf:St→St:=yM 0 (bl 1835010 41) (bl 2198956146603 41)
def zvx:St→St:=yM 0 (bl 7516192768 41) (bl 1924145348521 41)
def zkN(z:Ls)(A C:Int)(D:List V):St:=⟨(jn 1 ((V.ptr 1 0)::(jn 16 ((V.sl 35 z)::((Qe A)::((Qe C)::(jn 20 []))))))),(gn 1 ((.live true D)::(gn 39 [])))⟩
def ziF(z:Bool):St:=⟨(jn 2 ((V.sc (.bool z))::(jn 38 []))),(gn 41 [])⟩
def zst(z:List V):St:=⟨(jn 1 ((V.ptr 1 0)::(jn 39 []))),(gn 1 ((.live true z)::(gn 39 [])))⟩
def zjO(z:Ls)(A C:Int):St:=⟨(jn 30 ((V.sl 2 z)::((Qe A)::((Qe C)::(jn 8 []))))),(gn 41 [])⟩
def zAk:St:=⟨(jn 41 []),(gn 41 [])⟩
def zPF{β:Type}(xo:zab)(L:Nat)(C:List V)(A:Bool→Ob β)(z:Ls→Int→Int→List V→Ob β):Ob β:=cLd 35 C 1 fun E=>ifb (decide (((XK E:Nat):Int)>(70:Int))) (A false) (cLd 2 C 2 fun F=>ifb (decide (((XK F:Nat):Int)>(70:Int))) (A false) (cLd 35 C 1 fun D=>z D ((XK D:Nat):Int) (0:Int) C))
theorem z08{β:Type}(xo:zab)(L:Nat)(z:List V)(k:KK β):yh zb4 (zb3 xo L) L cf_keep_Tx [(V.agg z)] [] k=zPF xo L z (fun z=>k (V.sc (.bool z)) []) (fun A C D E=>zx (ze zb4 (zb3 xo L) 0 L zu4) zyf L (zkN A C D E) (xi 0 (yv (ze zb4 (zb3 xo L) 0 L zuS) (zD 0 (CF.res cf_keep_Tx) k)))):=by kernel_rfl
def zxu{β:Type}(xo:zab)(L:Nat)(D:Ls)(E A:Int)(G:List V)(C:Bool→Ob β)(z:Ls→Int→Int→List V→Ob β)(F:List V→Ob β):Ob β:=ifb (decide (A<E)) (idx D A fun H=>chk ((XK (XL 35 H))=35∧0+35≤35) (lt (zk (We 32 (Qa (0:Int))++[(Qc (0:Int)),(Qc (0:Int)),(V.gs 1 ([]:Ls))]) 0 (XL 35 H)) fun I=>cLd 1 I 34 fun J=>xo β L J (40:Int) (600:Int) (fun M=>ifb (!M) (C false) (lt (QG .i64 ((A:Int)+(1:Int))) fun N=>z D E N G)))) (F G)
theorem zRR{β:Type}(xo:zab)(L:Nat)(z:Ls)(A C:Int)(D:List V)(X:St→Ob β)(K:KT β):ze zb4 (zb3 xo L) 0 L zu4 (zkN z A C D) (yH zyf X K)=zxu xo L z A C D (fun E=>K .ret (ziF E)) (fun z A C D=>X (zkN z A C D)) (fun D=>K (.exit 0) (zst D)):=by kernel_rfl
def zrc{β:Type}(xo:zab)(L:Nat)(A:Bool)(z:Bool→Ob β):Ob β:=z A
theorem zLz{β:Type}(xo:zab)(L:Nat)(z:Bool)(k:KK β):(xi 0 (yv (ze zb4 (zb3 xo L) 0 L zuS) (zD 0 (CF.res cf_keep_Tx) k))) .ret (ziF z)=zrc xo L z (fun A=>k (V.sc (.bool A)) []):=by kernel_rfl
def ztd{β:Type}(xo:zab)(L:Nat)(C:List V)(z:Ls→Int→Int→Ob β):Ob β:=cLd 2 C 2 fun A=>z A ((XK A:Nat):Int) (0:Int)
theorem zOu{β:Type}(xo:zab)(L:Nat)(z:List V)(k:KK β):(xi 0 (yv (ze zb4 (zb3 xo L) 0 L zuS) (zD 0 (CF.res cf_keep_Tx) k))) (.exit 0) (zst z)=ztd xo L z (fun A C D=>zx (ze zb4 (zb3 xo L) 0 L zs7) zvx L (zjO A C D) (xi 2 (yv (ze zb4 (zb3 xo L) 0 L zAx) (zD 0 (CF.res cf_keep_Tx) k)))):=by kernel_rfl
def zuT{β:Type}(xo:zab)(L:Nat)(D:Ls)(E A:Int)(C:Bool→Ob β)(z:Ls→Int→Int→Ob β)(F:Ob β):Ob β:=ifb (decide (A<E)) (idx D A fun G=>chk ((XK (XL 2 G))=2∧0+2≤2) (lt (zk [(Qe (0:Int)),(V.gs 1 ([]:Ls))] 0 (XL 2 G)) fun H=>cLd 1 H 1 fun I=>ifb (decide (((XK I:Nat):Int)>(600:Int))) (C false) (lt (QG .i64 ((A:Int)+(1:Int))) fun J=>z D E J))) (F)
theorem zQE{β:Type}(xo:zab)(L:Nat)(z:Ls)(A C:Int)(X:St→Ob β)(K:KT β):ze zb4 (zb3 xo L) 0 L zs7 (zjO z A C) (yH zvx X K)=zuT xo L z A C (fun D=>K .ret (ziF D)) (fun z A C=>X (zjO z A C)) (K (.exit 2) (zAk)):=by kernel_rfl
def zpL{β:Type}(xo:zab)(L:Nat)(A:Bool)(z:Bool→Ob β):Ob β:=z A
theorem zKy{β:Type}(xo:zab)(L:Nat)(z:Bool)(k:KK β):(xi 2 (yv (ze zb4 (zb3 xo L) 0 L zAx) (zD 0 (CF.res cf_keep_Tx) k))) .ret (ziF z)=zpL xo L z (fun A=>k (V.sc (.bool A)) []):=by kernel_rfl
def zrr{β:Type}(xo:zab)(L:Nat)(z:Bool→Ob β):Ob β:=z true
theorem zL1{β:Type}(xo:zab)(L:Nat)(k:KK β):(xi 2 (yv (ze zb4 (zb3 xo L) 0 L zAx) (zD 0 (CF.res cf_keep_Tx) k))) (.exit 2) (zAk)=zrr xo L (fun z=>k (V.sc (.bool z)) []):=by kernel_rfl
def zlH{β:Type}(xo:zab)(L:Nat)(z:Bool→Ob β)(A:List V→Ob β):Nat→Ls→Int→Int→List V→Ob β
 | 0,_,_,_,_=>none
 | n+1,C,D,E,F=>zxu xo L C D E F z (fun C D E F=>zlH xo L z A n C D E F) A
theorem zBc{β:Type}(xo:zab)(L:Nat)(K:KT β):∀ (n:Nat) (A:Ls) (C D:Int) (z:List V),zx (ze zb4 (zb3 xo L) 0 L zu4) zyf n (zkN A C D z) K=zlH xo L (fun E=>K .ret (ziF E)) (fun z=>K (.exit 0) (zst z)) n A C D z:=by
 intro n; induction n <;> intros
 ·rfl
 ·exact (zRR ..).trans (by simp only [*]; rfl)
def zjG{β:Type}(xo:zab)(L:Nat)(z:Bool→Ob β)(A:Ob β):Nat→Ls→Int→Int→Ob β
 | 0,_,_,_=>none
 | n+1,C,D,E=>zuT xo L C D E z (fun C D E=>zjG xo L z A n C D E) A
theorem zzp{β:Type}(xo:zab)(L:Nat)(K:KT β):∀ (n:Nat) (z:Ls) (A C:Int),zx (ze zb4 (zb3 xo L) 0 L zs7) zvx n (zjO z A C) K=zjG xo L (fun D=>K .ret (ziF D)) (K (.exit 2) (zAk)) n z A C:=by
 intro n; induction n <;> intros
 ·rfl
 ·exact (zQE ..).trans (by simp only [*]; rfl)
def zkK{β:Type}(xo:zab)(L:Nat)(E:List V)(z:Bool→Ob β):Ob β:=ztd xo L E (fun A C D=>zjG xo L (fun F=>zpL xo L F z) (zrr xo L z) L A C D)
theorem zLv{β:Type}(xo:zab)(L:Nat)(z:List V)(k:KK β):(xi 0 (yv (ze zb4 (zb3 xo L) 0 L zuS) (zD 0 (CF.res cf_keep_Tx) k))) (.exit 0) (zst z)=zkK xo L z (fun A=>k (V.sc (.bool A)) []):=by
 refine (zOu xo L z k).trans ?_
 unfold zkK
 first
  | (simp only [zzp,zKy,zL1]; done)
  | (simp only [zzp]; rfl)
def zGA{β:Type}(xo:zab)(L:Nat)(F:List V)(z:Bool→Ob β):Ob β:=zPF xo L F z (fun C D E A=>zlH xo L (fun G=>zrc xo L G z) (fun A=>zkK xo L A z) L C D E A)
theorem z2y{β:Type}(xo:zab)(L:Nat)(z:List V)(k:KK β):yh zb4 (zb3 xo L) L cf_keep_Tx [(V.agg z)] [] k=zGA xo L z (fun z=>k (V.sc (.bool z)) []):=by
 refine (z08 xo L z k).trans ?_
 unfold zGA
 first
  | (simp only [zBc,zLz,zLv]; done)
  | (simp only [zBc]; rfl)
abbrev zdD:=∀ (β:Type),Nat→List V→(Bool→Ob β)→Ob β
def yO:zdD:=fun β=>@zGA β xo
def zOG(yO:zdD)(L:Nat):Dk:=dA AG fun z=>d0 fun β k=>yO β L z (fun z=>k (V.sc (.bool z)) [])
theorem z2M(L:Nat):DK (zOG yO L) (fun _=>yh zb4 (zb3 xo L) L cf_keep_Tx):=xv zak fun z=>yK fun _ k=>z2y xo L z k
def zGM:Hint:=⟨[(0,0),(5,2)],[],[none,none,none,some ((bl 7168 20),(bl 917481 20)),none,some ((bl 0 20),(bl 917481 20)),none,none,some ((bl 4 20),(bl 917485 20)),none],[],[],false,false,[]⟩
def cf_keep_Block:CF:=cfD zGM 12
def zoR:CC:=yz [1,1,0,1,0,0] cf_keep_Block.body
def zuI:CC:=yz [1,1,1] cf_keep_Block.body
def zdW:Nat→Sh:=zj [(6,(.sl 4)),(10,(.sl 4))]
def zdP(yO:zdD)(L:Nat):CBC:=(xe 127 (zOG yO L) noC)
def zry:St→St:=yM 0 (bl 7168 20) (bl 917481 20)
def zh6(z:Ls)(A C:Int):St:=⟨(jn 10 ((V.sl 4 z)::((Qe A)::((Qe C)::(jn 7 []))))),(gn 20 [])⟩
def zqS(z:Bool):St:=⟨(jn 2 ((V.sc (.bool z))::(jn 17 []))),(gn 20 [])⟩
def zsT:St:=⟨(jn 20 []),(gn 20 [])⟩
def zEt{β:Type}(yO:zdD)(L:Nat)(C:List V)(A:Bool→Ob β)(z:Ls→Int→Int→Ob β):Ob β:=cLd 4 C 68 fun E=>ifb (decide (((XK E:Nat):Int)>(12:Int))) (A false) (cLd 4 C 68 fun D=>z D ((XK D:Nat):Int) (0:Int))
theorem zWl{β:Type}(yO:zdD)(L:Nat)(z:List V)(k:KK β):yh zdW (zdP yO L) L cf_keep_Block [(V.agg z)] [] k=zEt yO L z (fun z=>k (V.sc (.bool z)) []) (fun A C D=>zx (ze zdW (zdP yO L) 0 L zoR) zry L (zh6 A C D) (xi 0 (yv (ze zdW (zdP yO L) 0 L zuI) (zD 0 (CF.res cf_keep_Block) k)))):=by kernel_rfl
def zrx{β:Type}(yO:zdD)(L:Nat)(D:Ls)(E A:Int)(C:Bool→Ob β)(z:Ls→Int→Int→Ob β)(F:Ob β):Ob β:=ifb (decide (A<E)) (idx D A fun G=>chk ((XK (XL 4 G))=4∧0+4≤4) (lt (zk [(Qc (0:Int)),(V.gs 35 ([]:Ls)),(V.gs 2 ([]:Ls)),(Qc (0:Int))] 0 (XL 4 G)) fun H=>chk (0+4≤(XK H)) (yO β L (Xv V.dem (XL 4 H)) (fun I=>ifb (!I) (C false) (lt (QG .i64 ((A:Int)+(1:Int))) fun J=>z D E J))))) (F)
theorem zL0{β:Type}(yO:zdD)(L:Nat)(z:Ls)(A C:Int)(X:St→Ob β)(K:KT β):ze zdW (zdP yO L) 0 L zoR (zh6 z A C) (yH zry X K)=zrx yO L z A C (fun D=>K .ret (zqS D)) (fun z A C=>X (zh6 z A C)) (K (.exit 0) (zsT)):=by kernel_rfl
def zmL{β:Type}(yO:zdD)(L:Nat)(A:Bool)(z:Bool→Ob β):Ob β:=z A
theorem zFs{β:Type}(yO:zdD)(L:Nat)(z:Bool)(k:KK β):(xi 0 (yv (ze zdW (zdP yO L) 0 L zuI) (zD 0 (CF.res cf_keep_Block) k))) .ret (zqS z)=zmL yO L z (fun A=>k (V.sc (.bool A)) []):=by kernel_rfl
def zn0{β:Type}(yO:zdD)(L:Nat)(z:Bool→Ob β):Ob β:=z true
theorem zH5{β:Type}(yO:zdD)(L:Nat)(k:KK β):(xi 0 (yv (ze zdW (zdP yO L) 0 L zuI) (zD 0 (CF.res cf_keep_Block) k))) (.exit 0) (zsT)=zn0 yO L (fun z=>k (V.sc (.bool z)) []):=by kernel_rfl
def zhK{β:Type}(yO:zdD)(L:Nat)(z:Bool→Ob β)(A:Ob β):Nat→Ls→Int→Int→Ob β
 | 0,_,_,_=>none
 | n+1,C,D,E=>zrx yO L C D E z (fun C D E=>zhK yO L z A n C D E) A
theorem zv8{β:Type}(yO:zdD)(L:Nat)(K:KT β):∀ (n:Nat) (z:Ls) (A C:Int),zx (ze zdW (zdP yO L) 0 L zoR) zry n (zh6 z A C) K=zhK yO L (fun D=>K .ret (zqS D)) (K (.exit 0) (zsT)) n z A C:=by
 intro n; induction n <;> intros
 ·rfl
 ·exact (zL0 ..).trans (by simp only [*]; rfl)
def zud{β:Type}(yO:zdD)(L:Nat)(E:List V)(z:Bool→Ob β):Ob β:=zEt yO L E z (fun A C D=>zhK yO L (fun F=>zmL yO L F z) (zn0 yO L z) L A C D)
theorem zUv{β:Type}(yO:zdD)(L:Nat)(z:List V)(k:KK β):yh zdW (zdP yO L) L cf_keep_Block [(V.agg z)] [] k=zud yO L z (fun z=>k (V.sc (.bool z)) []):=by
 refine (zWl yO L z k).trans ?_
 unfold zud
 first
  | (simp only [zv8,zFs,zH5]; done)
  | (simp only [zv8]; rfl)
abbrev zi1:=∀ (β:Type),Nat→List V→(Bool→Ob β)→Ob β
def zav:zi1:=fun β=>@zud β yO
def zvG(zav:zi1)(L:Nat):Dk:=dA AG fun z=>d0 fun β k=>zav β L z (fun z=>k (V.sc (.bool z)) [])
theorem zUD(L:Nat):DK (zvG zav L) (fun _=>yh zdW (zdP yO L) L cf_keep_Block):=xv zak fun z=>yK fun _ k=>zUv yO L z k
def zA7:Hint:=⟨[(0,0),(1,2),(7,0),(7,1)],[(1,1)],[none,some ((bl 3105 24),(bl 16777151 24)),none,some ((bl 32 24),(bl 16777151 24)),none,none],[],[],false,false,[]⟩
def cf_ref01_little:CF:=cfD zA7 106
def zmE:CC:=yz [1,1,0,1,0,0] cf_ref01_little.body
def zBT:CC:=yz [1,1,1] cf_ref01_little.body
def zdj:Nat→Sh:=zj []
def zdo(L:Nat):CBC:=noC
def znZ:St→St:=yM 0 (bl 3105 24) (bl 16777151 24)
def zgB(D:Int)(z:Nat)(A C:Int)(E:List V):St:=⟨((Qd D)::(jn 4 ((V.own 8 0 z 1)::(jn 4 ((Qe A)::((Qe C)::(jn 12 []))))))),(gn 8 ((.live true E)::(gn 15 [])))⟩
def zpN(z:Nat)(A:List V):St:=⟨(jn 5 ((V.own 8 0 z 1)::(jn 18 []))),(gn 8 ((.live true A)::(gn 15 [])))⟩
def zJU{β:Type}(L:Nat)(C z:Int)(A:Int→Nat→Int→Int→List V→Ob β):Ob β:=chk (0≤z∧z≤z∧(XM z)*1≤xm∧z≤xm) (A C (XM z) (((XM z):Nat):Int) (0:Int) (XN (We (XM z) [(Qa (0:Int))])))
theorem zR6{β:Type}(L:Nat)(z A:Int)(k:KK β):yh zdj (zdo L) L cf_ref01_little [(Qd z),(Qe A)] [] k=zJU L z A (fun z C D E F=>zx (ze zdj (zdo L) 0 L zmE) znZ L (zgB z C D E F) (xi 0 (yv (ze zdj (zdo L) 0 L zBT) (zD 0 (CF.res cf_ref01_little) k)))):=by kernel_rfl
def zwE{β:Type}(L:Nat)(G:Int)(C:Nat)(D z:Int)(E:List V)(A:Int→Nat→Int→Int→List V→Ob β)(F:Nat→List V→Ob β):Ob β:=ifb (decide (z<D)) (lt (QG .i64 (((8:Int):Int)*z)) fun H=>chk (0≤H) (lt (zcN .u64 G H) fun I=>lt (QG .u8 I) fun J=>chk (0≤z∧z<((C:Nat):Int)) (chk (1=1∧(0+((XM z)*1))+1≤(XK E)) (lt (zk E (0+((XM z)*1)) [(Qa J)]) fun M=>lt (QG .i64 ((z:Int)+(1:Int))) fun N=>A G C D N M)))) (F C E)
theorem zID{β:Type}(L:Nat)(E:Int)(z:Nat)(A C:Int)(D:List V)(X:St→Ob β)(K:KT β):ze zdj (zdo L) 0 L zmE (zgB E z A C D) (yH znZ X K)=zwE L E z A C D (fun E z A C D=>X (zgB E z A C D)) (fun z D=>K (.exit 0) (zpN z D)):=by kernel_rfl
def ztE{β:Type}(L:Nat)(A:Nat)(C:List V)(z:Ls→Ob β):Ob β:=chk (A≠0∨(XK C)=0) (z (yl 1 A C))
theorem zEO{β:Type}(L:Nat)(z:Nat)(A:List V)(k:KK β):(xi 0 (yv (ze zdj (zdo L) 0 L zBT) (zD 0 (CF.res cf_ref01_little) k))) (.exit 0) (zpN z A)=ztE L z A (fun C=>k (V.fr 1 C) []):=by kernel_rfl
def znG{β:Type}(L:Nat)(z:Nat→List V→Ob β):Nat→Int→Nat→Int→Int→List V→Ob β
 | 0,_,_,_,_,_=>none
 | n+1,E,A,C,D,F=>zwE L E A C D F (fun E A C D F=>znG L z n E A C D F) z
theorem zsd{β:Type}(L:Nat)(K:KT β):∀ (n:Nat) (E:Int) (z:Nat) (C D:Int) (A:List V),zx (ze zdj (zdo L) 0 L zmE) znZ n (zgB E z C D A) K=znG L (fun z A=>K (.exit 0) (zpN z A)) n E z C D A:=by
 intro n; induction n <;> intros
 ·rfl
 ·exact (zID ..).trans (by simp only [*]; rfl)
def zx1{β:Type}(L:Nat)(C G:Int)(A:Ls→Ob β):Ob β:=zJU L C G (fun C z E F D=>znG L (fun z D=>ztE L z D A) L C z E F D)
theorem zRU{β:Type}(L:Nat)(z A:Int)(k:KK β):yh zdj (zdo L) L cf_ref01_little [(Qd z),(Qe A)] [] k=zx1 L z A (fun z=>k (V.fr 1 z) []):=by
 refine (zR6 L z A k).trans ?_
 unfold zx1
 first
  | (simp only [zsd,zEO]; done)
  | (simp only [zsd]; rfl)
abbrev zcu:=∀ (β:Type),Nat→Int→Int→(Ls→Ob β)→Ob β
def xy:zcu:=fun β=>@zx1 β
def zln(xy:zcu)(L:Nat):Dk:=dA (AI .u64) fun z=>dA (AI .i64) fun A=>d0 fun β k=>xy β L z A (fun z=>k (V.fr 1 z) [])
theorem zRa(L:Nat):DK (zln xy L) (fun _=>yh zdj (zdo L) L cf_ref01_little):=xv zbN fun z=>xv zbN fun A=>yK fun _ k=>zRU L z A k
def zBD:Hint:=⟨[(0,0),(1,6),(2,0),(2,5)],[],[none],[],[],false,false,[]⟩
def zHH:CF:=cfD zBD 105
def zur:Nat→Sh:=zj []
def zuD(L:Nat):CBC:=noC
def zw7{β:Type}(L:Nat)(z A:Ls)(C:Ls→Ob β):Ob β:=lt (QG .i64 ((((XK z:Nat):Int):Int)+((XK A:Nat):Int))) fun D=>chk (0≤(0:Int)∧(0:Int)≤D∧(XM D)*1≤xm∧D≤xm) (chk ((XK (We 0 [(Qa (0:Int))])+XK z)*1≤xm∧XK (We 0 [(Qa (0:Int))])+XK z≤xm) (lt ((We 0 [(Qa (0:Int))])++z) fun E=>chk ((XK E+XK A)*1≤xm∧XK E+XK A≤xm) (lt (E++A) fun F=>C F)))
theorem zRg{β:Type}(L:Nat)(z A:Ls)(k:KK β):yh zur (zuD L) L zHH [(V.sl 1 z),(V.sl 1 A)] [] k=zw7 L z A (fun z=>k (V.gs 1 z) []):=by kernel_rfl
abbrev xR:=∀ (β:Type),Nat→Ls→Ls→(Ls→Ob β)→Ob β
def yg:xR:=fun β=>@zw7 β
def zeS(yg:xR)(L:Nat):Dk:=dA (AL 1) fun z=>dA (AL 1) fun A=>d0 fun β k=>yg β L z A (fun z=>k (V.gs 1 z) [])
theorem zR3(L:Nat):DK (zeS yg L) (fun _=>yh zur (zuD L) L zHH):=xv zaZ fun z=>xv zaZ fun A=>yK fun _ k=>zRg L z A k
def zuV:Hint:=⟨[(0,0),(1,5)],[],[none],[],[],false,false,[]⟩
def zyK:CF:=cfD zuV 64
def zoH:Nat→Sh:=zj []
def zov(xy:zcu)(yg:xR)(L:Nat):CBC:=(xe 193 (zeS yg L) (xe 194 (zln xy L) noC))
def zq5{β:Type}(xy:zcu)(yg:xR)(L:Nat)(A:Ls)(C:Int)(z:Ls→Ob β):Ob β:=lt (QG .u64 C) fun D=>xy β L D (4:Int) (fun E=>yg β L A E (fun F=>z F))
theorem zMK{β:Type}(xy:zcu)(yg:xR)(L:Nat)(z:Ls)(A:Int)(k:KK β):yh zoH (zov xy yg L) L zyK [(V.sl 1 z),(Qc A)] [] k=zq5 xy yg L z A (fun z=>k (V.gs 1 z) []):=by kernel_rfl
abbrev zq:=∀ (β:Type),Nat→Ls→Int→(Ls→Ob β)→Ob β
def xa:zq:=fun β=>@zq5 β xy yg
def zfN(xa:zq)(L:Nat):Dk:=dA (AL 1) fun z=>dA (AI .u32) fun A=>d0 fun β k=>xa β L z A (fun z=>k (V.gs 1 z) [])
theorem zLK(L:Nat):DK (zfN xa L) (fun _=>yh zoH (zov xy yg L) L zyK):=xv zaZ fun z=>xv zbN fun A=>yK fun _ k=>zMK xy yg L z A k
def ztI:Hint:=⟨[(0,0),(2,4),(4,6),(6,6),(7,6)],[],[none,none,none,none,none,none,none,none],[],[],false,false,[]⟩
def zw3:CF:=cfD ztI 79
def znO:Nat→Sh:=zj []
def zn4(xy:zcu)(yg:xR)(L:Nat):CBC:=(xe 193 (zeS yg L) (xe 194 (zln xy L) noC))
def zpO{β:Type}(xy:zcu)(yg:xR)(L:Nat)(C:Ls)(A:Int)(z:Ls→Ob β):Ob β:=ifb (decide (A<(253:Int))) (xy β L A (1:Int) (fun E=>yg β L C E (fun F=>z F))) (ifb (decide (A<(65536:Int))) (xy β L A (2:Int) (fun G=>yg β L (yl 1 1 [(Qa (253:Int))]) G (fun H=>yg β L C H (fun I=>z I)))) (ifb (decide (A<(4294967296:Int))) (xy β L A (4:Int) (fun J=>yg β L (yl 1 1 [(Qa (254:Int))]) J (fun M=>yg β L C M (fun N=>z N)))) (xy β L A (8:Int) (fun O=>yg β L (yl 1 1 [(Qa (255:Int))]) O (fun P=>yg β L C P (fun D=>z D))))))
theorem zKf{β:Type}(xy:zcu)(yg:xR)(L:Nat)(z:Ls)(A:Int)(k:KK β):yh znO (zn4 xy yg L) L zw3 [(V.sl 1 z),(Qd A)] [] k=zpO xy yg L z A (fun z=>k (V.gs 1 z) []):=by kernel_rfl
abbrev zp:=∀ (β:Type),Nat→Ls→Int→(Ls→Ob β)→Ob β
def ya:zp:=fun β=>@zpO β xy yg
def zgX(ya:zp)(L:Nat):Dk:=dA (AL 1) fun z=>dA (AI .u64) fun A=>d0 fun β k=>ya β L z A (fun z=>k (V.gs 1 z) [])
theorem zKD(L:Nat):DK (zgX ya L) (fun _=>yh znO (zn4 xy yg L) L zw3):=xv zaZ fun z=>xv zbN fun A=>yK fun _ k=>zKf xy yg L z A k
def ztu:Hint:=⟨[(0,1),(1,3)],[],[none],[],[],false,false,[]⟩
def zwD:CF:=cfD ztu 65
def znW:Nat→Sh:=zj []
def znR(yg:xR)(L:Nat):CBC:=(xe 193 (zeS yg L) noC)
def zjU{β:Type}(yg:xR)(L:Nat)(C:Ls)(A:List V)(z:Ls→Ob β):Ob β:=chk (0+32*1≤(XK A)) (ifb (List.isEmpty A) (yg β L C (yl 1 32 A) (fun D=>z D)) (yg β L C (yl 1 32 A) (fun E=>z E)))
theorem zJl{β:Type}(yg:xR)(L:Nat)(z:Ls)(A:List V)(k:KK β):yh znW (znR yg L) L zwD [(V.sl 1 z),(V.agg A)] [] k=zjU yg L z A (fun z=>k (V.gs 1 z) []):=by kernel_rfl
abbrev zad:=∀ (β:Type),Nat→Ls→List V→(Ls→Ob β)→Ob β
def zn:zad:=fun β=>@zjU β yg
def zg1(zn:zad)(L:Nat):Dk:=dA (AL 1) fun z=>dA AG fun A=>d0 fun β k=>zn β L z A (fun z=>k (V.gs 1 z) [])
theorem zKU(L:Nat):DK (zg1 zn L) (fun _=>yh znW (znR yg L) L zwD):=xv zaZ fun z=>xv zak fun A=>yK fun _ k=>zJl yg L z A k
def zDL:Hint:=⟨[(0,1),(1,6)],[],[none],[],[],false,false,[]⟩
def zLm:CF:=cfD zDL 95
def zxf:Nat→Sh:=zj [(7,(.int .u32))]
def zyc(zn:zad)(xa:zq)(L:Nat):CBC:=(xe 159 (zfN xa L) (xe 160 (zg1 zn L) noC))
def zAB{β:Type}(zn:zad)(xa:zq)(L:Nat)(A:List V)(z:Ls→Ob β):Ob β:=chk (0+32≤(XK A)) (zn β L ([]:Ls) (XL 32 A) (fun C=>cI .u32 A 32 fun D=>xa β L C D (fun E=>z E)))
theorem zTH{β:Type}(zn:zad)(xa:zq)(L:Nat)(z:List V)(k:KK β):yh zxf (zyc zn xa L) L zLm [(V.agg z)] [] k=zAB zn xa L z (fun z=>k (V.gs 1 z) []):=by kernel_rfl
abbrev zL:=∀ (β:Type),Nat→List V→(Ls→Ob β)→Ob β
def zf:zL:=fun β=>@zAB β zn xa
def zsD(zf:zL)(L:Nat):Dk:=dA AG fun z=>d0 fun β k=>zf β L z (fun z=>k (V.gs 1 z) [])
theorem zTq(L:Nat):DK (zsD zf L) (fun _=>yh zxf (zyc zn xa L) L zLm):=xv zak fun z=>yK fun _ k=>zTH zn xa L z k
def zuN:Hint:=⟨[(0,0),(1,4)],[],[none],[],[],false,false,[]⟩
def zzI:CF:=cfD zuN 153
def zph:Nat→Sh:=zj []
def zpm(xy:zcu)(yg:xR)(L:Nat):CBC:=(xe 193 (zeS yg L) (xe 194 (zln xy L) noC))
def zqV{β:Type}(xy:zcu)(yg:xR)(L:Nat)(A:Ls)(C:Int)(z:Ls→Ob β):Ob β:=xy β L C (8:Int) (fun D=>yg β L A D (fun E=>z E))
theorem zMz{β:Type}(xy:zcu)(yg:xR)(L:Nat)(z:Ls)(A:Int)(k:KK β):yh zph (zpm xy yg L) L zzI [(V.sl 1 z),(Qd A)] [] k=zqV xy yg L z A (fun z=>k (V.gs 1 z) []):=by kernel_rfl
abbrev zhH:=∀ (β:Type),Nat→Ls→Int→(Ls→Ob β)→Ob β
def zaf:zhH:=fun β=>@zqV β xy yg
def zrt(zaf:zhH)(L:Nat):Dk:=dA (AL 1) fun z=>dA (AI .u64) fun A=>d0 fun β k=>zaf β L z A (fun z=>k (V.gs 1 z) [])
theorem zMy(L:Nat):DK (zrt zaf L) (fun _=>yh zph (zpm xy yg L) L zzI):=xv zaZ fun z=>xv zbN fun A=>yK fun _ k=>zMz xy yg L z A k
def zrZ:Hint:=⟨[(0,0),(1,7)],[],[none],[],[],false,false,[]⟩
def zuY:CF:=cfD zrZ 97
def zl1:Nat→Sh:=zj []
def zmA(ya:zp)(yg:xR)(L:Nat):CBC:=(xe 193 (zeS yg L) (xe 185 (zgX ya L) noC))
def znJ{β:Type}(ya:zp)(yg:xR)(L:Nat)(C A:Ls)(z:Ls→Ob β):Ob β:=lt (QG .u64 ((XK A:Nat):Int)) fun D=>ya β L C D (fun E=>yg β L E A (fun F=>z F))
theorem zIo{β:Type}(ya:zp)(yg:xR)(L:Nat)(z A:Ls)(k:KK β):yh zl1 (zmA ya yg L) L zuY [(V.sl 1 z),(V.sl 1 A)] [] k=znJ ya yg L z A (fun z=>k (V.gs 1 z) []):=by kernel_rfl
abbrev zu:=∀ (β:Type),Nat→Ls→Ls→(Ls→Ob β)→Ob β
def zc:zu:=fun β=>@znJ β ya yg
def zjg(zc:zu)(L:Nat):Dk:=dA (AL 1) fun z=>dA (AL 1) fun A=>d0 fun β k=>zc β L z A (fun z=>k (V.gs 1 z) [])
theorem zIz(L:Nat):DK (zjg zc L) (fun _=>yh zl1 (zmA ya yg L) L zuY):=xv zaZ fun z=>xv zaZ fun A=>yK fun _ k=>zIo ya yg L z A k
def zK9:Hint:=⟨[(0,0),(0,1),(1,7)],[],[none],[],[],false,false,[]⟩
def zQd:CF:=cfD zK9 96
def zD6:Nat→Sh:=zj [(4,(.int .i64)),(8,(.sl 1))]
def zDw(zaf:zhH)(zc:zu)(L:Nat):CBC:=(xe 187 (zjg zc L) (xe 206 (zrt zaf L) noC))
def zIA{β:Type}(zaf:zhH)(zc:zu)(L:Nat)(A:List V)(z:Ls→Ob β):Ob β:=cI .i64 A 0 fun C=>lt (QG .u64 C) fun D=>zaf β L ([]:Ls) D (fun E=>cLd 1 A 1 fun F=>zc β L E F (fun G=>z G))
theorem zWZ{β:Type}(zaf:zhH)(zc:zu)(L:Nat)(z:List V)(k:KK β):yh zD6 (zDw zaf zc L) L zQd [(V.agg z)] [] k=zIA zaf zc L z (fun z=>k (V.gs 1 z) []):=by kernel_rfl
abbrev yQ:=∀ (β:Type),Nat→List V→(Ls→Ob β)→Ob β
def zi:yQ:=fun β=>@zIA β zaf zc
def zyp(zi:yQ)(L:Nat):Dk:=dA AG fun z=>d0 fun β k=>zi β L z (fun z=>k (V.gs 1 z) [])
theorem zXn(L:Nat):DK (zyp zi L) (fun _=>yh zD6 (zDw zaf zc L) L zQd):=xv zak fun z=>yK fun _ k=>zWZ zaf zc L z k
def zBh:Hint:=⟨[(0,0),(0,1),(1,3),(2,6),(5,2),(6,0),(6,8),(8,6),(11,2),(12,0),(12,4),(14,4),(17,2),(19,6),(23,3),(26,0),(26,1)],[],[none,some ((bl 117440550 89),(bl 618970019642689974240802175 89)),none,some ((bl 38 89),(bl 618970019642689974240802175 89)),none,none,some ((bl 492581209243686 89),(bl 618970019588646941921113471 89)),none,some ((bl 38 89),(bl 618970019588646941921113471 89)),none,none,some ((bl 32281802128991715362 89),(bl 579934938295289650113140091 89)),none,some ((bl 32 89),(bl 579934938295289650113140091 89)),none,none,some ((bl 32 89),(bl 579934938295289650113140091 89)),none,some ((bl 1057842373964929519583266 89),(bl 580284393415022003858953595 89)),none,some ((bl 32281802128991715362 89),(bl 580284393415022003858953595 89)),none,none],[],[],false,false,[]⟩
def cf_ref09_encode:CF:=cfD zBh 55
def zd7:CC:=yz [1,1,1,1,1,1,1,0,1,0,0,1,1,0,0,1,1,1,1,0,0] cf_ref09_encode.body
def zlr:CC:=yz [1,1,1,1,1,1,1,0,1,0,0,1,1,1] cf_ref09_encode.body
def ze2:CC:=yz [1,1,1,1,1,1,1,0,1,0,0] cf_ref09_encode.body
def zjt:CC:=yz [1,1,1,1,1,0,1,0,0] cf_ref09_encode.body
def zrF:CC:=yz [1,1,1,1,1,1,1,1] cf_ref09_encode.body
def zlC:CC:=yz [1,1,1,0,1,0,0] cf_ref09_encode.body
def zmb:CC:=yz [1,1,1,1,1,1] cf_ref09_encode.body
def zoQ:CC:=yz [1,1,1,1] cf_ref09_encode.body
def zQ:Nat→Sh:=zj [(15,(.int .u32)),(19,(.sl 35)),(24,(.sl 35)),(36,(.int .u32)),(41,(.sl 2)),(46,(.sl 2)),(59,(.int .u32)),(62,(.sl 35)),(72,(.sl 1)),(77,(.sl 1)),(82,(.sl 1))]
def xP(xa:zq)(ya:zp)(zf:zL)(zi:yQ)(zc:zu)(L:Nat):CBC:=(xe 187 (zjg zc L) (xe 186 (zyp zi L) (xe 138 (zsD zf L) (xe 185 (zgX ya L) (xe 159 (zfN xa L) noC)))))
def zl7:St→St:=yM 0 (bl 117440550 89) (bl 618970019642689974240802175 89)
def zkv:St→St:=yM 0 (bl 492581209243686 89) (bl 618970019588646941921113471 89)
def zcr:St→St:=yM 0 (bl 32281802128991715362 89) (bl 579934938295289650113140091 89)
def zeb:St→St:=yM 0 (bl 1057842373964929519583266 89) (bl 580284393415022003858953595 89)
def zf4(D:Bool)(E z:Ls)(A C:Int)(F:List V):St:=⟨(jn 1 ((V.sc (.bool D))::((V.ptr 2 0)::(jn 2 ((V.gs 1 E)::(jn 18 ((V.sl 35 z)::((Qe A)::((Qe C)::(jn 62 [])))))))))),(gn 2 ((.live true F)::(gn 86 [])))⟩
def zjR(z:Bool)(A:Ls)(C:List V):St:=⟨(jn 1 ((V.sc (.bool z))::((V.ptr 2 0)::(jn 2 ((V.gs 1 A)::(jn 83 [])))))),(gn 2 ((.live true C)::(gn 86 [])))⟩
def ze5(D:Bool)(E z:Ls)(A C:Int)(F:List V):St:=⟨(jn 1 ((V.sc (.bool D))::((V.ptr 2 0)::(jn 2 ((V.gs 1 E)::(jn 40 ((V.sl 2 z)::((Qe A)::((Qe C)::(jn 40 [])))))))))),(gn 2 ((.live true F)::(gn 86 [])))⟩
def zjK(z:Bool)(A:Ls)(C:List V):St:=⟨(jn 1 ((V.sc (.bool z))::((V.ptr 2 0)::(jn 2 ((V.gs 1 A)::(jn 83 [])))))),(gn 2 ((.live true C)::(gn 86 [])))⟩
def zbX(D:Bool)(E z:Ls)(A C:Int):St:=⟨(jn 1 ((V.sc (.bool D))::(jn 3 ((V.gs 1 E)::(jn 56 ((V.sl 35 z)::((Qe A)::((Qe C)::(jn 24 []))))))))),(gn 89 [])⟩
def zjH(z:Ls):St:=⟨(jn 5 ((V.gs 1 z)::(jn 83 []))),(gn 89 [])⟩
def zbZ(G:Bool)(H z:Ls)(A C:Int)(D:Ls)(E F:Int):St:=⟨(jn 1 ((V.sc (.bool G))::(jn 3 ((V.gs 1 H)::(jn 56 ((V.sl 35 z)::((Qe A)::((Qe C)::(jn 12 ((V.sl 1 D)::((Qe E)::((Qe F)::(jn 9 []))))))))))))),(gn 89 [])⟩
def zpM(D:Bool)(E z:Ls)(A C:Int):St:=⟨(jn 1 ((V.sc (.bool D))::(jn 3 ((V.gs 1 E)::(jn 56 ((V.sl 35 z)::((Qe A)::((Qe C)::(jn 24 []))))))))),(gn 89 [])⟩
abbrev ztw(β:Type):Type:=Bool→Ls→Ls→Int→Int→List V→Ob β
abbrev zqv(β:Type):Type:=Bool→Ls→Ls→Int→Int→List V→Ob β
abbrev zhk(β:Type):Type:=Bool→Ls→Ls→Int→Int→Ls→Int→Int→Ob β
def zxP{β:Type}(xa:zq)(ya:zp)(zf:zL)(zi:yQ)(zc:zu)(L:Nat)(A:List V)(D:Bool)(z:ztw β):Ob β:=cI .u32 A 0 fun E=>xa β L ([]:Ls) E (fun F=>cLd 35 A 1 fun G=>lt (QG .u64 ((XK G:Nat):Int)) fun H=>ya β L F H (fun I=>cLd 35 A 1 fun C=>z D I C ((XK C:Nat):Int) (0:Int) A))
theorem zRo{β:Type}(xa:zq)(ya:zp)(zf:zL)(zi:yQ)(zc:zu)(L:Nat)(A:List V)(z:Bool)(k:KK β):yh zQ (xP xa ya zf zi zc L) L cf_ref09_encode [(V.agg A),(V.sc (.bool z))] [] k=zxP xa ya zf zi zc L A z (fun z F C D E G=>zx (ze zQ (xP xa ya zf zi zc L) 0 L zlC) zl7 L (zf4 z F C D E G) (xi 0 (yv (ze zQ (xP xa ya zf zi zc L) 0 L zoQ) (zD 0 (CF.res cf_ref09_encode) k)))):=by kernel_rfl
def zmr{β:Type}(xa:zq)(ya:zp)(zf:zL)(zi:yQ)(zc:zu)(L:Nat)(I:Bool)(C D:Ls)(E A:Int)(J:List V)(z:ztw β)(F:Bool→Ls→List V→Ob β):Ob β:=ifb (decide (A<E)) (idx D A fun M=>chk ((XK (XL 35 M))=35∧0+35≤35) (lt (zk (We 32 (Qa (0:Int))++[(Qc (0:Int)),(Qc (0:Int)),(V.gs 1 ([]:Ls))]) 0 (XL 35 M)) fun G=>chk (0+33≤(XK G)) (zf β L (XL 33 G) (fun H=>chk ((XK C+XK H)*1≤xm∧XK C+XK H≤xm) (lt (C++H) fun Q=>cI .u32 G 33 fun N=>xa β L Q N (fun O=>lt (QG .i64 ((A:Int)+(1:Int))) fun P=>z I O D E P J)))))) (F I C J)
theorem zFE{β:Type}(xa:zq)(ya:zp)(zf:zL)(zi:yQ)(zc:zu)(L:Nat)(D:Bool)(E z:Ls)(A C:Int)(F:List V)(X:St→Ob β)(K:KT β):ze zQ (xP xa ya zf zi zc L) 0 L zlC (zf4 D E z A C F) (yH zl7 X K)=zmr xa ya zf zi zc L D E z A C F (fun D E z A C F=>X (zf4 D E z A C F)) (fun D E F=>K (.exit 0) (zjR D E F)):=by kernel_rfl
def zkl{β:Type}(xa:zq)(ya:zp)(zf:zL)(zi:yQ)(zc:zu)(L:Nat)(G:Bool)(H:Ls)(C:List V)(z:zqv β):Ob β:=cLd 2 C 2 fun D=>lt (QG .u64 ((XK D:Nat):Int)) fun E=>ya β L H E (fun F=>cLd 2 C 2 fun A=>z G F A ((XK A:Nat):Int) (0:Int) C)
theorem zCq{β:Type}(xa:zq)(ya:zp)(zf:zL)(zi:yQ)(zc:zu)(L:Nat)(z:Bool)(A:Ls)(C:List V)(k:KK β):(xi 0 (yv (ze zQ (xP xa ya zf zi zc L) 0 L zoQ) (zD 0 (CF.res cf_ref09_encode) k))) (.exit 0) (zjR z A C)=zkl xa ya zf zi zc L z A C (fun z A D E F C=>zx (ze zQ (xP xa ya zf zi zc L) 0 L zjt) zkv L (ze5 z A D E F C) (xi 2 (yv (ze zQ (xP xa ya zf zi zc L) 0 L zmb) (zD 0 (CF.res cf_ref09_encode) k)))):=by kernel_rfl
def zkB{β:Type}(xa:zq)(ya:zp)(zf:zL)(zi:yQ)(zc:zu)(L:Nat)(J:Bool)(D E:Ls)(F A:Int)(M:List V)(z:zqv β)(I:Bool→Ls→List V→Ob β):Ob β:=ifb (decide (A<F)) (idx E A fun G=>chk ((XK (XL 2 G))=2∧0+2≤2) (lt (zk [(Qe (0:Int)),(V.gs 1 ([]:Ls))] 0 (XL 2 G)) fun H=>chk (0+2≤(XK H)) (zi β L (Xv V.dem (XL 2 H)) (fun C=>chk ((XK D+XK C)*1≤xm∧XK D+XK C≤xm) (lt (D++C) fun N=>lt (QG .i64 ((A:Int)+(1:Int))) fun O=>z J N E F O M))))) (I J D M)
theorem zB8{β:Type}(xa:zq)(ya:zp)(zf:zL)(zi:yQ)(zc:zu)(L:Nat)(D:Bool)(E z:Ls)(A C:Int)(F:List V)(X:St→Ob β)(K:KT β):ze zQ (xP xa ya zf zi zc L) 0 L zjt (ze5 D E z A C F) (yH zkv X K)=zkB xa ya zf zi zc L D E z A C F (fun D E z A C F=>X (ze5 D E z A C F)) (fun D E F=>K (.exit 2) (zjK D E F)):=by kernel_rfl
def ziL{β:Type}(xa:zq)(ya:zp)(zf:zL)(zi:yQ)(zc:zu)(L:Nat)(F:Bool)(G:Ls)(C:List V)(z:Bool→Ls→Ls→Int→Int→Ob β):Ob β:=cI .u32 C 3 fun D=>xa β L G D (fun E=>cLd 35 C 1 fun A=>z F E A ((XK A:Nat):Int) (0:Int))
theorem zzu{β:Type}(xa:zq)(ya:zp)(zf:zL)(zi:yQ)(zc:zu)(L:Nat)(z:Bool)(A:Ls)(C:List V)(k:KK β):(xi 2 (yv (ze zQ (xP xa ya zf zi zc L) 0 L zmb) (zD 0 (CF.res cf_ref09_encode) k))) (.exit 2) (zjK z A C)=ziL xa ya zf zi zc L z A C (fun z A D E F=>zx (ze zQ (xP xa ya zf zi zc L) 0 L ze2) zcr L (zbX z A D E F) (xi 4 (yv (ze zQ (xP xa ya zf zi zc L) 0 L zrF) (zD 0 (CF.res cf_ref09_encode) k)))):=by kernel_rfl
def zfh{β:Type}(xa:zq)(ya:zp)(zf:zL)(zi:yQ)(zc:zu)(L:Nat)(J:Bool)(I D:Ls)(E A:Int)(C:Ls→Ob β)(z:zhk β):Ob β:=ifb (decide (A<E)) (idx D A fun F=>chk ((XK (XL 35 F))=35∧0+35≤35) (lt (zk (We 32 (Qa (0:Int))++[(Qc (0:Int)),(Qc (0:Int)),(V.gs 1 ([]:Ls))]) 0 (XL 35 F)) fun G=>ifb (!J) (C I) (cLd 1 G 34 fun M=>lt (QG .u64 ((XK M:Nat):Int)) fun N=>ya β L I N (fun O=>cLd 1 G 34 fun H=>z J O D E A H ((XK H:Nat):Int) (0:Int))))) (C I)
theorem zyC{β:Type}(xa:zq)(ya:zp)(zf:zL)(zi:yQ)(zc:zu)(L:Nat)(E:Bool)(D z:Ls)(A C:Int)(X:St→Ob β)(K:KT β):ze zQ (xP xa ya zf zi zc L) 0 L ze2 (zbX E D z A C) (yH zcr X K)=zfh xa ya zf zi zc L E D z A C (fun D=>K (.exit 4) (zjH D)) (fun E D z A C F G H=>zx (ze zQ (xP xa ya zf zi zc L) 0 L zd7) zeb L (zbZ E D z A C F G H) (xi 6 (xi 5 (yv (ze zQ (xP xa ya zf zi zc L) 0 L zlr) (yH zcr X K))))):=by kernel_rfl
def zeE{β:Type}(xa:zq)(ya:zp)(zf:zL)(zi:yQ)(zc:zu)(L:Nat)(A:Ls)(z:Ls→Ob β):Ob β:=z A
theorem zwv{β:Type}(xa:zq)(ya:zp)(zf:zL)(zi:yQ)(zc:zu)(L:Nat)(z:Ls)(k:KK β):(xi 4 (yv (ze zQ (xP xa ya zf zi zc L) 0 L zrF) (zD 0 (CF.res cf_ref09_encode) k))) (.exit 4) (zjH z)=zeE xa ya zf zi zc L z (fun A=>k (V.gs 1 A) []):=by kernel_rfl
def zea{β:Type}(xa:zq)(ya:zp)(zf:zL)(zi:yQ)(zc:zu)(L:Nat)(I:Bool)(J C:Ls)(D E:Int)(F:Ls)(G A:Int)(z:zhk β)(H:Bool→Ls→Ls→Int→Int→Ob β):Ob β:=ifb (decide (A<G)) (idx F A fun M=>cL 1 M 0 fun N=>zc β L J N (fun O=>lt (QG .i64 ((A:Int)+(1:Int))) fun P=>z I O C D E F G P)) (H I J C D E)
theorem zou{β:Type}(xa:zq)(ya:zp)(zf:zL)(zi:yQ)(zc:zu)(L:Nat)(G:Bool)(H z:Ls)(A C:Int)(D:Ls)(E F:Int)(X:St→Ob β)(K:KT β):ze zQ (xP xa ya zf zi zc L) 0 L zd7 (zbZ G H z A C D E F) (yH zeb X K)=zea xa ya zf zi zc L G H z A C D E F (fun G H z A C D E F=>X (zbZ G H z A C D E F)) (fun G H z A C=>K (.exit 6) (zpM G H z A C)):=by kernel_rfl
def zdM{β:Type}(xa:zq)(ya:zp)(zf:zL)(zi:yQ)(zc:zu)(L:Nat)(F:Bool)(G A:Ls)(C D:Int)(z:Bool→Ls→Ls→Int→Int→Ob β):Ob β:=lt (QG .i64 ((D:Int)+(1:Int))) fun E=>z F G A C E
theorem zm9{β:Type}(xa:zq)(ya:zp)(zf:zL)(zi:yQ)(zc:zu)(L:Nat)(D:Bool)(E z:Ls)(A C:Int)(X:St→Ob β)(K:KT β):(xi 6 (xi 5 (yv (ze zQ (xP xa ya zf zi zc L) 0 L zlr) (yH zcr X K)))) (.exit 6) (zpM D E z A C)=zdM xa ya zf zi zc L D E z A C (fun D E z A C=>X (zbX D E z A C)):=by kernel_rfl
def zfA{β:Type}(xa:zq)(ya:zp)(zf:zL)(zi:yQ)(zc:zu)(L:Nat)(z:Bool→Ls→List V→Ob β):Nat→Bool→Ls→Ls→Int→Int→List V→Ob β
 | 0,_,_,_,_,_,_=>none
 | n+1,E,F,A,C,D,G=>zmr xa ya zf zi zc L E F A C D G (fun E F A C D G=>zfA xa ya zf zi zc L z n E F A C D G) z
theorem zql{β:Type}(xa:zq)(ya:zp)(zf:zL)(zi:yQ)(zc:zu)(L:Nat)(K:KT β):∀ (n:Nat) (z:Bool) (A D:Ls) (E F:Int) (C:List V),zx (ze zQ (xP xa ya zf zi zc L) 0 L zlC) zl7 n (zf4 z A D E F C) K=zfA xa ya zf zi zc L (fun z A C=>K (.exit 0) (zjR z A C)) n z A D E F C:=by
 intro n; induction n <;> intros
 ·rfl
 ·exact (zFE ..).trans (by simp only [*]; rfl)
def zeA{β:Type}(xa:zq)(ya:zp)(zf:zL)(zi:yQ)(zc:zu)(L:Nat)(z:Bool→Ls→List V→Ob β):Nat→Bool→Ls→Ls→Int→Int→List V→Ob β
 | 0,_,_,_,_,_,_=>none
 | n+1,E,F,A,C,D,G=>zkB xa ya zf zi zc L E F A C D G (fun E F A C D G=>zeA xa ya zf zi zc L z n E F A C D G) z
theorem zn6{β:Type}(xa:zq)(ya:zp)(zf:zL)(zi:yQ)(zc:zu)(L:Nat)(K:KT β):∀ (n:Nat) (z:Bool) (A D:Ls) (E F:Int) (C:List V),zx (ze zQ (xP xa ya zf zi zc L) 0 L zjt) zkv n (ze5 z A D E F C) K=zeA xa ya zf zi zc L (fun z A C=>K (.exit 2) (zjK z A C)) n z A D E F C:=by
 intro n; induction n <;> intros
 ·rfl
 ·exact (zB8 ..).trans (by simp only [*]; rfl)
def zbx{β:Type}(xa:zq)(ya:zp)(zf:zL)(zi:yQ)(zc:zu)(L:Nat)(z:Bool→Ls→Ls→Int→Int→Ob β):Nat→Bool→Ls→Ls→Int→Int→Ls→Int→Int→Ob β
 | 0,_,_,_,_,_,_,_,_=>none
 | n+1,H,I,A,C,D,E,F,G=>zea xa ya zf zi zc L H I A C D E F G (fun H I A C D E F G=>zbx xa ya zf zi zc L z n H I A C D E F G) z
theorem zgA{β:Type}(xa:zq)(ya:zp)(zf:zL)(zi:yQ)(zc:zu)(L:Nat)(K:KT β):∀ (n:Nat) (D:Bool) (E z:Ls) (A C:Int) (F:Ls) (G H:Int),zx (ze zQ (xP xa ya zf zi zc L) 0 L zd7) zeb n (zbZ D E z A C F G H) K=zbx xa ya zf zi zc L (fun D E z A C=>K (.exit 6) (zpM D E z A C)) n D E z A C F G H:=by
 intro n; induction n <;> intros
 ·rfl
 ·exact (zou ..).trans (by simp only [*]; rfl)
def zc8{β:Type}(xa:zq)(ya:zp)(zf:zL)(zi:yQ)(zc:zu)(L:Nat)(E:Bool)(F A:Ls)(C D:Int)(G:Ls→Ob β)(z:Bool→Ls→Ls→Int→Int→Ob β):Ob β:=zfh xa ya zf zi zc L E F A C D G (fun E F A C D H I J=>zbx xa ya zf zi zc L (fun E F A C D=>zdM xa ya zf zi zc L E F A C D z) L E F A C D H I J)
theorem zxb{β:Type}(xa:zq)(ya:zp)(zf:zL)(zi:yQ)(zc:zu)(L:Nat)(E:Bool)(D z:Ls)(A C:Int)(X:St→Ob β)(K:KT β):ze zQ (xP xa ya zf zi zc L) 0 L ze2 (zbX E D z A C) (yH zcr X K)=zc8 xa ya zf zi zc L E D z A C (fun D=>K (.exit 4) (zjH D)) (fun E D z A C=>X (zbX E D z A C)):=by
 refine (zyC xa ya zf zi zc L E D z A C X K).trans ?_
 unfold zc8
 first
  | (simp only [zgA,zm9]; done)
  | (simp only [zgA]; rfl)
def zbd{β:Type}(xa:zq)(ya:zp)(zf:zL)(zi:yQ)(zc:zu)(L:Nat)(z:Ls→Ob β):Nat→Bool→Ls→Ls→Int→Int→Ob β
 | 0,_,_,_,_,_=>none
 | n+1,E,F,A,C,D=>zc8 xa ya zf zi zc L E F A C D z (fun E F A C D=>zbd xa ya zf zi zc L z n E F A C D)
theorem zlR{β:Type}(xa:zq)(ya:zp)(zf:zL)(zi:yQ)(zc:zu)(L:Nat)(K:KT β):∀ (n:Nat) (E:Bool) (z A:Ls) (C D:Int),zx (ze zQ (xP xa ya zf zi zc L) 0 L ze2) zcr n (zbX E z A C D) K=zbd xa ya zf zi zc L (fun z=>K (.exit 4) (zjH z)) n E z A C D:=by
 intro n; induction n <;> intros
 ·rfl
 ·exact (zxb ..).trans (by simp only [*]; rfl)
def ze7{β:Type}(xa:zq)(ya:zp)(zf:zL)(zi:yQ)(zc:zu)(L:Nat)(C:Bool)(z:Ls)(G:List V)(A:Ls→Ob β):Ob β:=ziL xa ya zf zi zc L C z G (fun C z D E F=>zbd xa ya zf zi zc L (fun z=>zeE xa ya zf zi zc L z A) L C z D E F)
theorem zxC{β:Type}(xa:zq)(ya:zp)(zf:zL)(zi:yQ)(zc:zu)(L:Nat)(z:Bool)(A:Ls)(C:List V)(k:KK β):(xi 2 (yv (ze zQ (xP xa ya zf zi zc L) 0 L zmb) (zD 0 (CF.res cf_ref09_encode) k))) (.exit 2) (zjK z A C)=ze7 xa ya zf zi zc L z A C (fun D=>k (V.gs 1 D) []):=by
 refine (zzu xa ya zf zi zc L z A C k).trans ?_
 unfold ze7
 first
  | (simp only [zlR,zwv]; done)
  | (simp only [zlR]; rfl)
def zf5{β:Type}(xa:zq)(ya:zp)(zf:zL)(zi:yQ)(zc:zu)(L:Nat)(z:Bool)(A:Ls)(C:List V)(D:Ls→Ob β):Ob β:=zkl xa ya zf zi zc L z A C (fun z A E F G C=>zeA xa ya zf zi zc L (fun z A C=>ze7 xa ya zf zi zc L z A C D) L z A E F G C)
theorem zzR{β:Type}(xa:zq)(ya:zp)(zf:zL)(zi:yQ)(zc:zu)(L:Nat)(z:Bool)(A:Ls)(C:List V)(k:KK β):(xi 0 (yv (ze zQ (xP xa ya zf zi zc L) 0 L zoQ) (zD 0 (CF.res cf_ref09_encode) k))) (.exit 0) (zjR z A C)=zf5 xa ya zf zi zc L z A C (fun D=>k (V.gs 1 D) []):=by
 refine (zCq xa ya zf zi zc L z A C k).trans ?_
 unfold zf5
 first
  | (simp only [zn6,zxC]; done)
  | (simp only [zn6]; rfl)
def zqb{β:Type}(xa:zq)(ya:zp)(zf:zL)(zi:yQ)(zc:zu)(L:Nat)(H:List V)(z:Bool)(A:Ls→Ob β):Ob β:=zxP xa ya zf zi zc L H z (fun z C E F G D=>zfA xa ya zf zi zc L (fun z C D=>zf5 xa ya zf zi zc L z C D A) L z C E F G D)
theorem zRs{β:Type}(xa:zq)(ya:zp)(zf:zL)(zi:yQ)(zc:zu)(L:Nat)(z:List V)(A:Bool)(k:KK β):yh zQ (xP xa ya zf zi zc L) L cf_ref09_encode [(V.agg z),(V.sc (.bool A))] [] k=zqb xa ya zf zi zc L z A (fun z=>k (V.gs 1 z) []):=by
 refine (zRo xa ya zf zi zc L z A k).trans ?_
 unfold zqb
 first
  | (simp only [zql,zzR]; done)
  | (simp only [zql]; rfl)
abbrev xD:=∀ (β:Type),Nat→List V→Bool→(Ls→Ob β)→Ob β
def yd:xD:=fun β=>@zqb β xa ya zf zi zc
def zeR(yd:xD)(L:Nat):Dk:=dA AG fun z=>dA AB fun A=>d0 fun β k=>yd β L z A (fun z=>k (V.gs 1 z) [])
theorem zRX(L:Nat):DK (zeR yd L) (fun _=>yh zQ (xP xa ya zf zi zc L) L cf_ref09_encode):=xv zak fun z=>xv zWo fun A=>yK fun _ k=>zRs xa ya zf zi zc L z A k
def zF7:Hint:=⟨[(0,0),(5,2),(11,2)],[],[none,none,none,some ((bl 7340034 63),(bl 9223372032559808427 63)),none,some ((bl 2 63),(bl 9223372032559808427 63)),none,none,some ((bl 4 63),(bl 9223372032559808429 63)),none,some ((bl 962072674306 63),(bl 9186745105510301355 63)),none,some ((bl 2 63),(bl 9186745105510301355 63)),none,none,some ((bl 4 63),(bl 9186745105510301357 63)),none,some ((bl 1971286909648898 63),(bl 9187343239835811499 63)),none,some ((bl 962072674306 63),(bl 9187343239835811499 63)),none,none,some ((bl 4 63),(bl 9186745105510301357 63)),none],[],[],false,false,[]⟩
def cf_ref09_Fits:CF:=cfD zF7 53
def zgp:CC:=yz [1,1,1,0,1,0,0,1,1,0,0,1,1,1,0,0] cf_ref09_Fits.body
def zkp:CC:=yz [1,1,1,0,1,0,0,1,1,1] cf_ref09_Fits.body
def zi6:CC:=yz [1,1,1,0,1,0,0] cf_ref09_Fits.body
def zoL:CC:=yz [1,1,0,1,0,0] cf_ref09_Fits.body
def zsO:CC:=yz [1,1,1,1] cf_ref09_Fits.body
def zos:CC:=yz [1,1,1] cf_ref09_Fits.body
def y8:Nat→Sh:=zj [(10,(.sl 35)),(15,(.sl 2)),(20,(.sl 2)),(27,(.int .i64)),(31,(.sl 1)),(37,(.sl 35)),(44,(.sl 1)),(48,(.sl 1)),(53,(.sl 1))]
def z9(yd:xD)(L:Nat):CBC:=(xe 149 (zeR yd L) noC)
def zq6:St→St:=yM 0 (bl 7340034 63) (bl 9223372032559808427 63)
def zdN:St→St:=yM 0 (bl 962072674306 63) (bl 9186745105510301355 63)
def zgY:St→St:=yM 0 (bl 1971286909648898 63) (bl 9187343239835811499 63)
def zh9(z:Ls)(A C:Int)(D:List V):St:=⟨(jn 1 ((V.ptr 1 0)::(jn 18 ((V.sl 2 z)::((Qe A)::((Qe C)::(jn 40 []))))))),(gn 1 ((.live true D)::(gn 61 [])))⟩
def zbw(z:Bool):St:=⟨(jn 2 ((V.sc (.bool z))::(jn 60 []))),(gn 63 [])⟩
def zmu(z:List V):St:=⟨(jn 1 ((V.ptr 1 0)::(jn 61 []))),(gn 1 ((.live true z)::(gn 61 [])))⟩
def zdu(z:Ls)(A C:Int)(D:List V):St:=⟨(jn 1 ((V.ptr 1 0)::(jn 35 ((V.sl 35 z)::((Qe A)::((Qe C)::(jn 23 []))))))),(gn 1 ((.live true D)::(gn 61 [])))⟩
def zdf(z:Ls)(A C:Int)(D:Ls)(E F:Int)(G:List V):St:=⟨(jn 1 ((V.ptr 1 0)::(jn 35 ((V.sl 35 z)::((Qe A)::((Qe C)::(jn 8 ((V.sl 1 D)::((Qe E)::((Qe F)::(jn 12 []))))))))))),(gn 1 ((.live true G)::(gn 61 [])))⟩
def zmQ(z:List V):St:=⟨(jn 1 ((V.ptr 1 0)::(jn 61 []))),(gn 1 ((.live true z)::(gn 61 [])))⟩
def ztf(z:Ls)(A C:Int)(D:List V):St:=⟨(jn 1 ((V.ptr 1 0)::(jn 35 ((V.sl 35 z)::((Qe A)::((Qe C)::(jn 23 []))))))),(gn 1 ((.live true D)::(gn 61 [])))⟩
abbrev zlJ(β:Type):Type:=Ls→Int→Int→Ls→Int→Int→List V→Ob β
def zDr{β:Type}(yd:xD)(L:Nat)(C:List V)(A:Bool→Ob β)(z:Ls→Int→Int→List V→Ob β):Ob β:=cLd 35 C 1 fun E=>ifb (decide (((XK E:Nat):Int)>(64:Int))) (A false) (cLd 2 C 2 fun F=>ifb (decide (((XK F:Nat):Int)>(64:Int))) (A false) (cLd 2 C 2 fun D=>z D ((XK D:Nat):Int) (0:Int) C))
theorem zWB{β:Type}(yd:xD)(L:Nat)(z:List V)(k:KK β):yh y8 (z9 yd L) L cf_ref09_Fits [(V.agg z)] [] k=zDr yd L z (fun z=>k (V.sc (.bool z)) []) (fun A C D E=>zx (ze y8 (z9 yd L) 0 L zoL) zq6 L (zh9 A C D E) (xi 0 (yv (ze y8 (z9 yd L) 0 L zos) (zD 0 (CF.res cf_ref09_Fits) k)))):=by kernel_rfl
def zqQ{β:Type}(yd:xD)(L:Nat)(D:Ls)(E C:Int)(G:List V)(A:Bool→Ob β)(z:Ls→Int→Int→List V→Ob β)(F:List V→Ob β):Ob β:=ifb (decide (C<E)) (idx D C fun H=>chk ((XK (XL 2 H))=2∧0+2≤2) (lt (zk [(Qe (0:Int)),(V.gs 1 ([]:Ls))] 0 (XL 2 H)) fun I=>cI .i64 I 0 fun J=>ifb (decide (J<(0:Int))) (A false) (cLd 1 I 1 fun M=>ifb (decide (((XK M:Nat):Int)>(520:Int))) (A false) (lt (QG .i64 ((C:Int)+(1:Int))) fun N=>z D E N G)))) (F G)
theorem zLL{β:Type}(yd:xD)(L:Nat)(z:Ls)(A C:Int)(D:List V)(X:St→Ob β)(K:KT β):ze y8 (z9 yd L) 0 L zoL (zh9 z A C D) (yH zq6 X K)=zqQ yd L z A C D (fun E=>K .ret (zbw E)) (fun z A C D=>X (zh9 z A C D)) (fun D=>K (.exit 0) (zmu D)):=by kernel_rfl
def zml{β:Type}(yd:xD)(L:Nat)(A:Bool)(z:Bool→Ob β):Ob β:=z A
theorem zFg{β:Type}(yd:xD)(L:Nat)(z:Bool)(k:KK β):(xi 0 (yv (ze y8 (z9 yd L) 0 L zos) (zD 0 (CF.res cf_ref09_Fits) k))) .ret (zbw z)=zml yd L z (fun A=>k (V.sc (.bool A)) []):=by kernel_rfl
def znx{β:Type}(yd:xD)(L:Nat)(A:List V)(z:Ls→Int→Int→List V→Ob β):Ob β:=cLd 35 A 1 fun C=>z C ((XK C:Nat):Int) (0:Int) A
theorem zIt{β:Type}(yd:xD)(L:Nat)(z:List V)(k:KK β):(xi 0 (yv (ze y8 (z9 yd L) 0 L zos) (zD 0 (CF.res cf_ref09_Fits) k))) (.exit 0) (zmu z)=znx yd L z (fun A C D z=>zx (ze y8 (z9 yd L) 0 L zi6) zdN L (zdu A C D z) (xi 2 (yv (ze y8 (z9 yd L) 0 L zsO) (zD 0 (CF.res cf_ref09_Fits) k)))):=by kernel_rfl
def zpJ{β:Type}(yd:xD)(L:Nat)(D:Ls)(E A:Int)(I:List V)(C:Bool→Ob β)(z:zlJ β)(H:List V→Ob β):Ob β:=ifb (decide (A<E)) (idx D A fun J=>chk ((XK (XL 35 J))=35∧0+35≤35) (lt (zk (We 32 (Qa (0:Int))++[(Qc (0:Int)),(Qc (0:Int)),(V.gs 1 ([]:Ls))]) 0 (XL 35 J)) fun F=>cLd 1 F 34 fun M=>ifb (decide (((XK M:Nat):Int)>(32:Int))) (C false) (cLd 1 F 34 fun G=>z D E A G ((XK G:Nat):Int) (0:Int) I))) (H I)
theorem zJS{β:Type}(yd:xD)(L:Nat)(z:Ls)(A C:Int)(D:List V)(X:St→Ob β)(K:KT β):ze y8 (z9 yd L) 0 L zi6 (zdu z A C D) (yH zdN X K)=zpJ yd L z A C D (fun H=>K .ret (zbw H)) (fun z A C E F G D=>zx (ze y8 (z9 yd L) 0 L zgp) zgY L (zdf z A C E F G D) (xi 4 (xi 3 (yv (ze y8 (z9 yd L) 0 L zkp) (yH zdN X K))))) (fun D=>K (.exit 2) (zmQ D)):=by kernel_rfl
def zk2{β:Type}(yd:xD)(L:Nat)(A:Bool)(z:Bool→Ob β):Ob β:=z A
theorem zDU{β:Type}(yd:xD)(L:Nat)(z:Bool)(k:KK β):(xi 2 (yv (ze y8 (z9 yd L) 0 L zsO) (zD 0 (CF.res cf_ref09_Fits) k))) .ret (zbw z)=zk2 yd L z (fun A=>k (V.sc (.bool A)) []):=by kernel_rfl
def zmK{β:Type}(yd:xD)(L:Nat)(A:List V)(z:Bool→Ob β):Ob β:=chk (0+4≤(XK A)) (yd β L (Xv V.dem (XL 4 A)) true (fun C=>z (decide (((XK C:Nat):Int)≤(20000:Int)))))
theorem zFD{β:Type}(yd:xD)(L:Nat)(z:List V)(k:KK β):(xi 2 (yv (ze y8 (z9 yd L) 0 L zsO) (zD 0 (CF.res cf_ref09_Fits) k))) (.exit 2) (zmQ z)=zmK yd L z (fun A=>k (V.sc (.bool A)) []):=by kernel_rfl
def zhd{β:Type}(yd:xD)(L:Nat)(D:Ls)(E F:Int)(G:Ls)(H A:Int)(J:List V)(C:Bool→Ob β)(z:zlJ β)(I:Ls→Int→Int→List V→Ob β):Ob β:=ifb (decide (A<H)) (idx G A fun M=>cL 1 M 0 fun N=>ifb (decide (((XK N:Nat):Int)>(520:Int))) (C false) (lt (QG .i64 ((A:Int)+(1:Int))) fun O=>z D E F G H O J)) (I D E F J)
theorem zuU{β:Type}(yd:xD)(L:Nat)(z:Ls)(A C:Int)(D:Ls)(E F:Int)(G:List V)(X:St→Ob β)(K:KT β):ze y8 (z9 yd L) 0 L zgp (zdf z A C D E F G) (yH zgY X K)=zhd yd L z A C D E F G (fun H=>K .ret (zbw H)) (fun z A C D E F G=>X (zdf z A C D E F G)) (fun z A C G=>K (.exit 4) (ztf z A C G)):=by kernel_rfl
def zfr{β:Type}(yd:xD)(L:Nat)(A:Bool)(z:Bool→Ob β):Ob β:=z A
theorem zsg{β:Type}(yd:xD)(L:Nat)(z:Bool)(X:St→Ob β)(K:KT β):(xi 4 (xi 3 (yv (ze y8 (z9 yd L) 0 L zkp) (yH zdN X K)))) .ret (zbw z)=zfr yd L z (fun z=>K .ret (zbw z)):=by kernel_rfl
def zfU{β:Type}(yd:xD)(L:Nat)(A:Ls)(C D:Int)(F:List V)(z:Ls→Int→Int→List V→Ob β):Ob β:=lt (QG .i64 ((D:Int)+(1:Int))) fun E=>z A C E F
theorem zsV{β:Type}(yd:xD)(L:Nat)(z:Ls)(A C:Int)(D:List V)(X:St→Ob β)(K:KT β):(xi 4 (xi 3 (yv (ze y8 (z9 yd L) 0 L zkp) (yH zdN X K)))) (.exit 4) (ztf z A C D)=zfU yd L z A C D (fun z A C D=>X (zdu z A C D)):=by kernel_rfl
def zhJ{β:Type}(yd:xD)(L:Nat)(z:Bool→Ob β)(A:List V→Ob β):Nat→Ls→Int→Int→List V→Ob β
 | 0,_,_,_,_=>none
 | n+1,C,D,E,F=>zqQ yd L C D E F z (fun C D E F=>zhJ yd L z A n C D E F) A
theorem zvb{β:Type}(yd:xD)(L:Nat)(K:KT β):∀ (n:Nat) (A:Ls) (C D:Int) (z:List V),zx (ze y8 (z9 yd L) 0 L zoL) zq6 n (zh9 A C D z) K=zhJ yd L (fun E=>K .ret (zbw E)) (fun z=>K (.exit 0) (zmu z)) n A C D z:=by
 intro n; induction n <;> intros
 ·rfl
 ·exact (zLL ..).trans (by simp only [*]; rfl)
def zcC{β:Type}(yd:xD)(L:Nat)(z:Bool→Ob β)(A:Ls→Int→Int→List V→Ob β):Nat→Ls→Int→Int→Ls→Int→Int→List V→Ob β
 | 0,_,_,_,_,_,_,_=>none
 | n+1,C,D,E,F,G,H,I=>zhd yd L C D E F G H I z (fun C D E F G H I=>zcC yd L z A n C D E F G H I) A
theorem zjZ{β:Type}(yd:xD)(L:Nat)(K:KT β):∀ (n:Nat) (z:Ls) (A C:Int) (E:Ls) (F G:Int) (D:List V),zx (ze y8 (z9 yd L) 0 L zgp) zgY n (zdf z A C E F G D) K=zcC yd L (fun H=>K .ret (zbw H)) (fun z A C D=>K (.exit 4) (ztf z A C D)) n z A C E F G D:=by
 intro n; induction n <;> intros
 ·rfl
 ·exact (zuU ..).trans (by simp only [*]; rfl)
def zji{β:Type}(yd:xD)(L:Nat)(z:Ls)(A C:Int)(F:List V)(E:Bool→Ob β)(G:List V→Ob β)(D:Ls→Int→Int→List V→Ob β):Ob β:=zpJ yd L z A C F E (fun z A C H I J F=>zcC yd L (fun M=>zfr yd L M E) (fun z A C F=>zfU yd L z A C F D) L z A C H I J F) G
theorem zIp{β:Type}(yd:xD)(L:Nat)(z:Ls)(A C:Int)(D:List V)(X:St→Ob β)(K:KT β):ze y8 (z9 yd L) 0 L zi6 (zdu z A C D) (yH zdN X K)=zji yd L z A C D (fun E=>K .ret (zbw E)) (fun D=>K (.exit 2) (zmQ D)) (fun z A C D=>X (zdu z A C D)):=by
 refine (zJS yd L z A C D X K).trans ?_
 unfold zji
 first
  | (simp only [zjZ,zsg,zsV]; done)
  | (simp only [zjZ]; rfl)
def zg5{β:Type}(yd:xD)(L:Nat)(z:Bool→Ob β)(A:List V→Ob β):Nat→Ls→Int→Int→List V→Ob β
 | 0,_,_,_,_=>none
 | n+1,C,D,E,F=>zji yd L C D E F z A (fun C D E F=>zg5 yd L z A n C D E F)
theorem ztq{β:Type}(yd:xD)(L:Nat)(K:KT β):∀ (n:Nat) (A:Ls) (C D:Int) (z:List V),zx (ze y8 (z9 yd L) 0 L zi6) zdN n (zdu A C D z) K=zg5 yd L (fun E=>K .ret (zbw E)) (fun z=>K (.exit 2) (zmQ z)) n A C D z:=by
 intro n; induction n <;> intros
 ·rfl
 ·exact (zIp ..).trans (by simp only [*]; rfl)
def zh2{β:Type}(yd:xD)(L:Nat)(A:List V)(z:Bool→Ob β):Ob β:=znx yd L A (fun C D E A=>zg5 yd L (fun F=>zk2 yd L F z) (fun A=>zmK yd L A z) L C D E A)
theorem zFB{β:Type}(yd:xD)(L:Nat)(z:List V)(k:KK β):(xi 0 (yv (ze y8 (z9 yd L) 0 L zos) (zD 0 (CF.res cf_ref09_Fits) k))) (.exit 0) (zmu z)=zh2 yd L z (fun A=>k (V.sc (.bool A)) []):=by
 refine (zIt yd L z k).trans ?_
 unfold zh2
 first
  | (simp only [ztq,zDU,zFD]; done)
  | (simp only [ztq]; rfl)
def zvs{β:Type}(yd:xD)(L:Nat)(F:List V)(z:Bool→Ob β):Ob β:=zDr yd L F z (fun C D E A=>zhJ yd L (fun G=>zml yd L G z) (fun A=>zh2 yd L A z) L C D E A)
theorem zV0{β:Type}(yd:xD)(L:Nat)(z:List V)(k:KK β):yh y8 (z9 yd L) L cf_ref09_Fits [(V.agg z)] [] k=zvs yd L z (fun z=>k (V.sc (.bool z)) []):=by
 refine (zWB yd L z k).trans ?_
 unfold zvs
 first
  | (simp only [zvb,zFg,zFB]; done)
  | (simp only [zvb]; rfl)
abbrev zt:=∀ (β:Type),Nat→List V→(Bool→Ob β)→Ob β
def yc:zt:=fun β=>@zvs β yd
def zeC(yc:zt)(L:Nat):Dk:=dA AG fun z=>d0 fun β k=>yc β L z (fun z=>k (V.sc (.bool z)) [])
theorem zVf(L:Nat):DK (zeC yc L) (fun _=>yh y8 (z9 yd L) L cf_ref09_Fits):=xv zak fun z=>yK fun _ k=>zV0 yd L z k
def zJ7:Hint:=⟨[(0,0),(1,1),(3,0),(3,3),(7,0),(7,9),(8,0),(8,1)],[],[none,some ((bl 9 31),(bl 2147385087 31)),none,some ((bl 9 31),(bl 2147385087 31)),none,none,some ((bl 25 31),(bl 1342177279 31)),none,some ((bl 8 31),(bl 1342177263 31)),none,none],[],[],false,false,[]⟩
def cf_ref03_Pad:CF:=cfD zJ7 150
def zo5:CC:=yz [1,1,1,0,1,0,0] cf_ref03_Pad.body
def zsQ:CC:=yz [1,1,0,0,0] cf_ref03_Pad.body
def zGw:CC:=yz [1,1,1,1] cf_ref03_Pad.body
def zxR:CC:=yz [1,1,1] cf_ref03_Pad.body
def zbV:Nat→Sh:=zj []
def zbS(L:Nat):CBC:=noC
def zwq:St→St:=yM 0 (bl 9 31) (bl 2147385087 31)
def zqL:St→St:=yM 0 (bl 25 31) (bl 1342177279 31)
def zjT(z:Int)(A:Ls):St:=⟨((Qd z)::(jn 2 ((V.gs 1 A)::(jn 27 [])))),(gn 31 [])⟩
def zor(z:Int)(A:Ls):St:=⟨((Qd z)::(jn 2 ((V.gs 1 A)::(jn 27 [])))),(gn 31 [])⟩
def zir(z:Int)(A:Ls)(C:Int):St:=⟨((Qd z)::(jn 2 ((V.gs 1 A)::((Qe C)::(jn 26 []))))),(gn 31 [])⟩
def zv9(z:Ls):St:=⟨(jn 3 ((V.gs 1 z)::(jn 27 []))),(gn 31 [])⟩
def zH8{β:Type}(L:Nat)(A:Int)(z:Int→Ls→Ob β):Ob β:=z A (yl 1 1 [(Qa (128:Int))])
theorem zX0{β:Type}(L:Nat)(z:Int)(k:KK β):yh zbV (zbS L) L cf_ref03_Pad [(Qd z)] [] k=zH8 L z (fun z A=>zx (ze zbV (zbS L) 0 L zsQ) zwq L (zjT z A) (xi 0 (yv (ze zbV (zbS L) 0 L zxR) (zD 0 (CF.res cf_ref03_Pad) k)))):=by kernel_rfl
def zux{β:Type}(L:Nat)(C:Int)(A:Ls)(z:Int→Ls→Ob β)(D:Int→Ls→Ob β):Ob β:=lt (QG .u64 ((XK A:Nat):Int)) fun E=>lt (QG .u64 ((C:Int)+E)) fun F=>lt (QG .u64 ((F:Int)+(8:Int))) fun G=>lt (Int.tmod G (64:Int)) fun H=>ifb ((H:Int) != (0:Int)) (chk ((XK A+XK (yl 1 1 [(Qa (0:Int))]))*1≤xm∧XK A+XK (yl 1 1 [(Qa (0:Int))])≤xm) (lt (A++(yl 1 1 [(Qa (0:Int))])) fun I=>z C I)) (D C A)
theorem zPk{β:Type}(L:Nat)(z:Int)(A:Ls)(X:St→Ob β)(K:KT β):ze zbV (zbS L) 0 L zsQ (zjT z A) (yH zwq X K)=zux L z A (fun z A=>X (zjT z A)) (fun z A=>K (.exit 0) (zor z A)):=by kernel_rfl
def zqK{β:Type}(L:Nat)(A:Int)(C:Ls)(z:Int→Ls→Int→Ob β):Ob β:=z A C (7:Int)
theorem zMG{β:Type}(L:Nat)(z:Int)(A:Ls)(k:KK β):(xi 0 (yv (ze zbV (zbS L) 0 L zxR) (zD 0 (CF.res cf_ref03_Pad) k))) (.exit 0) (zor z A)=zqK L z A (fun z A C=>zx (ze zbV (zbS L) 0 L zo5) zqL L (zir z A C) (xi 2 (yv (ze zbV (zbS L) 0 L zGw) (zD 0 (CF.res cf_ref03_Pad) k)))):=by kernel_rfl
def zhG{β:Type}(L:Nat)(F:Int)(A:Ls)(C:Int)(z:Int→Ls→Int→Ob β)(D:Ls→Ob β):Ob β:=ifb (decide (C≥(0:Int))) (lt (QG .u64 (((8:Int):Int)*F)) fun I=>lt (QG .i64 (((8:Int):Int)*C)) fun G=>chk (0≤G) (lt (zcN .u64 I G) fun J=>lt (QG .u8 J) fun E=>chk ((XK A+XK (yl 1 1 [(Qa E)]))*1≤xm∧XK A+XK (yl 1 1 [(Qa E)])≤xm) (lt (A++(yl 1 1 [(Qa E)])) fun M=>lt (QG .i64 ((C:Int)-(1:Int))) fun H=>z F M H))) (D A)
theorem zLE{β:Type}(L:Nat)(A:Int)(z:Ls)(C:Int)(X:St→Ob β)(K:KT β):ze zbV (zbS L) 0 L zo5 (zir A z C) (yH zqL X K)=zhG L A z C (fun A z C=>X (zir A z C)) (fun z=>K (.exit 2) (zv9 z)):=by kernel_rfl
def znp{β:Type}(L:Nat)(A:Ls)(z:Ls→Ob β):Ob β:=z A
theorem zI7{β:Type}(L:Nat)(z:Ls)(k:KK β):(xi 2 (yv (ze zbV (zbS L) 0 L zGw) (zD 0 (CF.res cf_ref03_Pad) k))) (.exit 2) (zv9 z)=znp L z (fun A=>k (V.gs 1 A) []):=by kernel_rfl
def zka{β:Type}(L:Nat)(z:Int→Ls→Ob β):Nat→Int→Ls→Ob β
 | 0,_,_=>none
 | n+1,A,C=>zux L A C (fun A C=>zka L z n A C) z
theorem zzf{β:Type}(L:Nat)(K:KT β):∀ (n:Nat) (z:Int) (A:Ls),zx (ze zbV (zbS L) 0 L zsQ) zwq n (zjT z A) K=zka L (fun z A=>K (.exit 0) (zor z A)) n z A:=by
 intro n; induction n <;> intros
 ·rfl
 ·exact (zPk ..).trans (by simp only [*]; rfl)
def zfM{β:Type}(L:Nat)(z:Ls→Ob β):Nat→Int→Ls→Int→Ob β
 | 0,_,_,_=>none
 | n+1,A,C,D=>zhG L A C D (fun A C D=>zfM L z n A C D) z
theorem zwo{β:Type}(L:Nat)(K:KT β):∀ (n:Nat) (A:Int) (z:Ls) (C:Int),zx (ze zbV (zbS L) 0 L zo5) zqL n (zir A z C) K=zfM L (fun z=>K (.exit 2) (zv9 z)) n A z C:=by
 intro n; induction n <;> intros
 ·rfl
 ·exact (zLE ..).trans (by simp only [*]; rfl)
def zj7{β:Type}(L:Nat)(C:Int)(z:Ls)(A:Ls→Ob β):Ob β:=zqK L C z (fun C z D=>zfM L (fun z=>znp L z A) L C z D)
theorem zJL{β:Type}(L:Nat)(z:Int)(A:Ls)(k:KK β):(xi 0 (yv (ze zbV (zbS L) 0 L zxR) (zD 0 (CF.res cf_ref03_Pad) k))) (.exit 0) (zor z A)=zj7 L z A (fun z=>k (V.gs 1 z) []):=by
 refine (zMG L z A k).trans ?_
 unfold zj7
 first
  | (simp only [zwo,zI7]; done)
  | (simp only [zwo]; rfl)
def zyr{β:Type}(L:Nat)(z:Int)(A:Ls→Ob β):Ob β:=zH8 L z (fun z C=>zka L (fun z C=>zj7 L z C A) L z C)
theorem zXT{β:Type}(L:Nat)(z:Int)(k:KK β):yh zbV (zbS L) L cf_ref03_Pad [(Qd z)] [] k=zyr L z (fun z=>k (V.gs 1 z) []):=by
 refine (zX0 L z k).trans ?_
 unfold zyr
 first
  | (simp only [zzf,zJL]; done)
  | (simp only [zzf]; rfl)
abbrev zaS:=∀ (β:Type),Nat→Int→(Ls→Ob β)→Ob β
def yu:zaS:=fun β=>@zyr β
def zH9(yu:zaS)(L:Nat):Dk:=dA (AI .u64) fun z=>d0 fun β k=>yu β L z (fun z=>k (V.gs 1 z) [])
theorem zW0(L:Nat):DK (zH9 yu L) (fun _=>yh zbV (zbS L) L cf_ref03_Pad):=xv zbN fun z=>yK fun _ k=>zXT L z k
def zyL:Hint:=⟨[],[],[none],[],[],false,false,[]⟩
def zEg:CF:=cfD zyL 151
def zsS:Nat→Sh:=zj []
def zsI(L:Nat):CBC:=noC
def zwk{β:Type}(L:Nat)(z:List V→Ob β):Ob β:=lt [(Qc (1779033703:Int)),(Qc (3144134277:Int)),(Qc (1013904242:Int)),(Qc (2773480762:Int)),(Qc (1359893119:Int)),(Qc (2600822924:Int)),(Qc (528734635:Int)),(Qc (1541459225:Int))] fun A=>chk (0=0∧(XK A)=8∧8≠0) (z A)
theorem zO2{β:Type}(L:Nat)(k:KK β):yh zsS (zsI L) L zEg [] [] k=zwk L (fun z=>k (V.agg z) []):=by kernel_rfl
abbrev y7:=∀ (β:Type),Nat→(List V→Ob β)→Ob β
def ym:y7:=fun β=>@zwk β
def zvM(ym:y7)(L:Nat):Dk:=d0 fun β k=>ym β L (fun z=>k (V.agg z) [])
theorem zO5(L:Nat):DK (zvM ym L) (fun _=>yh zsS (zsI L) L zEg):=yK fun _ k=>zO2 L k
def zlY:Hint:=⟨[],[],[none],[],[],false,false,[]⟩
def zot:CF:=cfD zlY 192
def zif:Nat→Sh:=zj []
def zh5(L:Nat):CBC:=noC
def ziP{β:Type}(L:Nat)(C E:Int)(z:Int→Ob β):Ob β:=lt (QG .u64 E) fun F=>lt (zgx .u64 F (31:Int)) fun A=>chk (0≤A) (lt (zgr .u32 C A) fun G=>lt (QG .u64 (((32:Int):Int)-A)) fun D=>chk (0≤D) (lt (zcN .u32 C D) fun H=>lt (ior .u32 G H) fun I=>z I))
theorem zze{β:Type}(L:Nat)(z A:Int)(k:KK β):yh zif (zh5 L) L zot [(Qc z),(Qe A)] [] k=ziP L z A (fun z=>k (Qc z) []):=by kernel_rfl
abbrev zbk:=∀ (β:Type),Nat→Int→Int→(Int→Ob β)→Ob β
def xx:zbk:=fun β=>@ziP β
def zfs(xx:zbk)(L:Nat):Dk:=dA (AI .u32) fun z=>dA (AI .i64) fun A=>d0 fun β k=>xx β L z A (fun z=>k (Qc z) [])
theorem zyE(L:Nat):DK (zfs xx L) (fun _=>yh zif (zh5 L) L zot):=xv zbN fun z=>xv zbN fun A=>yK fun _ k=>zze L z A k
def zHl:Hint:=⟨[],[],[none],[],[],false,false,[]⟩
def zNB:CF:=cfD zHl 178
def zAT:Nat→Sh:=zj []
def zz4(xx:zbk)(L:Nat):CBC:=(xe 572 (zfs xx L) noC)
def zDs{β:Type}(xx:zbk)(L:Nat)(A C:Int)(z:Int→Ob β):Ob β:=lt (QG .i64 (0-C)) fun D=>xx β L A D (fun E=>z E)
theorem zUP{β:Type}(xx:zbk)(L:Nat)(z A:Int)(k:KK β):yh zAT (zz4 xx L) L zNB [(Qc z),(Qe A)] [] k=zDs xx L z A (fun z=>k (Qc z) []):=by kernel_rfl
abbrev yT:=∀ (β:Type),Nat→Int→Int→(Int→Ob β)→Ob β
def zh:yT:=fun β=>@zDs β xx
def zvz(zh:yT)(L:Nat):Dk:=dA (AI .u32) fun z=>dA (AI .i64) fun A=>d0 fun β k=>zh β L z A (fun z=>k (Qc z) [])
theorem zVs(L:Nat):DK (zvz zh L) (fun _=>yh zAT (zz4 xx L) L zNB):=xv zbN fun z=>xv zbN fun A=>yK fun _ k=>zUP xx L z A k
def zwX:Hint:=⟨[],[],[none,some ((bl 30 97),(bl 158456325028528675187087900671 97)),none,some ((bl 12 97),(bl 158456325028528675187087900653 97)),none,none,some ((bl 44 97),(bl 158456315288573494874593034045 97)),none,some ((bl 12 97),(bl 158456315288573494874593034013 97)),none,none],[],[],false,false,[]⟩
def cf_ref03_schedule:CF:=cfD zwX 176
def zju:CC:=yz [1,1,1,0,1,0,0] cf_ref03_schedule.body
def zkz:CC:=yz [1,1,0,1,0,0] cf_ref03_schedule.body
def zvH:CC:=yz [1,1,1,1] cf_ref03_schedule.body
def znz:CC:=yz [1,1,1] cf_ref03_schedule.body
def zax:Nat→Sh:=zj [(16,(.int .u8)),(23,(.int .u8)),(31,(.int .u8)),(39,(.int .u8)),(50,(.int .u32)),(55,(.int .u32)),(61,(.int .u32)),(67,(.int .u32)),(72,(.int .u32)),(78,(.int .u32)),(85,(.int .u32)),(91,(.int .u32))]
def zay(zh:yT)(L:Nat):CBC:=(xe 571 (zvz zh L) noC)
def zlj:St→St:=yM 0 (bl 30 97) (bl 158456325028528675187087900671 97)
def zkn:St→St:=yM 0 (bl 44 97) (bl 158456315288573494874593034045 97)
def zfu(z:Int)(A C D:List V):St:=⟨(jn 1 ((V.ptr 1 0)::((V.ptr 2 0)::((V.ptr 3 0)::((Qe z)::(jn 92 [])))))),(gn 1 ((.live true A)::((.live true C)::((.live true D)::(gn 93 [])))))⟩
def zh3(z A:List V):St:=⟨(jn 2 ((V.ptr 2 0)::((V.ptr 3 0)::(jn 93 [])))),(gn 2 ((.live true z)::((.live true A)::(gn 93 []))))⟩
def ze6(z:Int)(A C:List V):St:=⟨(jn 2 ((V.ptr 2 0)::((V.ptr 3 0)::(jn 1 ((Qe z)::(jn 91 [])))))),(gn 2 ((.live true A)::((.live true C)::(gn 93 []))))⟩
def zma(z A:List V):St:=⟨(jn 2 ((V.ptr 2 0)::((V.ptr 3 0)::(jn 93 [])))),(gn 2 ((.live true z)::((.live true A)::(gn 93 []))))⟩
def zsH{β:Type}(zh:yT)(L:Nat)(A:List V)(z:Int→List V→List V→List V→Ob β):Ob β:=z (0:Int) A (We 64 (Qc (0:Int))) (We 64 (Qc (0:Int)))
theorem zN9{β:Type}(zh:yT)(L:Nat)(z:List V)(k:KK β):yh zax (zay zh L) L cf_ref03_schedule [(V.agg z)] [] k=zsH zh L z (fun A C D E=>zx (ze zax (zay zh L) 0 L zkz) zlj L (zfu A C D E) (xi 0 (yv (ze zax (zay zh L) 0 L znz) (zD 0 (CF.res cf_ref03_schedule) k)))):=by kernel_rfl
def zeT{β:Type}(zh:yT)(L:Nat)(z:Int)(C J F:List V)(A:Int→List V→List V→List V→Ob β)(G:List V→List V→Ob β):Ob β:=ifb (decide (z<(16:Int))) (lt (QG .i64 (((4:Int):Int)*z)) fun H=>chk (0≤H∧H<((64:Nat):Int)) (cI .u8 C (0+((XM H)*1)) fun Y=>lt (QG .u32 Y) fun Z=>lt (zgr .u32 Z (24:Int)) fun x3=>lt (QG .i64 (((4:Int):Int)*z)) fun x4=>lt (QG .i64 ((x4:Int)+(1:Int))) fun I=>chk (0≤I∧I<((64:Nat):Int)) (cI .u8 C (0+((XM I)*1)) fun v6=>lt (QG .u32 v6) fun x7=>lt (zgr .u32 x7 (16:Int)) fun x8=>lt (ior .u32 x3 x8) fun x9=>lt (QG .i64 (((4:Int):Int)*z)) fun M=>lt (QG .i64 ((M:Int)+(2:Int))) fun D=>chk (0≤D∧D<((64:Nat):Int)) (cI .u8 C (0+((XM D)*1)) fun N=>lt (QG .u32 N) fun O=>lt (zgr .u32 O (8:Int)) fun P=>lt (ior .u32 x9 P) fun Q=>lt (QG .i64 (((4:Int):Int)*z)) fun R=>lt (QG .i64 ((R:Int)+(3:Int))) fun E=>chk (0≤E∧E<((64:Nat):Int)) (cI .u8 C (0+((XM E)*1)) fun S=>lt (QG .u32 S) fun T=>lt (ior .u32 Q T) fun U=>chk (0≤z∧z<((64:Nat):Int)) (chk (1=1∧(0+((XM z)*1))+1≤(XK F)) (lt (zk F (0+((XM z)*1)) [(Qc U)]) fun W=>lt (QG .i64 ((z:Int)+(1:Int))) fun X=>A X C J W))))))) (G J F)
theorem zEI{β:Type}(zh:yT)(L:Nat)(C:Int)(D z A:List V)(X:St→Ob β)(K:KT β):ze zax (zay zh L) 0 L zkz (zfu C D z A) (yH zlj X K)=zeT zh L C D z A (fun C D z A=>X (zfu C D z A)) (fun z A=>K (.exit 0) (zh3 z A)):=by kernel_rfl
def zjs{β:Type}(zh:yT)(L:Nat)(A C:List V)(z:Int→List V→List V→Ob β):Ob β:=z (16:Int) A C
theorem zz5{β:Type}(zh:yT)(L:Nat)(z A:List V)(k:KK β):(xi 0 (yv (ze zax (zay zh L) 0 L znz) (zD 0 (CF.res cf_ref03_schedule) k))) (.exit 0) (zh3 z A)=zjs zh L z A (fun C z A=>zx (ze zax (zay zh L) 0 L zju) zkn L (ze6 C z A) (xi 2 (yv (ze zax (zay zh L) 0 L zvH) (zD 0 (CF.res cf_ref03_schedule) k)))):=by kernel_rfl
def zev{β:Type}(zh:yT)(L:Nat)(z:Int)(O A:List V)(C:Int→List V→List V→Ob β)(N:List V→List V→Ob β):Ob β:=ifb (decide (z<(64:Int))) (lt (QG .i64 ((z:Int)-(15:Int))) fun D=>chk (0≤D∧D<((64:Nat):Int)) (cI .u32 A (0+((XM D)*1)) fun P=>zh β L P (7:Int) (fun Q=>lt (QG .i64 ((z:Int)-(15:Int))) fun E=>chk (0≤E∧E<((64:Nat):Int)) (cI .u32 A (0+((XM E)*1)) fun R=>zh β L R (18:Int) (fun S=>lt (zdL .u32 Q S) fun T=>lt (QG .i64 ((z:Int)-(15:Int))) fun F=>chk (0≤F∧F<((64:Nat):Int)) (cI .u32 A (0+((XM F)*1)) fun U=>lt (zcN .u32 U (3:Int)) fun W=>lt (zdL .u32 T W) fun X=>lt (QG .i64 ((z:Int)-(2:Int))) fun G=>chk (0≤G∧G<((64:Nat):Int)) (cI .u32 A (0+((XM G)*1)) fun Y=>zh β L Y (17:Int) (fun Z=>lt (QG .i64 ((z:Int)-(2:Int))) fun H=>chk (0≤H∧H<((64:Nat):Int)) (cI .u32 A (0+((XM H)*1)) fun aa=>zh β L aa (19:Int) (fun ab=>lt (zdL .u32 Z ab) fun ac=>lt (QG .i64 ((z:Int)-(2:Int))) fun I=>chk (0≤I∧I<((64:Nat):Int)) (cI .u32 A (0+((XM I)*1)) fun ad=>lt (zcN .u32 ad (10:Int)) fun ae=>lt (zdL .u32 ac ae) fun af=>lt (QG .i64 ((z:Int)-(16:Int))) fun J=>chk (0≤J∧J<((64:Nat):Int)) (cI .u32 A (0+((XM J)*1)) fun ag=>lt (QG .u32 ((ag:Int)+X)) fun ah=>lt (QG .i64 ((z:Int)-(7:Int))) fun M=>chk (0≤M∧M<((64:Nat):Int)) (cI .u32 A (0+((XM M)*1)) fun ai=>lt (QG .u32 ((ah:Int)+ai)) fun aj=>lt (QG .u32 ((aj:Int)+af)) fun ak=>chk (0≤z∧z<((64:Nat):Int)) (chk (1=1∧(0+((XM z)*1))+1≤(XK A)) (lt (zk A (0+((XM z)*1)) [(Qc ak)]) fun al=>lt (QG .i64 ((z:Int)+(1:Int))) fun am=>C am O al))))))))))))))) (N O A)
theorem zB6{β:Type}(zh:yT)(L:Nat)(C:Int)(z A:List V)(X:St→Ob β)(K:KT β):ze zax (zay zh L) 0 L zju (ze6 C z A) (yH zkn X K)=zev zh L C z A (fun C z A=>X (ze6 C z A)) (fun z A=>K (.exit 2) (zma z A)):=by kernel_rfl
def ziR{β:Type}(zh:yT)(L:Nat)(D C:List V)(z:List V→Ob β):Ob β:=chk (0+64≤(XK C)) (chk ((XK (XL 64 C))=64∧0+64≤(XK D)) (lt (zk D 0 (XL 64 C)) fun A=>chk (0=0∧(XK A)=64∧64≠0) (z A)))
theorem zzE{β:Type}(zh:yT)(L:Nat)(z A:List V)(k:KK β):(xi 2 (yv (ze zax (zay zh L) 0 L zvH) (zD 0 (CF.res cf_ref03_schedule) k))) (.exit 2) (zma z A)=ziR zh L z A (fun C=>k (V.agg C) []):=by kernel_rfl
def zdq{β:Type}(zh:yT)(L:Nat)(z:List V→List V→Ob β):Nat→Int→List V→List V→List V→Ob β
 | 0,_,_,_,_=>none
 | n+1,A,C,D,E=>zeT zh L A C D E (fun A C D E=>zdq zh L z n A C D E) z
theorem zoN{β:Type}(zh:yT)(L:Nat)(K:KT β):∀ (n:Nat) (C:Int) (D z A:List V),zx (ze zax (zay zh L) 0 L zkz) zlj n (zfu C D z A) K=zdq zh L (fun z A=>K (.exit 0) (zh3 z A)) n C D z A:=by
 intro n; induction n <;> intros
 ·rfl
 ·exact (zEI ..).trans (by simp only [*]; rfl)
def zc2{β:Type}(zh:yT)(L:Nat)(z:List V→List V→Ob β):Nat→Int→List V→List V→Ob β
 | 0,_,_,_=>none
 | n+1,A,C,D=>zev zh L A C D (fun A C D=>zc2 zh L z n A C D) z
theorem zoj{β:Type}(zh:yT)(L:Nat)(K:KT β):∀ (n:Nat) (C:Int) (z A:List V),zx (ze zax (zay zh L) 0 L zju) zkn n (ze6 C z A) K=zc2 zh L (fun z A=>K (.exit 2) (zma z A)) n C z A:=by
 intro n; induction n <;> intros
 ·rfl
 ·exact (zB6 ..).trans (by simp only [*]; rfl)
def zfk{β:Type}(zh:yT)(L:Nat)(z A:List V)(C:List V→Ob β):Ob β:=zjs zh L z A (fun D z A=>zc2 zh L (fun z A=>ziR zh L z A C) L D z A)
theorem zzo{β:Type}(zh:yT)(L:Nat)(z A:List V)(k:KK β):(xi 0 (yv (ze zax (zay zh L) 0 L znz) (zD 0 (CF.res cf_ref03_schedule) k))) (.exit 0) (zh3 z A)=zfk zh L z A (fun C=>k (V.agg C) []):=by
 refine (zz5 zh L z A k).trans ?_
 unfold zfk
 first
  | (simp only [zoj,zzE]; done)
  | (simp only [zoj]; rfl)
def zmC{β:Type}(zh:yT)(L:Nat)(D:List V)(z:List V→Ob β):Ob β:=zsH zh L D (fun E F A C=>zdq zh L (fun A C=>zfk zh L A C z) L E F A C)
theorem zOs{β:Type}(zh:yT)(L:Nat)(z:List V)(k:KK β):yh zax (zay zh L) L cf_ref03_schedule [(V.agg z)] [] k=zmC zh L z (fun z=>k (V.agg z) []):=by
 refine (zN9 zh L z k).trans ?_
 unfold zmC
 first
  | (simp only [zoN,zzo]; done)
  | (simp only [zoN]; rfl)
abbrev za8:=∀ (β:Type),Nat→List V→(List V→Ob β)→Ob β
def xw:za8:=fun β=>@zmC β zh
def zsL(xw:za8)(L:Nat):Dk:=dA AG fun z=>d0 fun β k=>xw β L z (fun z=>k (V.agg z) [])
theorem zOc(L:Nat):DK (zsL xw L) (fun _=>yh zax (zay zh L) L cf_ref03_schedule):=xv zak fun z=>yK fun _ k=>zOs zh L z k
def zu6:Hint:=⟨[],[],[none],[],[],false,false,[]⟩
def zy8:CF:=cfD zu6 177
def zoy:Nat→Sh:=zj []
def zpo(L:Nat):CBC:=noC
def zq3{β:Type}(L:Nat)(z:List V→Ob β):Ob β:=lt [(Qc (1116352408:Int)),(Qc (1899447441:Int)),(Qc (3049323471:Int)),(Qc (3921009573:Int)),(Qc (961987163:Int)),(Qc (1508970993:Int)),(Qc (2453635748:Int)),(Qc (2870763221:Int)),(Qc (3624381080:Int)),(Qc (310598401:Int)),(Qc (607225278:Int)),(Qc (1426881987:Int)),(Qc (1925078388:Int)),(Qc (2162078206:Int)),(Qc (2614888103:Int)),(Qc (3248222580:Int)),(Qc (3835390401:Int)),(Qc (4022224774:Int)),(Qc (264347078:Int)),(Qc (604807628:Int)),(Qc (770255983:Int)),(Qc (1249150122:Int)),(Qc (1555081692:Int)),(Qc (1996064986:Int)),(Qc (2554220882:Int)),(Qc (2821834349:Int)),(Qc (2952996808:Int)),(Qc (3210313671:Int)),(Qc (3336571891:Int)),(Qc (3584528711:Int)),(Qc (113926993:Int)),(Qc (338241895:Int)),(Qc (666307205:Int)),(Qc (773529912:Int)),(Qc (1294757372:Int)),(Qc (1396182291:Int)),(Qc (1695183700:Int)),(Qc (1986661051:Int)),(Qc (2177026350:Int)),(Qc (2456956037:Int)),(Qc (2730485921:Int)),(Qc (2820302411:Int)),(Qc (3259730800:Int)),(Qc (3345764771:Int)),(Qc (3516065817:Int)),(Qc (3600352804:Int)),(Qc (4094571909:Int)),(Qc (275423344:Int)),(Qc (430227734:Int)),(Qc (506948616:Int)),(Qc (659060556:Int)),(Qc (883997877:Int)),(Qc (958139571:Int)),(Qc (1322822218:Int)),(Qc (1537002063:Int)),(Qc (1747873779:Int)),(Qc (1955562222:Int)),(Qc (2024104815:Int)),(Qc (2227730452:Int)),(Qc (2361852424:Int)),(Qc (2428436474:Int)),(Qc (2756734187:Int)),(Qc (3204031479:Int)),(Qc (3329325298:Int))] fun A=>chk (0=0∧(XK A)=64∧64≠0) (z A)
theorem zLw{β:Type}(L:Nat)(k:KK β):yh zoy (zpo L) L zy8 [] [] k=zq3 L (fun z=>k (V.agg z) []):=by kernel_rfl
abbrev zaW:=∀ (β:Type),Nat→(List V→Ob β)→Ob β
def xu:zaW:=fun β=>@zq3 β
def zro(xu:zaW)(L:Nat):Dk:=d0 fun β k=>xu β L (fun z=>k (V.agg z) [])
theorem zMn(L:Nat):DK (zro xu L) (fun _=>yh zoy (zpo L) L zy8):=yK fun _ k=>zLw L k
def zw0:Hint:=⟨[],[],[none,some ((bl 65524 133),(bl 10889035741470030808987042129089031634935 133)),none,some ((bl 32660 133),(bl 10889035741470030808987042129089031602071 133)),none,none],[],[],false,false,[]⟩
def cf_ref03_Compress:CF:=cfD zw0 152
def zjq:CC:=yz [1,1,1,0,1,0,0] cf_ref03_Compress.body
def zvO:CC:=yz [1,1,1,1] cf_ref03_Compress.body
def zck:Nat→Sh:=zj [(22,(.int .u32)),(24,(.int .u32)),(26,(.int .u32)),(28,(.int .u32)),(30,(.int .u32)),(32,(.int .u32)),(34,(.int .u32)),(36,(.int .u32)),(62,(.int .u32)),(66,(.int .u32)),(101,(.int .u32)),(105,(.int .u32)),(109,(.int .u32)),(113,(.int .u32)),(117,(.int .u32)),(121,(.int .u32)),(125,(.int .u32)),(129,(.int .u32))]
def zcm(xw:za8)(xu:zaW)(zh:yT)(L:Nat):CBC:=(xe 571 (zvz zh L) (xe 570 (zro xu L) (xe 569 (zsL xw L) noC)))
def zkw:St→St:=yM 0 (bl 65524 133) (bl 10889035741470030808987042129089031634935 133)
def ze4(Q R S I J M N O P:Int)(T:List V)(z A C D E F G H:Int)(U W:List V):St:=⟨(jn 2 ((V.ptr 2 0)::(jn 1 ((V.ptr 4 0)::((V.ptr 5 0)::((V.ptr 6 0)::((Qc Q)::((Qc R)::((Qc S)::((Qc I)::((Qc J)::((Qc M)::((Qc N)::((Qc O)::((Qe P)::(jn 117 [])))))))))))))))),(gn 2 ((.live true T)::(gn 1 ((.live true [(Qc z),(Qc A),(Qc C),(Qc D),(Qc E),(Qc F),(Qc G),(Qc H)])::((.live true U)::((.live true W)::(gn 126 [])))))))⟩
def zmB(P Q R I J M N O:Int)(S:List V)(z A C D E F G H:Int):St:=⟨(jn 2 ((V.ptr 2 0)::(jn 1 ((V.ptr 4 0)::(jn 2 ((Qc P)::((Qc Q)::((Qc R)::((Qc I)::((Qc J)::((Qc M)::((Qc N)::((Qc O)::(jn 118 [])))))))))))))),(gn 2 ((.live true S)::(gn 1 ((.live true [(Qc z),(Qc A),(Qc C),(Qc D),(Qc E),(Qc F),(Qc G),(Qc H)])::(gn 128 [])))))⟩
abbrev zjv(β:Type):Type:=Int→Int→Int→Int→Int→Int→Int→Int→Int→List V→Int→Int→Int→Int→Int→Int→Int→Int→List V→List V→Ob β
abbrev zjQ(β:Type):Type:=Int→Int→Int→Int→Int→Int→Int→Int→List V→Int→Int→Int→Int→Int→Int→Int→Int→Ob β
def zs6{β:Type}(xw:za8)(xu:zaW)(zh:yT)(L:Nat)(z C:List V)(A:zjv β):Ob β:=chk (0+64≤(XK C)) (xw β L (XL 64 C) (fun D=>xu β L  (fun E=>chk ((XK D)=64∧0+64≤64) (lt (zk (We 64 (Qc (0:Int))) 0 D) fun H=>chk ((XK E)=64∧0+64≤64) (lt (zk (We 64 (Qc (0:Int))) 0 E) fun I=>cI .u32 z 0 fun J=>cI .u32 z 1 fun M=>cI .u32 z 2 fun N=>cI .u32 z 3 fun O=>cI .u32 z 4 fun P=>cI .u32 z 5 fun Q=>cI .u32 z 6 fun F=>cI .u32 z 7 fun G=>A J M N O P Q F G (0:Int) z (0:Int) (0:Int) (0:Int) (0:Int) (0:Int) (0:Int) (0:Int) (0:Int) H I)))))
theorem zOi{β:Type}(xw:za8)(xu:zaW)(zh:yT)(L:Nat)(I J:List V)(k:KK β):yh zck (zcm xw xu zh L) L cf_ref03_Compress [(V.agg I),(V.agg J)] [] k=zs6 xw xu zh L I J (fun S T U M N O P Q R W z A C D E F G H X Y=>zx (ze zck (zcm xw xu zh L) 0 L zjq) zkw L (ze4 S T U M N O P Q R W z A C D E F G H X Y) (xi 0 (yv (ze zck (zcm xw xu zh L) 0 L zvO) (zD 0 (CF.res cf_ref03_Compress) k)))):=by kernel_rfl
def zet{β:Type}(xw:za8)(xu:zaW)(zh:yT)(L:Nat)(D Q R S A E F T z:Int)(X:List V)(G H I J M N O P:Int)(Y Z:List V)(C:zjv β)(W:zjQ β):Ob β:=ifb (decide (z<(64:Int))) (zh β L A (6:Int) (fun aa=>zh β L A (11:Int) (fun ab=>lt (zdL .u32 aa ab) fun ac=>zh β L A (25:Int) (fun ad=>lt (zdL .u32 ac ad) fun ae=>lt (QG .u32 ((T:Int)+ae)) fun af=>lt (zgx .u32 A E) fun ag=>lt (z1F .u32 A) fun ah=>lt (zgx .u32 ah F) fun ai=>lt (zdL .u32 ag ai) fun aj=>lt (QG .u32 ((af:Int)+aj)) fun ak=>chk (0≤z∧z<((64:Nat):Int)) (cI .u32 Z (0+((XM z)*1)) fun al=>lt (QG .u32 ((ak:Int)+al)) fun am=>chk (0≤z∧z<((64:Nat):Int)) (cI .u32 Y (0+((XM z)*1)) fun an=>lt (QG .u32 ((am:Int)+an)) fun U=>zh β L D (2:Int) (fun ao=>zh β L D (13:Int) (fun ap=>lt (zdL .u32 ao ap) fun aq=>zh β L D (22:Int) (fun ar=>lt (zdL .u32 aq ar) fun au=>lt (zgx .u32 D Q) fun av=>lt (zgx .u32 D R) fun aw=>lt (zdL .u32 av aw) fun ax=>lt (zgx .u32 Q R) fun ay=>lt (zdL .u32 ax ay) fun az=>lt (QG .u32 ((au:Int)+az)) fun aC=>lt (QG .u32 ((S:Int)+U)) fun aD=>lt (QG .u32 ((U:Int)+aC)) fun aE=>lt (QG .i64 ((z:Int)+(1:Int))) fun aH=>C aE D Q R aD A E F aH X G H I J M N O P Y Z))))))))) (W D Q R S A E F T X G H I J M N O P)
theorem zCl{β:Type}(xw:za8)(xu:zaW)(zh:yT)(L:Nat)(Q R S I J M N O P:Int)(T:List V)(z A C D E F G H:Int)(U W:List V)(X:St→Ob β)(K:KT β):ze zck (zcm xw xu zh L) 0 L zjq (ze4 Q R S I J M N O P T z A C D E F G H U W) (yH zkw X K)=zet xw xu zh L Q R S I J M N O P T z A C D E F G H U W (fun Q R S I J M N O P T z A C D E F G H U W=>X (ze4 Q R S I J M N O P T z A C D E F G H U W)) (fun Q R S I J M N O T z A C D E F G H=>K (.exit 0) (zmB Q R S I J M N O T z A C D E F G H)):=by kernel_rfl
def zfp{β:Type}(xw:za8)(xu:zaW)(zh:yT)(L:Nat)(p7 p8 p9 D E F G H:Int)(z:List V)(ae af ag ah ai aj ak al:Int)(A:List V→Ob β):Ob β:=cI .u32 z 0 fun I=>lt (QG .u32 ((I:Int)+p7)) fun J=>cI .u32 z 1 fun M=>lt (QG .u32 ((M:Int)+p8)) fun N=>cI .u32 z 2 fun O=>lt (QG .u32 ((O:Int)+p9)) fun P=>cI .u32 z 3 fun Q=>lt (QG .u32 ((Q:Int)+D)) fun R=>cI .u32 z 4 fun S=>lt (QG .u32 ((S:Int)+E)) fun T=>cI .u32 z 5 fun U=>lt (QG .u32 ((U:Int)+F)) fun W=>cI .u32 z 6 fun X=>lt (QG .u32 ((X:Int)+G)) fun Y=>cI .u32 z 7 fun Z=>lt (QG .u32 ((Z:Int)+H)) fun aa=>lt [(Qc J),(Qc N),(Qc P),(Qc R),(Qc T),(Qc W),(Qc Y),(Qc aa)] fun C=>chk (0=0∧(XK C)=8∧8≠0) (A C)
theorem zy5{β:Type}(xw:za8)(xu:zaW)(zh:yT)(L:Nat)(P Q R I J M N O:Int)(S:List V)(z A C D E F G H:Int)(k:KK β):(xi 0 (yv (ze zck (zcm xw xu zh L) 0 L zvO) (zD 0 (CF.res cf_ref03_Compress) k))) (.exit 0) (zmB P Q R I J M N O S z A C D E F G H)=zfp xw xu zh L P Q R I J M N O S z A C D E F G H (fun T=>k (V.agg T) []):=by kernel_rfl
def zcO{β:Type}(xw:za8)(xu:zaW)(zh:yT)(L:Nat)(I:zjQ β):Nat→Int→Int→Int→Int→Int→Int→Int→Int→Int→List V→Int→Int→Int→Int→Int→Int→Int→Int→List V→List V→Ob β
 | 0,_,_,_,_,_,_,_,_,_,_,_,_,_,_,_,_,_,_,_,_=>none
 | n+1,R,S,T,J,M,N,O,P,Q,U,z,A,C,D,E,F,G,H,W,X=>zet xw xu zh L R S T J M N O P Q U z A C D E F G H W X (fun R S T J M N O P Q U z A C D E F G H W X=>zcO xw xu zh L I n R S T J M N O P Q U z A C D E F G H W X) I
theorem zon{β:Type}(xw:za8)(xu:zaW)(zh:yT)(L:Nat)(K:KT β):∀ (n:Nat) (P Q R I J M N O T:Int) (S:List V) (z A C D E F G H:Int) (U W:List V),zx (ze zck (zcm xw xu zh L) 0 L zjq) zkw n (ze4 P Q R I J M N O T S z A C D E F G H U W) K=zcO xw xu zh L (fun P Q R I J M N O S z A C D E F G H=>K (.exit 0) (zmB P Q R I J M N O S z A C D E F G H)) n P Q R I J M N O T S z A C D E F G H U W:=by
 intro n; induction n <;> intros
 ·rfl
 ·exact (zCl ..).trans (by simp only [*]; rfl)
def zmP{β:Type}(xw:za8)(xu:zaW)(zh:yT)(L:Nat)(W X:List V)(P:List V→Ob β):Ob β:=zs6 xw xu zh L W X (fun Q R S I J M N O U T z A C D E F G H Y Z=>zcO xw xu zh L (fun Q R S I J M N O T z A C D E F G H=>zfp xw xu zh L Q R S I J M N O T z A C D E F G H P) L Q R S I J M N O U T z A C D E F G H Y Z)
theorem zOr{β:Type}(xw:za8)(xu:zaW)(zh:yT)(L:Nat)(z A:List V)(k:KK β):yh zck (zcm xw xu zh L) L cf_ref03_Compress [(V.agg z),(V.agg A)] [] k=zmP xw xu zh L z A (fun z=>k (V.agg z) []):=by
 refine (zOi xw xu zh L z A k).trans ?_
 unfold zmP
 first
  | (simp only [zon,zy5]; done)
  | (simp only [zon]; rfl)
abbrev zZ:=∀ (β:Type),Nat→List V→List V→(List V→Ob β)→Ob β
def zl:zZ:=fun β=>@zmP β xw xu zh
def zs0(zl:zZ)(L:Nat):Dk:=dA AG fun z=>dA AG fun A=>d0 fun β k=>zl β L z A (fun z=>k (V.agg z) [])
theorem zOb(L:Nat):DK (zs0 zl L) (fun _=>yh zck (zcm xw xu zh L) L cf_ref03_Compress):=xv zak fun z=>xv zak fun A=>yK fun _ k=>zOr xw xu zh L z A k
def zKs:Hint:=⟨[(1,7)],[],[none,some ((bl 60 66),(bl 73786976290004270911 66)),none,some ((bl 20 66),(bl 73786976290004270879 66)),none,none,some ((bl 25769803908 66),(bl 73786976294838205615 66)),none,some ((bl 132 66),(bl 73786976294838205615 66)),none,none],[],[],false,false,[]⟩
def cf_ref03_Sum:CF:=cfD zKs 94
def zmH:CC:=yz [1,1,1,1,1,0,1,0,0] cf_ref03_Sum.body
def zpK:CC:=yz [1,1,1,0,1,0,0] cf_ref03_Sum.body
def zBF:CC:=yz [1,1,1,1,1,1] cf_ref03_Sum.body
def zuC:CC:=yz [1,1,1,1] cf_ref03_Sum.body
def zbP:Nat→Sh:=zj [(37,(.int .u32))]
def zbT(yu:zaS)(ym:y7)(zl:zZ)(L:Nat):CBC:=(xe 533 (zs0 zl L) (xe 532 (zvM ym L) (xe 531 (zH9 yu L) noC)))
def zri:St→St:=yM 0 (bl 60 66) (bl 73786976290004270911 66)
def zn2:St→St:=yM 0 (bl 25769803908 66) (bl 73786976294838205615 66)
def zh4(z:Ls)(A:Int)(C D:List V):St:=⟨(jn 2 ((V.ptr 2 0)::((V.gs 1 z)::((V.ptr 4 0)::((Qe A)::(jn 60 [])))))),(gn 2 ((.live true C)::(gn 1 ((.live true D)::(gn 61 [])))))⟩
def zoa(z A:List V):St:=⟨(jn 2 ((V.ptr 2 0)::(jn 1 ((V.ptr 4 0)::(jn 61 []))))),(gn 2 ((.live true z)::(gn 1 ((.live true A)::(gn 61 [])))))⟩
def zgG(z:List V)(A:Int)(C D:List V):St:=⟨(jn 2 ((V.ptr 2 0)::(jn 4 ((V.ptr 7 0)::(jn 25 ((V.agg z)::((Qe A)::(jn 31 [])))))))),(gn 2 ((.live true C)::(gn 4 ((.live true D)::(gn 58 [])))))⟩
def zug(z A:List V):St:=⟨(jn 2 ((V.ptr 2 0)::(jn 4 ((V.ptr 7 0)::(jn 58 []))))),(gn 2 ((.live true z)::(gn 4 ((.live true A)::(gn 58 [])))))⟩
def zI1{β:Type}(yu:zaS)(ym:y7)(zl:zZ)(L:Nat)(A:Ls)(z:Ls→Int→List V→List V→Ob β):Ob β:=chk ((XK ([]:Ls)+XK A)*1≤xm∧XK ([]:Ls)+XK A≤xm) (lt (([]:Ls)++A) fun C=>lt (QG .u64 ((XK A:Nat):Int)) fun F=>yu β L F (fun D=>chk ((XK C+XK D)*1≤xm∧XK C+XK D≤xm) (lt (C++D) fun G=>ym β L  (fun E=>chk ((XK E)=8∧0+8≤8) (lt (zk [(Qc (0:Int)),(Qc (0:Int)),(Qc (0:Int)),(Qc (0:Int)),(Qc (0:Int)),(Qc (0:Int)),(Qc (0:Int)),(Qc (0:Int))] 0 E) fun H=>z G (0:Int) (We 32 (Qa (0:Int))) H)))))
theorem zXB{β:Type}(yu:zaS)(ym:y7)(zl:zZ)(L:Nat)(z:Ls)(k:KK β):yh zbP (zbT yu ym zl L) L cf_ref03_Sum [(V.sl 1 z)] [] k=zI1 yu ym zl L z (fun A C D E=>zx (ze zbP (zbT yu ym zl L) 0 L zpK) zri L (zh4 A C D E) (xi 0 (yv (ze zbP (zbT yu ym zl L) 0 L zuC) (zD 0 (CF.res cf_ref03_Sum) k)))):=by kernel_rfl
def zhS{β:Type}(yu:zaS)(ym:y7)(zl:zZ)(L:Nat)(C:Ls)(z:Int)(F D:List V)(A:Ls→Int→List V→List V→Ob β)(E:List V→List V→Ob β):Ob β:=lt (QG .i64 ((z:Int)+(64:Int))) fun J=>ifb (decide (J≤((XK C:Nat):Int))) (chk (0≤z∧z≤(((XK C):Nat):Int)) (lt (zk (We 64 (Qa (0:Int))) 0 (XN (XL (min (XK (XL ((XK C)-(XM z)) (List.drop (XM z) C))) 64) (XL ((XK C)-(XM z)) (List.drop (XM z) C))))) fun G=>chk (0+8≤(XK D)) (chk (0+64≤(XK G)) (zl β L (XL 8 D) (XL 64 G) (fun H=>chk ((XK H)=8∧0+8≤(XK D)) (lt (zk D 0 H) fun M=>lt (QG .i64 ((z:Int)+(64:Int))) fun I=>A C I F M)))))) (E F D)
theorem zL2{β:Type}(yu:zaS)(ym:y7)(zl:zZ)(L:Nat)(C:Ls)(D:Int)(z A:List V)(X:St→Ob β)(K:KT β):ze zbP (zbT yu ym zl L) 0 L zpK (zh4 C D z A) (yH zri X K)=zhS yu ym zl L C D z A (fun C D z A=>X (zh4 C D z A)) (fun z A=>K (.exit 0) (zoa z A)):=by kernel_rfl
def znQ{β:Type}(yu:zaS)(ym:y7)(zl:zZ)(L:Nat)(C A:List V)(z:List V→Int→List V→List V→Ob β):Ob β:=chk (0+8≤(XK A)) (z (XL 8 A) (0:Int) C (We 32 (Qa (0:Int))))
theorem zIw{β:Type}(yu:zaS)(ym:y7)(zl:zZ)(L:Nat)(z A:List V)(k:KK β):(xi 0 (yv (ze zbP (zbT yu ym zl L) 0 L zuC) (zD 0 (CF.res cf_ref03_Sum) k))) (.exit 0) (zoa z A)=znQ yu ym zl L z A (fun C D z E=>zx (ze zbP (zbT yu ym zl L) 0 L zmH) zn2 L (zgG C D z E) (xi 2 (yv (ze zbP (zbT yu ym zl L) 0 L zBF) (zD 0 (CF.res cf_ref03_Sum) k)))):=by kernel_rfl
def zf9{β:Type}(yu:zaS)(ym:y7)(zl:zZ)(L:Nat)(H:List V)(z:Int)(P N:List V)(A:List V→Int→List V→List V→Ob β)(O:List V→List V→Ob β):Ob β:=ifb (decide (z<(8:Int))) (chk (0≤z∧z<((8:Nat):Int)) (cI .u32 H ((XM z)*1) fun C=>lt (QG .i64 (((4:Int):Int)*z)) fun D=>lt (QG .i64 (((4:Int):Int)*z)) fun Q=>lt (QG .i64 ((Q:Int)+(1:Int))) fun E=>lt (QG .i64 (((4:Int):Int)*z)) fun R=>lt (QG .i64 ((R:Int)+(2:Int))) fun F=>lt (QG .i64 (((4:Int):Int)*z)) fun S=>lt (QG .i64 ((S:Int)+(3:Int))) fun G=>lt (zcN .u32 C (24:Int)) fun T=>lt (QG .u8 T) fun U=>lt (zcN .u32 C (16:Int)) fun W=>lt (QG .u8 W) fun X=>lt (zcN .u32 C (8:Int)) fun Y=>lt (QG .u8 Y) fun Z=>lt (QG .u8 C) fun aa=>chk (0≤D∧D<((32:Nat):Int)) (chk (1=1∧(0+((XM D)*1))+1≤(XK N)) (lt (zk N (0+((XM D)*1)) [(Qa U)]) fun I=>chk (0≤E∧E<((32:Nat):Int)) (chk (1=1∧(0+((XM E)*1))+1≤(XK I)) (lt (zk I (0+((XM E)*1)) [(Qa X)]) fun J=>chk (0≤F∧F<((32:Nat):Int)) (chk (1=1∧(0+((XM F)*1))+1≤(XK J)) (lt (zk J (0+((XM F)*1)) [(Qa Z)]) fun M=>chk (0≤G∧G<((32:Nat):Int)) (chk (1=1∧(0+((XM G)*1))+1≤(XK M)) (lt (zk M (0+((XM G)*1)) [(Qa aa)]) fun ab=>lt (QG .i64 ((z:Int)+(1:Int))) fun ac=>A H ac P ab)))))))))) (O P N)
theorem zIK{β:Type}(yu:zaS)(ym:y7)(zl:zZ)(L:Nat)(z:List V)(A:Int)(C D:List V)(X:St→Ob β)(K:KT β):ze zbP (zbT yu ym zl L) 0 L zmH (zgG z A C D) (yH zn2 X K)=zf9 yu ym zl L z A C D (fun z A C D=>X (zgG z A C D)) (fun C D=>K (.exit 2) (zug C D)):=by kernel_rfl
def zlI{β:Type}(yu:zaS)(ym:y7)(zl:zZ)(L:Nat)(D C:List V)(z:List V→Ob β):Ob β:=chk (0+32≤(XK C)) (chk ((XK (XL 32 C))=32∧0+32≤(XK D)) (lt (zk D 0 (XL 32 C)) fun A=>chk (0=0∧(XK A)=32∧32≠0) (z A)))
theorem zDi{β:Type}(yu:zaS)(ym:y7)(zl:zZ)(L:Nat)(z A:List V)(k:KK β):(xi 2 (yv (ze zbP (zbT yu ym zl L) 0 L zBF) (zD 0 (CF.res cf_ref03_Sum) k))) (.exit 2) (zug z A)=zlI yu ym zl L z A (fun C=>k (V.agg C) []):=by kernel_rfl
def zfK{β:Type}(yu:zaS)(ym:y7)(zl:zZ)(L:Nat)(z:List V→List V→Ob β):Nat→Ls→Int→List V→List V→Ob β
 | 0,_,_,_,_=>none
 | n+1,A,C,D,E=>zhS yu ym zl L A C D E (fun A C D E=>zfK yu ym zl L z n A C D E) z
theorem zuL{β:Type}(yu:zaS)(ym:y7)(zl:zZ)(L:Nat)(K:KT β):∀ (n:Nat) (C:Ls) (D:Int) (z A:List V),zx (ze zbP (zbT yu ym zl L) 0 L zpK) zri n (zh4 C D z A) K=zfK yu ym zl L (fun z A=>K (.exit 0) (zoa z A)) n C D z A:=by
 intro n; induction n <;> intros
 ·rfl
 ·exact (zL2 ..).trans (by simp only [*]; rfl)
def zeq{β:Type}(yu:zaS)(ym:y7)(zl:zZ)(L:Nat)(z:List V→List V→Ob β):Nat→List V→Int→List V→List V→Ob β
 | 0,_,_,_,_=>none
 | n+1,A,C,D,E=>zf9 yu ym zl L A C D E (fun A C D E=>zeq yu ym zl L z n A C D E) z
theorem zrN{β:Type}(yu:zaS)(ym:y7)(zl:zZ)(L:Nat)(K:KT β):∀ (n:Nat) (C:List V) (D:Int) (z A:List V),zx (ze zbP (zbT yu ym zl L) 0 L zmH) zn2 n (zgG C D z A) K=zeq yu ym zl L (fun z A=>K (.exit 2) (zug z A)) n C D z A:=by
 intro n; induction n <;> intros
 ·rfl
 ·exact (zIK ..).trans (by simp only [*]; rfl)
def zhX{β:Type}(yu:zaS)(ym:y7)(zl:zZ)(L:Nat)(z F:List V)(A:List V→Ob β):Ob β:=znQ yu ym zl L z F (fun D E z C=>zeq yu ym zl L (fun z C=>zlI yu ym zl L z C A) L D E z C)
theorem zFp{β:Type}(yu:zaS)(ym:y7)(zl:zZ)(L:Nat)(z A:List V)(k:KK β):(xi 0 (yv (ze zbP (zbT yu ym zl L) 0 L zuC) (zD 0 (CF.res cf_ref03_Sum) k))) (.exit 0) (zoa z A)=zhX yu ym zl L z A (fun C=>k (V.agg C) []):=by
 refine (zIw yu ym zl L z A k).trans ?_
 unfold zhX
 first
  | (simp only [zrN,zDi]; done)
  | (simp only [zrN]; rfl)
def zyj{β:Type}(yu:zaS)(ym:y7)(zl:zZ)(L:Nat)(D:Ls)(z:List V→Ob β):Ob β:=zI1 yu ym zl L D (fun E F A C=>zfK yu ym zl L (fun A C=>zhX yu ym zl L A C z) L E F A C)
theorem zXp{β:Type}(yu:zaS)(ym:y7)(zl:zZ)(L:Nat)(z:Ls)(k:KK β):yh zbP (zbT yu ym zl L) L cf_ref03_Sum [(V.sl 1 z)] [] k=zyj yu ym zl L z (fun z=>k (V.agg z) []):=by
 refine (zXB yu ym zl L z k).trans ?_
 unfold zyj
 first
  | (simp only [zuL,zFp]; done)
  | (simp only [zuL]; rfl)
abbrev zix:=∀ (β:Type),Nat→Ls→(List V→Ob β)→Ob β
def zX:zix:=fun β=>@zyj β yu ym zl
def zr0(zX:zix)(L:Nat):Dk:=dA (AL 1) fun z=>d0 fun β k=>zX β L z (fun z=>k (V.agg z) [])
theorem zW9(L:Nat):DK (zr0 zX L) (fun _=>yh zbP (zbT yu ym zl L) L cf_ref03_Sum):=xv zaZ fun z=>yK fun _ k=>zXp yu ym zl L z k
def zBA:Hint:=⟨[],[],[none],[],[],false,false,[]⟩
def zGT:CF:=cfD zBA 54
def zuf:Nat→Sh:=zj []
def zup(zX:zix)(L:Nat):CBC:=(xe 494 (zr0 zX L) noC)
def zxY{β:Type}(zX:zix)(L:Nat)(H:Ls)(z:List V→Ob β):Ob β:=zX β L H (fun C=>chk ((XK C)=32∧0+32≤32) (lt (zk (We 32 (Qa (0:Int))) 0 C) fun A=>chk (0+32*1≤(XK A)) (ifb (List.isEmpty A) (zX β L (yl 1 32 A) (fun D=>chk ((XK D)=32∧0+32≤32) (lt (zk (We 32 (Qa (0:Int))) 0 D) fun E=>chk (0=0∧(XK E)=32∧32≠0) (z E)))) (zX β L (yl 1 32 A) (fun F=>chk ((XK F)=32∧0+32≤32) (lt (zk (We 32 (Qa (0:Int))) 0 F) fun G=>chk (0=0∧(XK G)=32∧32≠0) (z G)))))))
theorem zRD{β:Type}(zX:zix)(L:Nat)(z:Ls)(k:KK β):yh zuf (zup zX L) L zGT [(V.sl 1 z)] [] k=zxY zX L z (fun z=>k (V.agg z) []):=by kernel_rfl
abbrev zcP:=∀ (β:Type),Nat→Ls→(List V→Ob β)→Ob β
def yJ:zcP:=fun β=>@zxY β zX
def ziJ(yJ:zcP)(L:Nat):Dk:=dA (AL 1) fun z=>d0 fun β k=>yJ β L z (fun z=>k (V.agg z) [])
theorem zRb(L:Nat):DK (ziJ yJ L) (fun _=>yh zuf (zup zX L) L zGT):=xv zaZ fun z=>yK fun _ k=>zRD zX L z k
def zFN:Hint:=⟨[(0,0)],[],[none,none,none],[],[],false,false,[]⟩
def zAo:CF:=cfD zFN 22
def zA0:Nat→Sh:=zj []
def zAP(yc:zt)(yd:xD)(yJ:zcP)(L:Nat):CBC:=(xe 454 (ziJ yJ L) (xe 149 (zeR yd L) (xe 148 (zeC yc L) noC)))
def zEr{β:Type}(yc:zt)(yd:xD)(yJ:zcP)(L:Nat)(A:List V)(z:List V→Ob β):Ob β:=chk (0+4≤(XK A)) (yc β L (Xv V.dem (XL 4 A)) (fun F=>ifb (!F) (lt (We 32 (Qa (0:Int))) fun C=>chk (0=0∧(XK C)=32∧32≠0) (z C)) (chk (0+4≤(XK A)) (yd β L (Xv V.dem (XL 4 A)) true (fun G=>yJ β L G (fun D=>chk ((XK D)=32∧0+32≤32) (lt (zk (We 32 (Qa (0:Int))) 0 D) fun E=>chk (0=0∧(XK E)=32∧32≠0) (z E))))))))
theorem zVH{β:Type}(yc:zt)(yd:xD)(yJ:zcP)(L:Nat)(z:List V)(k:KK β):yh zA0 (zAP yc yd yJ L) L zAo [(V.agg z)] [] k=zEr yc yd yJ L z (fun z=>k (V.agg z) []):=by kernel_rfl
abbrev zct:=∀ (β:Type),Nat→List V→(List V→Ob β)→Ob β
def yI:zct:=fun β=>@zEr β yc yd yJ
def zEN(yI:zct)(L:Nat):Dk:=dA AG fun z=>d0 fun β k=>yI β L z (fun z=>k (V.agg z) [])
theorem zUR(L:Nat):DK (zEN yI L) (fun _=>yh zA0 (zAP yc yd yJ L) L zAo):=xv zak fun z=>yK fun _ k=>zVH yc yd yJ L z k
def zG2:Hint:=⟨[(0,0),(1,0),(5,3),(7,0),(7,1)],[],[none,some ((bl 456 17),(bl 114655 17)),none,some ((bl 8 17),(bl 114655 17)),none,none],[],[],false,false,[]⟩
def cf_ref01_Join:CF:=cfD zG2 98
def zoA:CC:=yz [1,1,0,1,0,0] cf_ref01_Join.body
def zGV:CC:=yz [1,1,1] cf_ref01_Join.body
def zeK:Nat→Sh:=zj [(11,(.sl 1))]
def zeG(yg:xR)(L:Nat):CBC:=(xe 193 (zeS yg L) noC)
def zrj:St→St:=yM 0 (bl 456 17) (bl 114655 17)
def zip(z A:Ls)(C D:Int):St:=⟨(jn 3 ((V.gs 1 z)::(jn 2 ((V.sl 1 A)::((Qe C)::((Qe D)::(jn 8 []))))))),(gn 17 [])⟩
def ztg(z:Ls):St:=⟨(jn 3 ((V.gs 1 z)::(jn 13 []))),(gn 17 [])⟩
def zEp{β:Type}(yg:xR)(L:Nat)(A:Ls)(z:Ls→Ls→Int→Int→Ob β):Ob β:=z ([]:Ls) A ((XK A:Nat):Int) (0:Int)
theorem zUL{β:Type}(yg:xR)(L:Nat)(z:Ls)(k:KK β):yh zeK (zeG yg L) L cf_ref01_Join [(V.sl 1 z)] [] k=zEp yg L z (fun A C D E=>zx (ze zeK (zeG yg L) 0 L zoA) zrj L (zip A C D E) (xi 0 (yv (ze zeK (zeG yg L) 0 L zGV) (zD 0 (CF.res cf_ref01_Join) k)))):=by kernel_rfl
def zqO{β:Type}(yg:xR)(L:Nat)(D E:Ls)(F A:Int)(z:Ls→Ls→Int→Int→Ob β)(C:Ls→Ob β):Ob β:=ifb (decide (A<F)) (idx E A fun G=>cL 1 G 0 fun H=>yg β L D H (fun I=>lt (QG .i64 ((A:Int)+(1:Int))) fun J=>z I E F J)) (C D)
theorem zMN{β:Type}(yg:xR)(L:Nat)(z A:Ls)(C D:Int)(X:St→Ob β)(K:KT β):ze zeK (zeG yg L) 0 L zoA (zip z A C D) (yH zrj X K)=zqO yg L z A C D (fun z A C D=>X (zip z A C D)) (fun z=>K (.exit 0) (ztg z)):=by kernel_rfl
def zwW{β:Type}(yg:xR)(L:Nat)(A:Ls)(z:Ls→Ob β):Ob β:=z A
theorem zHT{β:Type}(yg:xR)(L:Nat)(z:Ls)(k:KK β):(xi 0 (yv (ze zeK (zeG yg L) 0 L zGV) (zD 0 (CF.res cf_ref01_Join) k))) (.exit 0) (ztg z)=zwW yg L z (fun A=>k (V.gs 1 A) []):=by kernel_rfl
def zhL{β:Type}(yg:xR)(L:Nat)(z:Ls→Ob β):Nat→Ls→Ls→Int→Int→Ob β
 | 0,_,_,_,_=>none
 | n+1,A,C,D,E=>zqO yg L A C D E (fun A C D E=>zhL yg L z n A C D E) z
theorem zv2{β:Type}(yg:xR)(L:Nat)(K:KT β):∀ (n:Nat) (z A:Ls) (C D:Int),zx (ze zeK (zeG yg L) 0 L zoA) zrj n (zip z A C D) K=zhL yg L (fun z=>K (.exit 0) (ztg z)) n z A C D:=by
 intro n; induction n <;> intros
 ·rfl
 ·exact (zMN ..).trans (by simp only [*]; rfl)
def zuZ{β:Type}(yg:xR)(L:Nat)(C:Ls)(z:Ls→Ob β):Ob β:=zEp yg L C (fun A D E F=>zhL yg L (fun A=>zwW yg L A z) L A D E F)
theorem zWC{β:Type}(yg:xR)(L:Nat)(z:Ls)(k:KK β):yh zeK (zeG yg L) L cf_ref01_Join [(V.sl 1 z)] [] k=zuZ yg L z (fun z=>k (V.gs 1 z) []):=by
 refine (zUL yg L z k).trans ?_
 unfold zuZ
 first
  | (simp only [zv2,zHT]; done)
  | (simp only [zv2]; rfl)
abbrev zpf:=∀ (β:Type),Nat→Ls→(Ls→Ob β)→Ob β
def zai:zpf:=fun β=>@zuZ β yg
def zfy(zai:zpf)(L:Nat):Dk:=dA (AL 1) fun z=>d0 fun β k=>zai β L z (fun z=>k (V.gs 1 z) [])
theorem zUB(L:Nat):DK (zfy zai L) (fun _=>yh zeK (zeG yg L) L cf_ref01_Join):=xv zaZ fun z=>yK fun _ k=>zWC yg L z k
def zHD:Hint:=⟨[],[],[none],[(1,[2,3])],[],false,false,[]⟩
def zAA:CF:=cfD zHD 57
def zAa:Nat→Sh:=zj []
def zAF(zai:zpf)(zX:zix)(L:Nat):CBC:=(xe 494 (zr0 zX L) (xe 453 (zfy zai L) noC))
def zOV{β:Type}(zai:zpf)(zX:zix)(L:Nat)(H C:List V)(z:List V→Ob β):Ob β:=lc H (lc C (none) (fun J M=>none)) (fun A t1=>lc C (chk (0+32*1≤(XK (A::t1))) (none)) (fun D E=>chk (0+32*1≤(XK (A::t1))) (chk (0+32*1≤(XK (D::E))) (zai β L (yl 1 3 [(V.sl 1 (yl 1 1 [(Qa (1:Int))])),(V.sl 1 (yl 1 32 (A::t1))),(V.sl 1 (yl 1 32 (D::E)))]) (fun I=>zX β L I (fun F=>chk ((XK F)=32∧0+32≤32) (lt (zk (We 32 (Qa (0:Int))) 0 F) fun G=>chk (0=0∧(XK G)=32∧32≠0) (z G))))))))
theorem zUi{β:Type}(zai:zpf)(zX:zix)(L:Nat)(z A:List V)(k:KK β):yh zAa (zAF zai zX L) L zAA [(V.agg z),(V.agg A)] [] k=zOV zai zX L z A (fun z=>k (V.agg z) []):=by kernel_rfl
abbrev zaD:=∀ (β:Type),Nat→List V→List V→(List V→Ob β)→Ob β
def xq:zaD:=fun β=>@zOV β zai zX
def zEq(xq:zaD)(L:Nat):Dk:=dA AG fun z=>dA AG fun A=>d0 fun β k=>xq β L z A (fun z=>k (V.agg z) [])
theorem zUs(L:Nat):DK (zEq xq L) (fun _=>yh zAa (zAF zai zX L) L zAA):=xv zak fun z=>xv zak fun A=>yK fun _ k=>zUi zai zX L z A k
def zBd:Hint:=⟨[(0,0),(1,2),(3,0),(8,0),(8,13),(9,0),(9,7),(10,0),(10,5),(11,0),(11,1)],[],[none,some ((bl 9 48),(bl 225369817865679 48)),none,some ((bl 8 48),(bl 225369817865678 48)),none,none,some ((bl 57 48),(bl 278146375999487 48)),none,some ((bl 24 48),(bl 278146375999455 48)),none,none,none],[],[],false,false,[]⟩
def cf_ref07_levels:CF:=cfD zBd 56
def zhz:CC:=yz [1,1,0,0,0,1,0,1,0,1,0,0] cf_ref07_levels.body
def zqs:CC:=yz [1,1,0,0,0,1,0,1,1] cf_ref07_levels.body
def zi7:CC:=yz [1,1,0,0,0] cf_ref07_levels.body
def zBH:CC:=yz [1,1,1] cf_ref07_levels.body
def zaT:Nat→Sh:=zj []
def zaU(xq:zaD)(L:Nat):CBC:=(xe 588 (zEq xq L) noC)
def ze0:St→St:=yM 0 (bl 9 48) (bl 225369817865679 48)
def ziv:St→St:=yM 0 (bl 57 48) (bl 278146375999487 48)
def zds(z A:Ls):St:=⟨((V.sl 32 z)::(jn 2 ((V.gs 1 A)::(jn 44 [])))),(gn 48 [])⟩
def zd4(z A C:Ls)(D:Int):St:=⟨((V.sl 32 z)::(jn 2 ((V.gs 1 A)::((V.gs 32 C)::((Qe D)::(jn 42 [])))))),(gn 48 [])⟩
def zjM(z:Ls):St:=⟨(jn 3 ((V.gs 1 z)::(jn 44 []))),(gn 48 [])⟩
def zoC(z A:Ls):St:=⟨(jn 3 ((V.gs 1 z)::((V.gs 32 A)::(jn 43 [])))),(gn 48 [])⟩
abbrev zm1(β:Type):Type:=Ls→Ls→Ls→Int→Ob β
def zyd{β:Type}(xq:zaD)(L:Nat)(A:Ls)(z:Ls→Ls→Ob β):Ob β:=z A (yl 1 1 [(V.sl 32 A)])
theorem zRA{β:Type}(xq:zaD)(L:Nat)(z:Ls)(k:KK β):yh zaT (zaU xq L) L cf_ref07_levels [(V.sl 32 z)] [] k=zyd xq L z (fun z A=>zx (ze zaT (zaU xq L) 0 L zi7) ze0 L (zds z A) (xi 0 (yv (ze zaT (zaU xq L) 0 L zBH) (zD 0 (CF.res cf_ref07_levels) k)))):=by kernel_rfl
def zjA{β:Type}(xq:zaD)(L:Nat)(C D:Ls)(z:zm1 β)(A:Ls→Ob β):Ob β:=ifb (decide (((XK C:Nat):Int)>(1:Int))) (z C D ([]:Ls) (0:Int)) (A D)
theorem zKd{β:Type}(xq:zaD)(L:Nat)(A z:Ls)(X:St→Ob β)(K:KT β):ze zaT (zaU xq L) 0 L zi7 (zds A z) (yH ze0 X K)=zjA xq L A z (fun A z C D=>zx (ze zaT (zaU xq L) 0 L zhz) ziv L (zd4 A z C D) (xi 2 (yv (ze zaT (zaU xq L) 0 L zqs) (xi 1 (yH ze0 X K))))) (fun z=>K (.exit 0) (zjM z)):=by kernel_rfl
def zl2{β:Type}(xq:zaD)(L:Nat)(A:Ls)(z:Ls→Ob β):Ob β:=z A
theorem zFG{β:Type}(xq:zaD)(L:Nat)(z:Ls)(k:KK β):(xi 0 (yv (ze zaT (zaU xq L) 0 L zBH) (zD 0 (CF.res cf_ref07_levels) k))) (.exit 0) (zjM z)=zl2 xq L z (fun A=>k (V.gs 1 A) []):=by kernel_rfl
def zih{β:Type}(xq:zaD)(L:Nat)(A G C:Ls)(D:Int)(z:zm1 β)(H:Ls→Ls→Ob β):Ob β:=ifb (decide (D<((XK A:Nat):Int))) (lt (QG .i64 ((D:Int)+(1:Int))) fun I=>ifb (decide (I<((XK A:Nat):Int))) (idx A D fun J=>lt (QG .i64 ((D:Int)+(1:Int))) fun M=>idx A M fun N=>xq β L (XL 32 J) (XL 32 N) (fun E=>chk ((XK E)=32∧0+32≤32) (chk ((XK C+XK (yl 32 1 (zk (We 32 (Qa (0:Int))) 0 E)))*32≤xm∧XK C+XK (yl 32 1 (zk (We 32 (Qa (0:Int))) 0 E))≤xm) (lt (C++(yl 32 1 (zk (We 32 (Qa (0:Int))) 0 E))) fun O=>lt (QG .i64 ((D:Int)+(2:Int))) fun P=>z A G O P)))) (idx A D fun F=>chk ((XK (XL 32 F))=32∧0+32≤32) (chk ((XK C+XK (yl 32 1 (zk (We 32 (Qa (0:Int))) 0 (XL 32 F))))*32≤xm∧XK C+XK (yl 32 1 (zk (We 32 (Qa (0:Int))) 0 (XL 32 F)))≤xm) (lt (C++(yl 32 1 (zk (We 32 (Qa (0:Int))) 0 (XL 32 F)))) fun Q=>lt (QG .i64 ((D:Int)+(2:Int))) fun R=>z A G Q R)))) (H G C)
theorem zxt{β:Type}(xq:zaD)(L:Nat)(C z A:Ls)(D:Int)(X:St→Ob β)(K:KT β):ze zaT (zaU xq L) 0 L zhz (zd4 C z A D) (yH ziv X K)=zih xq L C z A D (fun C z A D=>X (zd4 C z A D)) (fun z A=>K (.exit 2) (zoC z A)):=by kernel_rfl
def zef{β:Type}(xq:zaD)(L:Nat)(C A:Ls)(z:Ls→Ls→Ob β):Ob β:=chk ((XK C+XK (yl 1 1 [(V.sl 32 A)]))*24≤xm∧XK C+XK (yl 1 1 [(V.sl 32 A)])≤xm) (lt (C++(yl 1 1 [(V.sl 32 A)])) fun D=>z A D)
theorem zvC{β:Type}(xq:zaD)(L:Nat)(z A:Ls)(X:St→Ob β)(K:KT β):(xi 2 (yv (ze zaT (zaU xq L) 0 L zqs) (xi 1 (yH ze0 X K)))) (.exit 2) (zoC z A)=zef xq L z A (fun C z=>X (zds C z)):=by kernel_rfl
def zdl{β:Type}(xq:zaD)(L:Nat)(z:Ls→Ls→Ob β):Nat→Ls→Ls→Ls→Int→Ob β
 | 0,_,_,_,_=>none
 | n+1,A,C,D,E=>zih xq L A C D E (fun A C D E=>zdl xq L z n A C D E) z
theorem zk0{β:Type}(xq:zaD)(L:Nat)(K:KT β):∀ (n:Nat) (C z A:Ls) (D:Int),zx (ze zaT (zaU xq L) 0 L zhz) ziv n (zd4 C z A D) K=zdl xq L (fun z A=>K (.exit 2) (zoC z A)) n C z A D:=by
 intro n; induction n <;> intros
 ·rfl
 ·exact (zxt ..).trans (by simp only [*]; rfl)
def zga{β:Type}(xq:zaD)(L:Nat)(C A:Ls)(D:Ls→Ob β)(z:Ls→Ls→Ob β):Ob β:=zjA xq L C A (fun C A E F=>zdl xq L (fun A E=>zef xq L A E z) L C A E F) D
theorem zIg{β:Type}(xq:zaD)(L:Nat)(A z:Ls)(X:St→Ob β)(K:KT β):ze zaT (zaU xq L) 0 L zi7 (zds A z) (yH ze0 X K)=zga xq L A z (fun z=>K (.exit 0) (zjM z)) (fun A z=>X (zds A z)):=by
 refine (zKd xq L A z X K).trans ?_
 unfold zga
 first
  | (simp only [zk0,zvC]; done)
  | (simp only [zk0]; rfl)
def zdC{β:Type}(xq:zaD)(L:Nat)(z:Ls→Ob β):Nat→Ls→Ls→Ob β
 | 0,_,_=>none
 | n+1,A,C=>zga xq L A C z (fun A C=>zdC xq L z n A C)
theorem ztx{β:Type}(xq:zaD)(L:Nat)(K:KT β):∀ (n:Nat) (A z:Ls),zx (ze zaT (zaU xq L) 0 L zi7) ze0 n (zds A z) K=zdC xq L (fun z=>K (.exit 0) (zjM z)) n A z:=by
 intro n; induction n <;> intros
 ·rfl
 ·exact (zIg ..).trans (by simp only [*]; rfl)
def zqa{β:Type}(xq:zaD)(L:Nat)(A:Ls)(z:Ls→Ob β):Ob β:=zyd xq L A (fun A C=>zdC xq L (fun C=>zl2 xq L C z) L A C)
theorem zR4{β:Type}(xq:zaD)(L:Nat)(z:Ls)(k:KK β):yh zaT (zaU xq L) L cf_ref07_levels [(V.sl 32 z)] [] k=zqa xq L z (fun z=>k (V.gs 1 z) []):=by
 refine (zRA xq L z k).trans ?_
 unfold zqa
 first
  | (simp only [ztx,zFG]; done)
  | (simp only [ztx]; rfl)
abbrev zlc:=∀ (β:Type),Nat→Ls→(Ls→Ob β)→Ob β
def zaX:zlc:=fun β=>@zqa β xq
def zxp(zaX:zlc)(L:Nat):Dk:=dA (AL 32) fun z=>d0 fun β k=>zaX β L z (fun z=>k (V.gs 1 z) [])
theorem zRI(L:Nat):DK (zxp zaX L) (fun _=>yh zaT (zaU xq L) L cf_ref07_levels):=xv zaZ fun z=>yK fun _ k=>zR4 xq L z k
def zG9:Hint:=⟨[],[],[none,none,none],[],[],false,false,[]⟩
def zzL:CF:=cfD zG9 42
def zzO:Nat→Sh:=zj [(20,(.sl 32))]
def zzU(zaX:zlc)(L:Nat):CBC:=(xe 555 (zxp zaX L) noC)
def zEU{β:Type}(zaX:zlc)(L:Nat)(A:Ls)(z:List V→Ob β):Ob β:=ifb ((((XK A:Nat):Int):Int)==(0:Int)) (lt (We 32 (Qa (0:Int))) fun C=>chk (0=0∧(XK C)=32∧32≠0) (z C)) (ifb (decide (((XK A:Nat):Int)>(1024:Int))) (lt (We 32 (Qa (0:Int))) fun D=>chk (0=0∧(XK D)=32∧32≠0) (z D)) (zaX β L A (fun E=>lt (QG .i64 ((((XK E:Nat):Int):Int)-(1:Int))) fun H=>idx E H fun I=>cL 32 I 0 fun J=>idx J (0:Int) fun F=>chk ((XK (XL 32 F))=32∧0+32≤32) (lt (zk (We 32 (Qa (0:Int))) 0 (XL 32 F)) fun G=>chk (0=0∧(XK G)=32∧32≠0) (z G)))))
theorem zV6{β:Type}(zaX:zlc)(L:Nat)(z:Ls)(k:KK β):yh zzO (zzU zaX L) L zzL [(V.sl 32 z)] [] k=zEU zaX L z (fun z=>k (V.agg z) []):=by kernel_rfl
abbrev zcv:=∀ (β:Type),Nat→Ls→(List V→Ob β)→Ob β
def xI:zcv:=fun β=>@zEU β zaX
def zEy(xI:zcv)(L:Nat):Dk:=dA (AL 32) fun z=>d0 fun β k=>xI β L z (fun z=>k (V.agg z) [])
theorem zWn(L:Nat):DK (zEy xI L) (fun _=>yh zzO (zzU zaX L) L zzL):=xv zaZ fun z=>yK fun _ k=>zV6 zaX L z k
def zG7:Hint:=⟨[(1,0),(4,2),(5,0),(5,5)],[],[none,some ((bl 460 20),(bl 933855 20)),none,some ((bl 12 20),(bl 933855 20)),none,none],[],[],false,false,[]⟩
def cf_ref11_Root:CF:=cfD zG7 17
def zoG:CC:=yz [1,1,0,1,0,0] cf_ref11_Root.body
def zHE:CC:=yz [1,1,1] cf_ref11_Root.body
def zeM:Nat→Sh:=zj []
def zeI(yI:zct)(xI:zcv)(L:Nat):CBC:=(xe 520 (zEy xI L) (xe 519 (zEN yI L) noC))
def zqW:St→St:=yM 0 (bl 460 20) (bl 933855 20)
def zik(z A:Ls)(C D:Int)(E:List V):St:=⟨(jn 2 ((V.ptr 2 0)::((V.gs 32 z)::(jn 2 ((V.sl 4 A)::((Qe C)::((Qe D)::(jn 11 [])))))))),(gn 2 ((.live true E)::(gn 17 [])))⟩
def ztk(z:Ls)(A:List V):St:=⟨(jn 2 ((V.ptr 2 0)::((V.gs 32 z)::(jn 16 [])))),(gn 2 ((.live true A)::(gn 17 [])))⟩
abbrev zy1(β:Type):Type:=Ls→Ls→Int→Int→List V→Ob β
def zEY{β:Type}(yI:zct)(xI:zcv)(L:Nat)(A:Ls)(z:zy1 β):Ob β:=z ([]:Ls) A ((XK A:Nat):Int) (0:Int) (We 32 (Qa (0:Int)))
theorem zWM{β:Type}(yI:zct)(xI:zcv)(L:Nat)(z:Ls)(k:KK β):yh zeM (zeI yI xI L) L cf_ref11_Root [(V.sl 4 z)] [] k=zEY yI xI L z (fun A C D E F=>zx (ze zeM (zeI yI xI L) 0 L zoG) zqW L (zik A C D E F) (xi 0 (yv (ze zeM (zeI yI xI L) 0 L zHE) (zD 0 (CF.res cf_ref11_Root) k)))):=by kernel_rfl
def zqI{β:Type}(yI:zct)(xI:zcv)(L:Nat)(A F:Ls)(G D:Int)(H:List V)(z:zy1 β)(E:Ls→List V→Ob β):Ob β:=ifb (decide (D<G)) (idx F D fun I=>chk ((XK (XL 4 I))=4∧0+4≤4) (lt (zk [(Qc (0:Int)),(V.gs 35 ([]:Ls)),(V.gs 2 ([]:Ls)),(Qc (0:Int))] 0 (XL 4 I)) fun J=>chk (0+4≤(XK J)) (yI β L (Xv V.dem (XL 4 J)) (fun C=>chk ((XK C)=32∧0+32≤32) (chk ((XK A+XK (yl 32 1 (zk (We 32 (Qa (0:Int))) 0 C)))*32≤xm∧XK A+XK (yl 32 1 (zk (We 32 (Qa (0:Int))) 0 C))≤xm) (lt (A++(yl 32 1 (zk (We 32 (Qa (0:Int))) 0 C))) fun M=>lt (QG .i64 ((D:Int)+(1:Int))) fun N=>z M F G N H)))))) (E A H)
theorem zLM{β:Type}(yI:zct)(xI:zcv)(L:Nat)(z C:Ls)(D E:Int)(A:List V)(X:St→Ob β)(K:KT β):ze zeM (zeI yI xI L) 0 L zoG (zik z C D E A) (yH zqW X K)=zqI yI xI L z C D E A (fun z C D E A=>X (zik z C D E A)) (fun z A=>K (.exit 0) (ztk z A)):=by kernel_rfl
def zjb{β:Type}(yI:zct)(xI:zcv)(L:Nat)(E:Ls)(A:List V)(z:List V→Ob β):Ob β:=xI β L E (fun C=>chk ((XK C)=32∧0+32≤(XK A)) (lt (zk A 0 C) fun D=>chk (0=0∧(XK D)=32∧32≠0) (z D)))
theorem zI6{β:Type}(yI:zct)(xI:zcv)(L:Nat)(z:Ls)(A:List V)(k:KK β):(xi 0 (yv (ze zeM (zeI yI xI L) 0 L zHE) (zD 0 (CF.res cf_ref11_Root) k))) (.exit 0) (ztk z A)=zjb yI xI L z A (fun C=>k (V.agg C) []):=by kernel_rfl
def zhI{β:Type}(yI:zct)(xI:zcv)(L:Nat)(z:Ls→List V→Ob β):Nat→Ls→Ls→Int→Int→List V→Ob β
 | 0,_,_,_,_,_=>none
 | n+1,A,C,D,E,F=>zqI yI xI L A C D E F (fun A C D E F=>zhI yI xI L z n A C D E F) z
theorem zvN{β:Type}(yI:zct)(xI:zcv)(L:Nat)(K:KT β):∀ (n:Nat) (z C:Ls) (D E:Int) (A:List V),zx (ze zeM (zeI yI xI L) 0 L zoG) zqW n (zik z C D E A) K=zhI yI xI L (fun z A=>K (.exit 0) (ztk z A)) n z C D E A:=by
 intro n; induction n <;> intros
 ·rfl
 ·exact (zLM ..).trans (by simp only [*]; rfl)
def zuy{β:Type}(yI:zct)(xI:zcv)(L:Nat)(D:Ls)(z:List V→Ob β):Ob β:=zEY yI xI L D (fun A E F G C=>zhI yI xI L (fun A C=>zjb yI xI L A C z) L A E F G C)
theorem zVP{β:Type}(yI:zct)(xI:zcv)(L:Nat)(z:Ls)(k:KK β):yh zeM (zeI yI xI L) L cf_ref11_Root [(V.sl 4 z)] [] k=zuy yI xI L z (fun z=>k (V.agg z) []):=by
 refine (zWM yI xI L z k).trans ?_
 unfold zuy
 first
  | (simp only [zvN,zI6]; done)
  | (simp only [zvN]; rfl)
abbrev zaj:=∀ (β:Type),Nat→Ls→(List V→Ob β)→Ob β
def zw:zaj:=fun β=>@zuy β yI xI
def zpy(zw:zaj)(L:Nat):Dk:=dA (AL 4) fun z=>d0 fun β k=>zw β L z (fun z=>k (V.agg z) [])
theorem zVv(L:Nat):DK (zpy zw L) (fun _=>yh zeM (zeI yI xI L) L cf_ref11_Root):=xv zaZ fun z=>yK fun _ k=>zVP yI xI L z k
def zBY:Hint:=⟨[(0,0),(1,2),(7,0),(7,1)],[(1,1)],[none,some ((bl 1569 23),(bl 8388543 23)),none,some ((bl 32 23),(bl 8388543 23)),none,none],[],[],false,false,[]⟩
def cf_codec_lowest:CF:=cfD zBY 103
def zme:CC:=yz [1,1,0,1,0,0] cf_codec_lowest.body
def zBG:CC:=yz [1,1,1] cf_codec_lowest.body
def zc7:Nat→Sh:=zj []
def zdk(L:Nat):CBC:=noC
def znw:St→St:=yM 0 (bl 1569 23) (bl 8388543 23)
def zgF(C:Int)(z:Nat)(D A:Int)(E:List V):St:=⟨((Qd C)::(jn 4 ((V.own 8 0 z 1)::(jn 3 ((Qe D)::((Qe A)::(jn 12 []))))))),(gn 8 ((.live true E)::(gn 14 [])))⟩
def zoX(z:Nat)(A:List V):St:=⟨(jn 5 ((V.own 8 0 z 1)::(jn 17 []))),(gn 8 ((.live true A)::(gn 14 [])))⟩
def zKZ{β:Type}(L:Nat)(C z:Int)(A:Int→Nat→Int→Int→List V→Ob β):Ob β:=chk (0≤z∧z≤z∧(XM z)*1≤xm∧z≤xm) (A C (XM z) z (0:Int) (XN (We (XM z) [(Qa (0:Int))])))
theorem zRf{β:Type}(L:Nat)(z A:Int)(k:KK β):yh zc7 (zdk L) L cf_codec_lowest [(Qd z),(Qe A)] [] k=zKZ L z A (fun z C E D F=>zx (ze zc7 (zdk L) 0 L zme) znw L (zgF z C E D F) (xi 0 (yv (ze zc7 (zdk L) 0 L zBG) (zD 0 (CF.res cf_codec_lowest) k)))):=by kernel_rfl
def zwF{β:Type}(L:Nat)(F:Int)(C:Nat)(G z:Int)(D:List V)(A:Int→Nat→Int→Int→List V→Ob β)(E:Nat→List V→Ob β):Ob β:=ifb (decide (z<G)) (lt (QG .i64 (((8:Int):Int)*z)) fun H=>chk (0≤H) (lt (zcN .u64 F H) fun I=>lt (QG .u8 I) fun J=>chk (0≤z∧z<((C:Nat):Int)) (chk (1=1∧(0+((XM z)*1))+1≤(XK D)) (lt (zk D (0+((XM z)*1)) [(Qa J)]) fun M=>lt (QG .i64 ((z:Int)+(1:Int))) fun N=>A F C G N M)))) (E C D)
theorem zIZ{β:Type}(L:Nat)(D:Int)(z:Nat)(E A:Int)(C:List V)(X:St→Ob β)(K:KT β):ze zc7 (zdk L) 0 L zme (zgF D z E A C) (yH znw X K)=zwF L D z E A C (fun D z E A C=>X (zgF D z E A C)) (fun z C=>K (.exit 0) (zoX z C)):=by kernel_rfl
def ztG{β:Type}(L:Nat)(A:Nat)(C:List V)(z:Ls→Ob β):Ob β:=chk (A≠0∨(XK C)=0) (z (yl 1 A C))
theorem zEv{β:Type}(L:Nat)(z:Nat)(A:List V)(k:KK β):(xi 0 (yv (ze zc7 (zdk L) 0 L zBG) (zD 0 (CF.res cf_codec_lowest) k))) (.exit 0) (zoX z A)=ztG L z A (fun C=>k (V.fr 1 C) []):=by kernel_rfl
def znL{β:Type}(L:Nat)(z:Nat→List V→Ob β):Nat→Int→Nat→Int→Int→List V→Ob β
 | 0,_,_,_,_,_=>none
 | n+1,D,A,E,C,F=>zwF L D A E C F (fun D A E C F=>znL L z n D A E C F) z
theorem zrC{β:Type}(L:Nat)(K:KT β):∀ (n:Nat) (D:Int) (z:Nat) (E C:Int) (A:List V),zx (ze zc7 (zdk L) 0 L zme) znw n (zgF D z E C A) K=znL L (fun z A=>K (.exit 0) (zoX z A)) n D z E C A:=by
 intro n; induction n <;> intros
 ·rfl
 ·exact (zIZ ..).trans (by simp only [*]; rfl)
def zxZ{β:Type}(L:Nat)(C F:Int)(A:Ls→Ob β):Ob β:=zKZ L C F (fun C z G E D=>znL L (fun z D=>ztG L z D A) L C z G E D)
theorem zRH{β:Type}(L:Nat)(z A:Int)(k:KK β):yh zc7 (zdk L) L cf_codec_lowest [(Qd z),(Qe A)] [] k=zxZ L z A (fun z=>k (V.fr 1 z) []):=by
 refine (zRf L z A k).trans ?_
 unfold zxZ
 first
  | (simp only [zrC,zEv]; done)
  | (simp only [zrC]; rfl)
abbrev zcp:=∀ (β:Type),Nat→Int→Int→(Ls→Ob β)→Ob β
def yD:zcp:=fun β=>@zxZ β
def zkY(yD:zcp)(L:Nat):Dk:=dA (AI .u64) fun z=>dA (AI .i64) fun A=>d0 fun β k=>yD β L z A (fun z=>k (V.fr 1 z) [])
theorem zRS(L:Nat):DK (zkY yD L) (fun _=>yh zc7 (zdk L) L cf_codec_lowest):=xv zbN fun z=>xv zbN fun A=>yK fun _ k=>zRH L z A k
end
end
end Go.Proofs.YtgmhijonllockaaGreatDoor
