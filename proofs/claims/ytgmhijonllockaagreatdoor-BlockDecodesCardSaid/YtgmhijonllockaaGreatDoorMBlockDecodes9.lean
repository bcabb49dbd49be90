/- Part 9 of the proof of BlockDecodes: an abstract machine over plain values, its soundness, and the functions of the program on plain values. -/
import Derived.Test.YtgmhijonllockaaGreatDoorRows
import Derived.Test.YtgmhijonllockaaGreatDoorMBlockDecodes8
namespace Go.Proofs.YtgmhijonllockaaGreatDoor
set_option maxRecDepth 100000
set_option linter.unusedVariables false
set_option linter.unusedSimpArgs false
open IntKind renaming wrap->QG
open List renaming length->XI,replicate->We,take->XK,drop->XL,flatten->XM
open Int renaming toNat->XJ,tmod->XN
section
noncomputable section
def gk_sha_initial:List V:=[.sc (.int .u32 1779033703),.sc (.int .u32 3144134277),.sc (.int .u32 1013904242),.sc (.int .u32 2773480762),.sc (.int .u32 1359893119),.sc (.int .u32 2600822924),.sc (.int .u32 528734635),.sc (.int .u32 1541459225)]
def gk_sha_k:List V:=[.sc (.int .u32 1116352408),.sc (.int .u32 1899447441),.sc (.int .u32 3049323471),.sc (.int .u32 3921009573),.sc (.int .u32 961987163),.sc (.int .u32 1508970993),.sc (.int .u32 2453635748),.sc (.int .u32 2870763221),.sc (.int .u32 3624381080),.sc (.int .u32 310598401),.sc (.int .u32 607225278),.sc (.int .u32 1426881987),.sc (.int .u32 1925078388),.sc (.int .u32 2162078206),.sc (.int .u32 2614888103),.sc (.int .u32 3248222580),.sc (.int .u32 3835390401),.sc (.int .u32 4022224774),.sc (.int .u32 264347078),.sc (.int .u32 604807628),.sc (.int .u32 770255983),.sc (.int .u32 1249150122),.sc (.int .u32 1555081692),.sc (.int .u32 1996064986),.sc (.int .u32 2554220882),.sc (.int .u32 2821834349),.sc (.int .u32 2952996808),.sc (.int .u32 3210313671),.sc (.int .u32 3336571891),.sc (.int .u32 3584528711),.sc (.int .u32 113926993),.sc (.int .u32 338241895),.sc (.int .u32 666307205),.sc (.int .u32 773529912),.sc (.int .u32 1294757372),.sc (.int .u32 1396182291),.sc (.int .u32 1695183700),.sc (.int .u32 1986661051),.sc (.int .u32 2177026350),.sc (.int .u32 2456956037),.sc (.int .u32 2730485921),.sc (.int .u32 2820302411),.sc (.int .u32 3259730800),.sc (.int .u32 3345764771),.sc (.int .u32 3516065817),.sc (.int .u32 3600352804),.sc (.int .u32 4094571909),.sc (.int .u32 275423344),.sc (.int .u32 430227734),.sc (.int .u32 506948616),.sc (.int .u32 659060556),.sc (.int .u32 883997877),.sc (.int .u32 958139571),.sc (.int .u32 1322822218),.sc (.int .u32 1537002063),.sc (.int .u32 1747873779),.sc (.int .u32 1955562222),.sc (.int .u32 2024104815),.sc (.int .u32 2227730452),.sc (.int .u32 2361852424),.sc (.int .u32 2428436474),.sc (.int .u32 2756734187),.sc (.int .u32 3204031479),.sc (.int .u32 3329325298)]
def gls:List (Nat × List V):=[(0,gk_sha_initial),(1,gk_sha_k)]
def fg:List (Nat × Nat):=[(3,661),(4,662),(5,663),(6,664),(7,665),(8,666),(9,667),(10,668),(11,669),(12,670),(13,577),(14,456),(15,130),(16,579),(17,474),(18,542),(19,522),(20,422),(21,671),(22,519),(23,672),(24,673),(25,517),(26,503),(27,674),(28,502),(29,461),(30,429),(31,455),(32,509),(33,675),(34,431),(35,127),(36,182),(37,128),(38,449),(39,488),(40,596),(41,597),(42,520),(43,151),(44,131),(45,578),(46,153),(47,132),(48,556),(49,557),(50,558),(51,424),(52,442),(53,148),(54,454),(55,149),(56,555),(57,588),(58,170),(59,172),(60,676),(61,157),(62,158),(63,501),(64,159),(65,160),(66,164),(67,139),(68,179),(69,201),(70,140),(71,180),(72,143),(73,145),(74,191),(75,205),(76,183),(77,146),(78,147),(79,185),(80,129),(81,583),(82,608),(83,188),(84,150),(85,548),(86,152),(87,443),(88,444),(89,445),(90,446),(91,467),(92,468),(93,469),(94,494),(95,138),(96,186),(97,187),(98,453),(99,197),(100,198),(101,200),(102,202),(103,192),(104,458),(105,193),(106,194),(107,195),(108,196),(109,173),(110,161),(111,162),(112,163),(113,165),(114,166),(115,167),(116,168),(117,169),(118,171),(119,209),(120,174),(121,175),(122,176),(123,177),(124,178),(125,181),(126,137),(127,184),(128,617),(129,470),(130,471),(131,472),(132,448),(133,473),(134,475),(135,476),(136,477),(137,478),(138,479),(139,480),(140,481),(141,482),(142,483),(143,484),(144,485),(145,486),(146,487),(147,513),(148,514),(149,515),(150,531),(151,532),(152,533),(153,206),(154,496),(155,497),(156,498),(157,207),(158,208),(159,199),(160,203),(161,204),(162,516),(163,518),(164,521),(165,134),(166,441),(167,523),(168,524),(169,525),(170,526),(171,527),(172,528),(173,529),(174,552),(175,553),(176,569),(177,570),(178,571),(179,534),(180,535),(181,210),(182,554),(183,136),(184,559),(185,560),(186,561),(187,562),(188,563),(189,564),(190,565),(191,566),(192,572),(193,589),(194,590),(195,591),(196,117),(197,592),(198,593),(199,594),(200,599),(201,600),(202,601),(203,602),(204,603),(205,604),(206,605),(207,606),(208,607),(209,610),(210,611),(211,612),(212,613),(213,614),(214,615),(215,616),(216,618),(217,619),(218,620),(219,621),(220,622),(221,623),(222,624),(223,625),(224,626),(225,627),(226,628),(227,629),(228,630),(229,631),(230,632),(231,633),(232,634),(233,635),(234,636),(235,637),(236,638),(237,639),(254,640),(255,641),(256,642),(257,643)]
noncomputable def cfD:Hint→Nat→CF:=cfG Tryz.prog (zbv fg gls)
def zxk:Hint:=⟨[(0,0),(1,1),(3,0),(3,3),(7,0),(7,9),(8,0),(8,1)],[],[none,some ((bl 9 31),(bl 2147385087 31)),none,some ((bl 9 31),(bl 2147385087 31)),none,none,some ((bl 25 31),(bl 1342177279 31)),none,some ((bl 8 31),(bl 1342177263 31)),none,none],[],[],false,false,[]⟩
def cf_ref03_Pad:CF:=cfD zxk 150
def zkK:CC:=yw [1,1,1,0,1,0,0] cf_ref03_Pad.body
def zmV:CC:=yw [1,1,0,0,0] cf_ref03_Pad.body
def zuQ:CC:=yw [1,1,1,1] cf_ref03_Pad.body
def zo8:CC:=yw [1,1,1] cf_ref03_Pad.body
def zaN:Nat→Sh:=yD []
def zaS(L:Nat):CBC:=noC
def znR:St→St:=zN 0 (bl 9 31) (bl 2147385087 31)
def zlN:St→St:=zN 0 (bl 25 31) (bl 1342177279 31)
def zgT(z:Int)(A:Ls):St:=⟨((Qd z)::(jn 2 ((V.gs 1 A)::(jn 27 [])))),(gn 31 [])⟩
def zjS(z:Int)(A:Ls):St:=⟨((Qd z)::(jn 2 ((V.gs 1 A)::(jn 27 [])))),(gn 31 [])⟩
def zfN(z:Int)(A:Ls)(C:Int):St:=⟨((Qd z)::(jn 2 ((V.gs 1 A)::((Qe C)::(jn 26 []))))),(gn 31 [])⟩
def znM(z:Ls):St:=⟨(jn 3 ((V.gs 1 z)::(jn 27 []))),(gn 31 [])⟩
section
variable {β:Type}
def zvx(L:Nat)(A:Int)(z:Int→Ls→Ob β):Ob β:=z A (yf 1 1 [(Qa (128:Int))])
theorem zIa(L:Nat)(z:Int)(k:KK β):zj zaN (zaS L) L cf_ref03_Pad [(Qd z)] [] k=zvx L z (fun z A=>yx (xf zaN (zaS L) 0 L zmV) znR L (zgT z A) (zl 0 (zy (xf zaN (zaS L) 0 L zo8) (zG 0 (CF.res cf_ref03_Pad) k)))):=by kernel_rfl
def znt(L:Nat)(C:Int)(A:Ls)(z:Int→Ls→Ob β)(D:Int→Ls→Ob β):Ob β:=lt (QG .u64 ((XI A:Nat):Int)) fun E=>lt (QG .u64 ((C:Int)+E)) fun F=>lt (QG .u64 ((F:Int)+(8:Int))) fun G=>lt (XN G (64:Int)) fun H=>ifb ((H:Int) != (0:Int)) (chk ((XI A+XI (yf 1 1 [(Qa (0:Int))]))*1≤zg∧XI A+XI (yf 1 1 [(Qa (0:Int))])≤zg) (lt (A++(yf 1 1 [(Qa (0:Int))])) fun I=>z C I)) (D C A)
theorem zzL(L:Nat)(z:Int)(A:Ls)(X:St→Ob β)(K:KT β):xf zaN (zaS L) 0 L zmV (zgT z A) (xS znR X K)=znt L z A (fun z A=>X (zgT z A)) (fun z A=>K (.exit 0) (zjS z A)):=by kernel_rfl
def zlr(L:Nat)(A:Int)(C:Ls)(z:Int→Ls→Int→Ob β):Ob β:=z A C (7:Int)
theorem zys(L:Nat)(z:Int)(A:Ls)(k:KK β):(zl 0 (zy (xf zaN (zaS L) 0 L zo8) (zG 0 (CF.res cf_ref03_Pad) k))) (.exit 0) (zjS z A)=zlr L z A (fun z A C=>yx (xf zaN (zaS L) 0 L zkK) zlN L (zfN z A C) (zl 2 (zy (xf zaN (zaS L) 0 L zuQ) (zG 0 (CF.res cf_ref03_Pad) k)))):=by kernel_rfl
def zfk(L:Nat)(F:Int)(A:Ls)(C:Int)(z:Int→Ls→Int→Ob β)(D:Ls→Ob β):Ob β:=ifb (decide (C≥(0:Int))) (lt (QG .u64 (((8:Int):Int)*F)) fun I=>lt (QG .i64 (((8:Int):Int)*C)) fun G=>chk (0≤G) (lt (zcS .u64 I G) fun J=>lt (QG .u8 J) fun E=>chk ((XI A+XI (yf 1 1 [(Qa E)]))*1≤zg∧XI A+XI (yf 1 1 [(Qa E)])≤zg) (lt (A++(yf 1 1 [(Qa E)])) fun M=>lt (QG .i64 ((C:Int)-(1:Int))) fun H=>z F M H))) (D A)
theorem zxY(L:Nat)(A:Int)(z:Ls)(C:Int)(X:St→Ob β)(K:KT β):xf zaN (zaS L) 0 L zkK (zfN A z C) (xS zlN X K)=zfk L A z C (fun A z C=>X (zfN A z C)) (fun z=>K (.exit 2) (znM z)):=by kernel_rfl
def zjK(L:Nat)(A:Ls)(z:Ls→Ob β):Ob β:=z A
theorem zvD(L:Nat)(z:Ls)(k:KK β):(zl 2 (zy (xf zaN (zaS L) 0 L zuQ) (zG 0 (CF.res cf_ref03_Pad) k))) (.exit 2) (znM z)=zjK L z (fun A=>k (V.gs 1 A) []):=by kernel_rfl
def zgU(L:Nat)(z:Int→Ls→Ob β):Nat→Int→Ls→Ob β
 | 0,_,_=>none
 | n+1,A,C=>znt L A C (fun A C=>zgU L z n A C) z
theorem zqf(L:Nat)(K:KT β):∀ (n:Nat) (z:Int) (A:Ls),yx (xf zaN (zaS L) 0 L zmV) znR n (zgT z A) K=zgU L (fun z A=>K (.exit 0) (zjS z A)) n z A:=by
 intro n; induction n <;> intros
 ·rfl
 ·exact (zzL ..).trans (by simp only [*]; rfl)
def zdP(L:Nat)(z:Ls→Ob β):Nat→Int→Ls→Int→Ob β
 | 0,_,_,_=>none
 | n+1,A,C,D=>zfk L A C D (fun A C D=>zdP L z n A C D) z
theorem znH(L:Nat)(K:KT β):∀ (n:Nat) (A:Int) (z:Ls) (C:Int),yx (xf zaN (zaS L) 0 L zkK) zlN n (zfN A z C) K=zdP L (fun z=>K (.exit 2) (znM z)) n A z C:=by
 intro n; induction n <;> intros
 ·rfl
 ·exact (zxY ..).trans (by simp only [*]; rfl)
def zg6(L:Nat)(C:Int)(z:Ls)(A:Ls→Ob β):Ob β:=zlr L C z (fun C z D=>zdP L (fun z=>zjK L z A) L C z D)
theorem zwK(L:Nat)(z:Int)(A:Ls)(k:KK β):(zl 0 (zy (xf zaN (zaS L) 0 L zo8) (zG 0 (CF.res cf_ref03_Pad) k))) (.exit 0) (zjS z A)=zg6 L z A (fun z=>k (V.gs 1 z) []):=by
 refine (zys ..).trans ?_
 unfold zg6
 first
  | (simp only [znH,zvD]; done)
  | (simp only [znH]; rfl)
end
def zp0{β:Type}(L:Nat)(z:Int)(A:Ls→Ob β):Ob β:=zvx L z (fun z C=>zgU L (fun z C=>zg6 L z C A) L z C)
theorem zHI{β:Type}(L:Nat)(z:Int)(k:KK β):zj zaN (zaS L) L cf_ref03_Pad [(Qd z)] [] k=zp0 L z (fun z=>k (V.gs 1 z) []):=by
 refine (zIa L z k).trans ?_
 unfold zp0
 first
  | (simp only [zqf,zwK]; done)
  | (simp only [zqf]; rfl)
abbrev zji:=∀ (β:Type),Nat→Int→(Ls→Ob β)→Ob β
def xC:zji:=fun β=>@zp0 β
def zvB(xC:zji)(L:Nat):Dk:=dA (AI .u64) fun z=>d0 fun β k=>xC β L z (fun z=>k (V.gs 1 z) [])
theorem zHy(L:Nat):DK (zvB xC L) (fun _=>zj zaN (zaS L) L cf_ref03_Pad):=xp xY fun z=>xO fun _ k=>zHI L z k
def zqg:Hint:=⟨[],[],[none],[],[],false,false,[]⟩
def ztb:CF:=cfD zqg 151
def zmQ:Nat→Sh:=yD []
def zm0(L:Nat):CBC:=noC
def zou{β:Type}(L:Nat)(z:List V→Ob β):Ob β:=lt [(Qc (1779033703:Int)),(Qc (3144134277:Int)),(Qc (1013904242:Int)),(Qc (2773480762:Int)),(Qc (1359893119:Int)),(Qc (2600822924:Int)),(Qc (528734635:Int)),(Qc (1541459225:Int))] fun A=>chk (0=0∧(XI A)=8∧8≠0) (z A)
theorem zAf{β:Type}(L:Nat)(k:KK β):zj zmQ (zm0 L) L ztb [] [] k=zou L (fun z=>k (V.agg z) []):=by kernel_rfl
abbrev ze2:=∀ (β:Type),Nat→(List V→Ob β)→Ob β
def xq:ze2:=fun β=>@zou β
def zn3(xq:ze2)(L:Nat):Dk:=d0 fun β k=>xq β L (fun z=>k (V.agg z) [])
theorem zA2(L:Nat):DK (zn3 xq L) (fun _=>zj zmQ (zm0 L) L ztb):=xO fun _ k=>zAf L k
def zin:Hint:=⟨[],[],[none],[],[],false,false,[]⟩
def zjL:CF:=cfD zin 192
def zfD:Nat→Sh:=yD []
def zfx(L:Nat):CBC:=noC
def zgl{β:Type}(L:Nat)(C E:Int)(z:Int→Ob β):Ob β:=lt (QG .u64 E) fun F=>lt (zep .u64 F (31:Int)) fun A=>chk (0≤A) (lt (zct .u32 C A) fun G=>lt (QG .u64 (((32:Int):Int)-A)) fun D=>chk (0≤D) (lt (zcS .u32 C D) fun H=>lt (ior .u32 G H) fun I=>z I))
theorem zqu{β:Type}(L:Nat)(z A:Int)(k:KK β):zj zfD (zfx L) L zjL [(Qc z),(Qe A)] [] k=zgl L z A (fun z=>k (Qc z) []):=by kernel_rfl
abbrev zaf:=∀ (β:Type),Nat→Int→Int→(Int→Ob β)→Ob β
def xi:zaf:=fun β=>@zgl β
def zdt(xi:zaf)(L:Nat):Dk:=dA (AI .u32) fun z=>dA (AI .i64) fun A=>d0 fun β k=>xi β L z A (fun z=>k (Qc z) [])
theorem zqE(L:Nat):DK (zdt xi L) (fun _=>zj zfD (zfx L) L zjL):=xp xY fun z=>xp xY fun A=>xO fun _ k=>zqu L z A k
def zus:Hint:=⟨[],[],[none],[],[],false,false,[]⟩
def zyL:CF:=cfD zus 178
def zrd:Nat→Sh:=yD []
def zrj(xi:zaf)(L:Nat):CBC:=(zq 572 (zdt xi L) noC)
def ztH{β:Type}(xi:zaf)(L:Nat)(A C:Int)(z:Int→Ob β):Ob β:=lt (QG .i64 (0-C)) fun D=>xi β L A D (fun E=>z E)
theorem zGu{β:Type}(xi:zaf)(L:Nat)(z A:Int)(k:KK β):zj zrd (zrj xi L) L zyL [(Qc z),(Qe A)] [] k=ztH xi L z A (fun z=>k (Qc z) []):=by kernel_rfl
abbrev zcO:=∀ (β:Type),Nat→Int→Int→(Int→Ob β)→Ob β
def xg:zcO:=fun β=>@ztH β xi
def znT(xg:zcO)(L:Nat):Dk:=dA (AI .u32) fun z=>dA (AI .i64) fun A=>d0 fun β k=>xg β L z A (fun z=>k (Qc z) [])
theorem zGg(L:Nat):DK (znT xg L) (fun _=>zj zrd (zrj xi L) L zyL):=xp xY fun z=>xp xY fun A=>xO fun _ k=>zGu xi L z A k
def zoN:Hint:=⟨[],[],[none,some ((bl 30 97),(bl 158456325028528675187087900671 97)),none,some ((bl 12 97),(bl 158456325028528675187087900653 97)),none,none,some ((bl 44 97),(bl 158456315288573494874593034045 97)),none,some ((bl 12 97),(bl 158456315288573494874593034013 97)),none,none],[],[],false,false,[]⟩
def cf_ref03_schedule:CF:=cfD zoN 176
def zgO:CC:=yw [1,1,1,0,1,0,0] cf_ref03_schedule.body
def zhs:CC:=yw [1,1,0,1,0,0] cf_ref03_schedule.body
def znq:CC:=yw [1,1,1,1] cf_ref03_schedule.body
def zjs:CC:=yw [1,1,1] cf_ref03_schedule.body
def xR:Nat→Sh:=yD [(16,(.int .u8)),(23,(.int .u8)),(31,(.int .u8)),(39,(.int .u8)),(50,(.int .u32)),(55,(.int .u32)),(61,(.int .u32)),(67,(.int .u32)),(72,(.int .u32)),(78,(.int .u32)),(85,(.int .u32)),(91,(.int .u32))]
def zS(xg:zcO)(L:Nat):CBC:=(zq 571 (znT xg L) noC)
def zib:St→St:=zN 0 (bl 30 97) (bl 158456325028528675187087900671 97)
def zhh:St→St:=zN 0 (bl 44 97) (bl 158456315288573494874593034045 97)
def zdC(z:Int)(A C D:List V):St:=⟨(jn 1 ((V.ptr 1 0)::((V.ptr 2 0)::((V.ptr 3 0)::((Qe z)::(jn 92 [])))))),(gn 1 ((.live true A)::((.live true C)::((.live true D)::(gn 93 [])))))⟩
def zfy(z A:List V):St:=⟨(jn 2 ((V.ptr 2 0)::((V.ptr 3 0)::(jn 93 [])))),(gn 2 ((.live true z)::((.live true A)::(gn 93 []))))⟩
def zdb(z:Int)(A C:List V):St:=⟨(jn 2 ((V.ptr 2 0)::((V.ptr 3 0)::(jn 1 ((Qe z)::(jn 91 [])))))),(gn 2 ((.live true A)::((.live true C)::(gn 93 []))))⟩
def ziP(z A:List V):St:=⟨(jn 2 ((V.ptr 2 0)::((V.ptr 3 0)::(jn 93 [])))),(gn 2 ((.live true z)::((.live true A)::(gn 93 []))))⟩
section
variable {β:Type} (xg:zcO)
def zmL(L:Nat)(A:List V)(z:Int→List V→List V→List V→Ob β):Ob β:=z (0:Int) A (We 64 (Qc (0:Int))) (We 64 (Qc (0:Int)))
theorem zzx(L:Nat)(z:List V)(k:KK β):zj xR (zS xg L) L cf_ref03_schedule [(V.agg z)] [] k=zmL L z (fun A C D E=>yx (xf xR (zS xg L) 0 L zhs) zib L (zdC A C D E) (zl 0 (zy (xf xR (zS xg L) 0 L zjs) (zG 0 (CF.res cf_ref03_schedule) k)))):=by kernel_rfl
def zcZ(L:Nat)(z:Int)(C J F:List V)(A:Int→List V→List V→List V→Ob β)(G:List V→List V→Ob β):Ob β:=ifb (decide (z<(16:Int))) (lt (QG .i64 (((4:Int):Int)*z)) fun H=>chk (0≤H∧H<((64:Nat):Int)) (cI .u8 C (0+((XJ H)*1)) fun Y=>lt (QG .u32 Y) fun Z=>lt (zct .u32 Z (24:Int)) fun x3=>lt (QG .i64 (((4:Int):Int)*z)) fun x4=>lt (QG .i64 ((x4:Int)+(1:Int))) fun I=>chk (0≤I∧I<((64:Nat):Int)) (cI .u8 C (0+((XJ I)*1)) fun v6=>lt (QG .u32 v6) fun x7=>lt (zct .u32 x7 (16:Int)) fun x8=>lt (ior .u32 x3 x8) fun x9=>lt (QG .i64 (((4:Int):Int)*z)) fun M=>lt (QG .i64 ((M:Int)+(2:Int))) fun D=>chk (0≤D∧D<((64:Nat):Int)) (cI .u8 C (0+((XJ D)*1)) fun N=>lt (QG .u32 N) fun O=>lt (zct .u32 O (8:Int)) fun P=>lt (ior .u32 x9 P) fun Q=>lt (QG .i64 (((4:Int):Int)*z)) fun R=>lt (QG .i64 ((R:Int)+(3:Int))) fun E=>chk (0≤E∧E<((64:Nat):Int)) (cI .u8 C (0+((XJ E)*1)) fun S=>lt (QG .u32 S) fun T=>lt (ior .u32 Q T) fun U=>chk (0≤z∧z<((64:Nat):Int)) (chk (1=1∧(0+((XJ z)*1))+1≤(XI F)) (lt (xd F (0+((XJ z)*1)) [(Qc U)]) fun W=>lt (QG .i64 ((z:Int)+(1:Int))) fun X=>A X C J W))))))) (G J F)
theorem ztA(L:Nat)(C:Int)(D z A:List V)(X:St→Ob β)(K:KT β):xf xR (zS xg L) 0 L zhs (zdC C D z A) (xS zib X K)=zcZ L C D z A (fun C D z A=>X (zdC C D z A)) (fun z A=>K (.exit 0) (zfy z A)):=by kernel_rfl
def zgG(L:Nat)(A C:List V)(z:Int→List V→List V→Ob β):Ob β:=z (16:Int) A C
theorem zro(L:Nat)(z A:List V)(k:KK β):(zl 0 (zy (xf xR (zS xg L) 0 L zjs) (zG 0 (CF.res cf_ref03_schedule) k))) (.exit 0) (zfy z A)=zgG L z A (fun C z A=>yx (xf xR (zS xg L) 0 L zgO) zhh L (zdb C z A) (zl 2 (zy (xf xR (zS xg L) 0 L znq) (zG 0 (CF.res cf_ref03_schedule) k)))):=by kernel_rfl
def zcR(L:Nat)(z:Int)(O A:List V)(C:Int→List V→List V→Ob β)(N:List V→List V→Ob β):Ob β:=ifb (decide (z<(64:Int))) (lt (QG .i64 ((z:Int)-(15:Int))) fun D=>chk (0≤D∧D<((64:Nat):Int)) (cI .u32 A (0+((XJ D)*1)) fun P=>xg β L P (7:Int) (fun Q=>lt (QG .i64 ((z:Int)-(15:Int))) fun E=>chk (0≤E∧E<((64:Nat):Int)) (cI .u32 A (0+((XJ E)*1)) fun R=>xg β L R (18:Int) (fun S=>lt (zcc .u32 Q S) fun T=>lt (QG .i64 ((z:Int)-(15:Int))) fun F=>chk (0≤F∧F<((64:Nat):Int)) (cI .u32 A (0+((XJ F)*1)) fun U=>lt (zcS .u32 U (3:Int)) fun W=>lt (zcc .u32 T W) fun X=>lt (QG .i64 ((z:Int)-(2:Int))) fun G=>chk (0≤G∧G<((64:Nat):Int)) (cI .u32 A (0+((XJ G)*1)) fun Y=>xg β L Y (17:Int) (fun Z=>lt (QG .i64 ((z:Int)-(2:Int))) fun H=>chk (0≤H∧H<((64:Nat):Int)) (cI .u32 A (0+((XJ H)*1)) fun aa=>xg β L aa (19:Int) (fun ab=>lt (zcc .u32 Z ab) fun ac=>lt (QG .i64 ((z:Int)-(2:Int))) fun I=>chk (0≤I∧I<((64:Nat):Int)) (cI .u32 A (0+((XJ I)*1)) fun ad=>lt (zcS .u32 ad (10:Int)) fun ae=>lt (zcc .u32 ac ae) fun af=>lt (QG .i64 ((z:Int)-(16:Int))) fun J=>chk (0≤J∧J<((64:Nat):Int)) (cI .u32 A (0+((XJ J)*1)) fun ag=>lt (QG .u32 ((ag:Int)+X)) fun ah=>lt (QG .i64 ((z:Int)-(7:Int))) fun M=>chk (0≤M∧M<((64:Nat):Int)) (cI .u32 A (0+((XJ M)*1)) fun ai=>lt (QG .u32 ((ah:Int)+ai)) fun aj=>lt (QG .u32 ((aj:Int)+af)) fun ak=>chk (0≤z∧z<((64:Nat):Int)) (chk (1=1∧(0+((XJ z)*1))+1≤(XI A)) (lt (xd A (0+((XJ z)*1)) [(Qc ak)]) fun al=>lt (QG .i64 ((z:Int)+(1:Int))) fun am=>C am O al))))))))))))))) (N O A)
theorem zsj(L:Nat)(C:Int)(z A:List V)(X:St→Ob β)(K:KT β):xf xR (zS xg L) 0 L zgO (zdb C z A) (xS zhh X K)=zcR xg L C z A (fun C z A=>X (zdb C z A)) (fun z A=>K (.exit 2) (ziP z A)):=by kernel_rfl
def zf8(L:Nat)(D C:List V)(z:List V→Ob β):Ob β:=chk (0+64≤(XI C)) (chk ((XI (XK 64 C))=64∧0+64≤(XI D)) (lt (xd D 0 (XK 64 C)) fun A=>chk (0=0∧(XI A)=64∧64≠0) (z A)))
theorem zqo(L:Nat)(z A:List V)(k:KK β):(zl 2 (zy (xf xR (zS xg L) 0 L znq) (zG 0 (CF.res cf_ref03_schedule) k))) (.exit 2) (ziP z A)=zf8 L z A (fun C=>k (V.agg C) []):=by kernel_rfl
def zb5(L:Nat)(z:List V→List V→Ob β):Nat→Int→List V→List V→List V→Ob β
 | 0,_,_,_,_=>none
 | n+1,A,C,D,E=>zcZ L A C D E (fun A C D E=>zb5 L z n A C D E) z
theorem zkA(L:Nat)(K:KT β):∀ (n:Nat) (C:Int) (D z A:List V),yx (xf xR (zS xg L) 0 L zhs) zib n (zdC C D z A) K=zb5 L (fun z A=>K (.exit 0) (zfy z A)) n C D z A:=by
 intro n; induction n <;> intros
 ·rfl
 ·exact (ztA ..).trans (by simp only [*]; rfl)
def zbK(L:Nat)(z:List V→List V→Ob β):Nat→Int→List V→List V→Ob β
 | 0,_,_,_=>none
 | n+1,A,C,D=>zcR xg L A C D (fun A C D=>zbK L z n A C D) z
theorem zjY(L:Nat)(K:KT β):∀ (n:Nat) (C:Int) (z A:List V),yx (xf xR (zS xg L) 0 L zgO) zhh n (zdb C z A) K=zbK xg L (fun z A=>K (.exit 2) (ziP z A)) n C z A:=by
 intro n; induction n <;> intros
 ·rfl
 ·exact (zsj ..).trans (by simp only [*]; rfl)
def zdL(L:Nat)(z A:List V)(C:List V→Ob β):Ob β:=zgG L z A (fun D z A=>zbK xg L (fun z A=>zf8 L z A C) L D z A)
theorem zqk(L:Nat)(z A:List V)(k:KK β):(zl 0 (zy (xf xR (zS xg L) 0 L zjs) (zG 0 (CF.res cf_ref03_schedule) k))) (.exit 0) (zfy z A)=zdL xg L z A (fun C=>k (V.agg C) []):=by
 refine (zro ..).trans ?_
 unfold zdL
 first
  | (simp only [zjY,zqo]; done)
  | (simp only [zjY]; rfl)
end
def zi4{β:Type}(xg:zcO)(L:Nat)(D:List V)(z:List V→Ob β):Ob β:=zmL L D (fun E F A C=>zb5 L (fun A C=>zdL xg L A C z) L E F A C)
theorem zzn{β:Type}(xg:zcO)(L:Nat)(z:List V)(k:KK β):zj xR (zS xg L) L cf_ref03_schedule [(V.agg z)] [] k=zi4 xg L z (fun z=>k (V.agg z) []):=by
 refine (zzx xg L z k).trans ?_
 unfold zi4
 first
  | (simp only [zkA,zqk]; done)
  | (simp only [zkA]; rfl)
abbrev zei:=∀ (β:Type),Nat→List V→(List V→Ob β)→Ob β
def zu:zei:=fun β=>@zi4 β xg
def zm2(zu:zei)(L:Nat):Dk:=dA AG fun z=>d0 fun β k=>zu β L z (fun z=>k (V.agg z) [])
theorem zzd(L:Nat):DK (zm2 zu L) (fun _=>zj xR (zS xg L) L cf_ref03_schedule):=xp zfP fun z=>xO fun _ k=>zzn xg L z k
def znY:Hint:=⟨[],[],[none],[],[],false,false,[]⟩
def zqC:CF:=cfD znY 177
def zkS:Nat→Sh:=yD []
def zkD(L:Nat):CBC:=noC
def zls{β:Type}(L:Nat)(z:List V→Ob β):Ob β:=lt [(Qc (1116352408:Int)),(Qc (1899447441:Int)),(Qc (3049323471:Int)),(Qc (3921009573:Int)),(Qc (961987163:Int)),(Qc (1508970993:Int)),(Qc (2453635748:Int)),(Qc (2870763221:Int)),(Qc (3624381080:Int)),(Qc (310598401:Int)),(Qc (607225278:Int)),(Qc (1426881987:Int)),(Qc (1925078388:Int)),(Qc (2162078206:Int)),(Qc (2614888103:Int)),(Qc (3248222580:Int)),(Qc (3835390401:Int)),(Qc (4022224774:Int)),(Qc (264347078:Int)),(Qc (604807628:Int)),(Qc (770255983:Int)),(Qc (1249150122:Int)),(Qc (1555081692:Int)),(Qc (1996064986:Int)),(Qc (2554220882:Int)),(Qc (2821834349:Int)),(Qc (2952996808:Int)),(Qc (3210313671:Int)),(Qc (3336571891:Int)),(Qc (3584528711:Int)),(Qc (113926993:Int)),(Qc (338241895:Int)),(Qc (666307205:Int)),(Qc (773529912:Int)),(Qc (1294757372:Int)),(Qc (1396182291:Int)),(Qc (1695183700:Int)),(Qc (1986661051:Int)),(Qc (2177026350:Int)),(Qc (2456956037:Int)),(Qc (2730485921:Int)),(Qc (2820302411:Int)),(Qc (3259730800:Int)),(Qc (3345764771:Int)),(Qc (3516065817:Int)),(Qc (3600352804:Int)),(Qc (4094571909:Int)),(Qc (275423344:Int)),(Qc (430227734:Int)),(Qc (506948616:Int)),(Qc (659060556:Int)),(Qc (883997877:Int)),(Qc (958139571:Int)),(Qc (1322822218:Int)),(Qc (1537002063:Int)),(Qc (1747873779:Int)),(Qc (1955562222:Int)),(Qc (2024104815:Int)),(Qc (2227730452:Int)),(Qc (2361852424:Int)),(Qc (2428436474:Int)),(Qc (2756734187:Int)),(Qc (3204031479:Int)),(Qc (3329325298:Int))] fun A=>chk (0=0∧(XI A)=64∧64≠0) (z A)
theorem zxU{β:Type}(L:Nat)(k:KK β):zj zkS (zkD L) L zqC [] [] k=zls L (fun z=>k (V.agg z) []):=by kernel_rfl
abbrev zdM:=∀ (β:Type),Nat→(List V→Ob β)→Ob β
def zt:zdM:=fun β=>@zls β
def zlE(zt:zdM)(L:Nat):Dk:=d0 fun β k=>zt β L (fun z=>k (V.agg z) [])
theorem zyi(L:Nat):DK (zlE zt L) (fun _=>zj zkS (zkD L) L zqC):=xO fun _ k=>zxU L k
def zoR:Hint:=⟨[],[],[none,some ((bl 65524 133),(bl 10889035741470030808987042129089031634935 133)),none,some ((bl 32660 133),(bl 10889035741470030808987042129089031602071 133)),none,none],[],[],false,false,[]⟩
def cf_ref03_Compress:CF:=cfD zoR 152
def zgF:CC:=yw [1,1,1,0,1,0,0] cf_ref03_Compress.body
def znN:CC:=yw [1,1,1,1] cf_ref03_Compress.body
def zbg:Nat→Sh:=yD [(22,(.int .u32)),(24,(.int .u32)),(26,(.int .u32)),(28,(.int .u32)),(30,(.int .u32)),(32,(.int .u32)),(34,(.int .u32)),(36,(.int .u32)),(62,(.int .u32)),(66,(.int .u32)),(101,(.int .u32)),(105,(.int .u32)),(109,(.int .u32)),(113,(.int .u32)),(117,(.int .u32)),(121,(.int .u32)),(125,(.int .u32)),(129,(.int .u32))]
def zbf(zu:zei)(zt:zdM)(xg:zcO)(L:Nat):CBC:=(zq 571 (znT xg L) (zq 570 (zlE zt L) (zq 569 (zm2 zu L) noC)))
def zhf:St→St:=zN 0 (bl 65524 133) (bl 10889035741470030808987042129089031634935 133)
def zde(Q R S I J M N O P:Int)(T:List V)(z A C D E F G H:Int)(U W:List V):St:=⟨(jn 2 ((V.ptr 2 0)::(jn 1 ((V.ptr 4 0)::((V.ptr 5 0)::((V.ptr 6 0)::((Qc Q)::((Qc R)::((Qc S)::((Qc I)::((Qc J)::((Qc M)::((Qc N)::((Qc O)::((Qe P)::(jn 117 [])))))))))))))))),(gn 2 ((.live true T)::(gn 1 ((.live true [(Qc z),(Qc A),(Qc C),(Qc D),(Qc E),(Qc F),(Qc G),(Qc H)])::((.live true U)::((.live true W)::(gn 126 [])))))))⟩
def zi3(P Q R I J M N O:Int)(S:List V)(z A C D E F G H:Int):St:=⟨(jn 2 ((V.ptr 2 0)::(jn 1 ((V.ptr 4 0)::(jn 2 ((Qc P)::((Qc Q)::((Qc R)::((Qc I)::((Qc J)::((Qc M)::((Qc N)::((Qc O)::(jn 118 [])))))))))))))),(gn 2 ((.live true S)::(gn 1 ((.live true [(Qc z),(Qc A),(Qc C),(Qc D),(Qc E),(Qc F),(Qc G),(Qc H)])::(gn 128 [])))))⟩
abbrev zgN(β:Type):Type:=Int→Int→Int→Int→Int→Int→Int→Int→Int→List V→Int→Int→Int→Int→Int→Int→Int→Int→List V→List V→Ob β
abbrev zha(β:Type):Type:=Int→Int→Int→Int→Int→Int→Int→Int→List V→Int→Int→Int→Int→Int→Int→Int→Int→Ob β
section
variable {β:Type} (zu:zei) (zt:zdM) (xg:zcO)
def zmI(L:Nat)(z C:List V)(A:zgN β):Ob β:=chk (0+64≤(XI C)) (zu β L (XK 64 C) (fun D=>zt β L  (fun E=>chk ((XI D)=64∧0+64≤64) (lt (xd (We 64 (Qc (0:Int))) 0 D) fun H=>chk ((XI E)=64∧0+64≤64) (lt (xd (We 64 (Qc (0:Int))) 0 E) fun I=>cI .u32 z 0 fun J=>cI .u32 z 1 fun M=>cI .u32 z 2 fun N=>cI .u32 z 3 fun O=>cI .u32 z 4 fun P=>cI .u32 z 5 fun Q=>cI .u32 z 6 fun F=>cI .u32 z 7 fun G=>A J M N O P Q F G (0:Int) z (0:Int) (0:Int) (0:Int) (0:Int) (0:Int) (0:Int) (0:Int) (0:Int) H I)))))
theorem zy9(L:Nat)(I J:List V)(k:KK β):zj zbg (zbf zu zt xg L) L cf_ref03_Compress [(V.agg I),(V.agg J)] [] k=zmI zu zt L I J (fun S T U M N O P Q R W z A C D E F G H X Y=>yx (xf zbg (zbf zu zt xg L) 0 L zgF) zhf L (zde S T U M N O P Q R W z A C D E F G H X Y) (zl 0 (zy (xf zbg (zbf zu zt xg L) 0 L znN) (zG 0 (CF.res cf_ref03_Compress) k)))):=by kernel_rfl
def zcV(L:Nat)(D Q R S A E F T z:Int)(X:List V)(G H I J M N O P:Int)(Y Z:List V)(C:zgN β)(W:zha β):Ob β:=ifb (decide (z<(64:Int))) (xg β L A (6:Int) (fun aa=>xg β L A (11:Int) (fun ab=>lt (zcc .u32 aa ab) fun ac=>xg β L A (25:Int) (fun ad=>lt (zcc .u32 ac ad) fun ae=>lt (QG .u32 ((T:Int)+ae)) fun af=>lt (zep .u32 A E) fun ag=>lt (zLh .u32 A) fun ah=>lt (zep .u32 ah F) fun ai=>lt (zcc .u32 ag ai) fun aj=>lt (QG .u32 ((af:Int)+aj)) fun ak=>chk (0≤z∧z<((64:Nat):Int)) (cI .u32 Z (0+((XJ z)*1)) fun al=>lt (QG .u32 ((ak:Int)+al)) fun am=>chk (0≤z∧z<((64:Nat):Int)) (cI .u32 Y (0+((XJ z)*1)) fun an=>lt (QG .u32 ((am:Int)+an)) fun U=>xg β L D (2:Int) (fun ao=>xg β L D (13:Int) (fun ap=>lt (zcc .u32 ao ap) fun aq=>xg β L D (22:Int) (fun ar=>lt (zcc .u32 aq ar) fun au=>lt (zep .u32 D Q) fun av=>lt (zep .u32 D R) fun aw=>lt (zcc .u32 av aw) fun ax=>lt (zep .u32 Q R) fun ay=>lt (zcc .u32 ax ay) fun az=>lt (QG .u32 ((au:Int)+az)) fun aC=>lt (QG .u32 ((S:Int)+U)) fun aD=>lt (QG .u32 ((U:Int)+aC)) fun aE=>lt (QG .i64 ((z:Int)+(1:Int))) fun aH=>C aE D Q R aD A E F aH X G H I J M N O P Y Z))))))))) (W D Q R S A E F T X G H I J M N O P)
theorem zrX(L:Nat)(Q R S I J M N O P:Int)(T:List V)(z A C D E F G H:Int)(U W:List V)(X:St→Ob β)(K:KT β):xf zbg (zbf zu zt xg L) 0 L zgF (zde Q R S I J M N O P T z A C D E F G H U W) (xS zhf X K)=zcV xg L Q R S I J M N O P T z A C D E F G H U W (fun Q R S I J M N O P T z A C D E F G H U W=>X (zde Q R S I J M N O P T z A C D E F G H U W)) (fun Q R S I J M N O T z A C D E F G H=>K (.exit 0) (zi3 Q R S I J M N O T z A C D E F G H)):=by kernel_rfl
def zdm(L:Nat)(p7 p8 p9 D E F G H:Int)(z:List V)(ae af ag ah ai aj ak al:Int)(A:List V→Ob β):Ob β:=cI .u32 z 0 fun I=>lt (QG .u32 ((I:Int)+p7)) fun J=>cI .u32 z 1 fun M=>lt (QG .u32 ((M:Int)+p8)) fun N=>cI .u32 z 2 fun O=>lt (QG .u32 ((O:Int)+p9)) fun P=>cI .u32 z 3 fun Q=>lt (QG .u32 ((Q:Int)+D)) fun R=>cI .u32 z 4 fun S=>lt (QG .u32 ((S:Int)+E)) fun T=>cI .u32 z 5 fun U=>lt (QG .u32 ((U:Int)+F)) fun W=>cI .u32 z 6 fun X=>lt (QG .u32 ((X:Int)+G)) fun Y=>cI .u32 z 7 fun Z=>lt (QG .u32 ((Z:Int)+H)) fun aa=>lt [(Qc J),(Qc N),(Qc P),(Qc R),(Qc T),(Qc W),(Qc Y),(Qc aa)] fun C=>chk (0=0∧(XI C)=8∧8≠0) (A C)
theorem zqy(L:Nat)(P Q R I J M N O:Int)(S:List V)(z A C D E F G H:Int)(k:KK β):(zl 0 (zy (xf zbg (zbf zu zt xg L) 0 L znN) (zG 0 (CF.res cf_ref03_Compress) k))) (.exit 0) (zi3 P Q R I J M N O S z A C D E F G H)=zdm L P Q R I J M N O S z A C D E F G H (fun T=>k (V.agg T) []):=by kernel_rfl
def zbL(L:Nat)(I:zha β):Nat→Int→Int→Int→Int→Int→Int→Int→Int→Int→List V→Int→Int→Int→Int→Int→Int→Int→Int→List V→List V→Ob β
 | 0,_,_,_,_,_,_,_,_,_,_,_,_,_,_,_,_,_,_,_,_=>none
 | n+1,R,S,T,J,M,N,O,P,Q,U,z,A,C,D,E,F,G,H,W,X=>zcV xg L R S T J M N O P Q U z A C D E F G H W X (fun R S T J M N O P Q U z A C D E F G H W X=>zbL L I n R S T J M N O P Q U z A C D E F G H W X) I
theorem zjX(L:Nat)(K:KT β):∀ (n:Nat) (P Q R I J M N O T:Int) (S:List V) (z A C D E F G H:Int) (U W:List V),yx (xf zbg (zbf zu zt xg L) 0 L zgF) zhf n (zde P Q R I J M N O T S z A C D E F G H U W) K=zbL xg L (fun P Q R I J M N O S z A C D E F G H=>K (.exit 0) (zi3 P Q R I J M N O S z A C D E F G H)) n P Q R I J M N O T S z A C D E F G H U W:=by
 intro n; induction n <;> intros
 ·rfl
 ·exact (zrX ..).trans (by simp only [*]; rfl)
end
def ziC{β:Type}(zu:zei)(zt:zdM)(xg:zcO)(L:Nat)(W X:List V)(P:List V→Ob β):Ob β:=zmI zu zt L W X (fun Q R S I J M N O U T z A C D E F G H Y Z=>zbL xg L (fun Q R S I J M N O T z A C D E F G H=>zdm L Q R S I J M N O T z A C D E F G H P) L Q R S I J M N O U T z A C D E F G H Y Z)
theorem zzw{β:Type}(zu:zei)(zt:zdM)(xg:zcO)(L:Nat)(z A:List V)(k:KK β):zj zbg (zbf zu zt xg L) L cf_ref03_Compress [(V.agg z),(V.agg A)] [] k=ziC zu zt xg L z A (fun z=>k (V.agg z) []):=by
 refine (zy9 zu zt xg L z A k).trans ?_
 unfold ziC
 first
  | (simp only [zjX,zqy]; done)
  | (simp only [zjX]; rfl)
abbrev zen:=∀ (β:Type),Nat→List V→List V→(List V→Ob β)→Ob β
def ym:zen:=fun β=>@ziC β zu zt xg
def zmU(ym:zen)(L:Nat):Dk:=dA AG fun z=>dA AG fun A=>d0 fun β k=>ym β L z A (fun z=>k (V.agg z) [])
theorem zzk(L:Nat):DK (zmU ym L) (fun _=>zj zbg (zbf zu zt xg L) L cf_ref03_Compress):=xp zfP fun z=>xp zfP fun A=>xO fun _ k=>zzw zu zt xg L z A k
def zw4:Hint:=⟨[(1,7)],[],[none,some ((bl 60 66),(bl 73786976290004270911 66)),none,some ((bl 20 66),(bl 73786976290004270879 66)),none,none,some ((bl 25769803908 66),(bl 73786976294838205615 66)),none,some ((bl 132 66),(bl 73786976294838205615 66)),none,none],[],[],false,false,[]⟩
def cf_ref03_Sum:CF:=cfD zw4 94
def ziG:CC:=yw [1,1,1,1,1,0,1,0,0] cf_ref03_Sum.body
def zkL:CC:=yw [1,1,1,0,1,0,0] cf_ref03_Sum.body
def zrS:CC:=yw [1,1,1,1,1,1] cf_ref03_Sum.body
def znB:CC:=yw [1,1,1,1] cf_ref03_Sum.body
def zaR:Nat→Sh:=yD [(37,(.int .u32))]
def zaM(xC:zji)(xq:ze2)(ym:zen)(L:Nat):CBC:=(zq 533 (zmU ym L) (zq 532 (zn3 xq L) (zq 531 (zvB xC L) noC)))
def zlt:St→St:=zN 0 (bl 60 66) (bl 73786976290004270911 66)
def zjv:St→St:=zN 0 (bl 25769803908 66) (bl 73786976294838205615 66)
def zfK(z:Ls)(A:Int)(C D:List V):St:=⟨(jn 2 ((V.ptr 2 0)::((V.gs 1 z)::((V.ptr 4 0)::((Qe A)::(jn 60 [])))))),(gn 2 ((.live true C)::(gn 1 ((.live true D)::(gn 61 [])))))⟩
def zjU(z A:List V):St:=⟨(jn 2 ((V.ptr 2 0)::(jn 1 ((V.ptr 4 0)::(jn 61 []))))),(gn 2 ((.live true z)::(gn 1 ((.live true A)::(gn 61 [])))))⟩
def zes(z:List V)(A:Int)(C D:List V):St:=⟨(jn 2 ((V.ptr 2 0)::(jn 4 ((V.ptr 7 0)::(jn 25 ((V.agg z)::((Qe A)::(jn 31 [])))))))),(gn 2 ((.live true C)::(gn 4 ((.live true D)::(gn 58 [])))))⟩
def zoo(z A:List V):St:=⟨(jn 2 ((V.ptr 2 0)::(jn 4 ((V.ptr 7 0)::(jn 58 []))))),(gn 2 ((.live true z)::(gn 4 ((.live true A)::(gn 58 [])))))⟩
section
variable {β:Type} (xC:zji) (xq:ze2) (ym:zen)
def zvg(L:Nat)(A:Ls)(z:Ls→Int→List V→List V→Ob β):Ob β:=chk ((XI ([]:Ls)+XI A)*1≤zg∧XI ([]:Ls)+XI A≤zg) (lt (([]:Ls)++A) fun C=>lt (QG .u64 ((XI A:Nat):Int)) fun F=>xC β L F (fun D=>chk ((XI C+XI D)*1≤zg∧XI C+XI D≤zg) (lt (C++D) fun G=>xq β L  (fun E=>chk ((XI E)=8∧0+8≤8) (lt (xd [(Qc (0:Int)),(Qc (0:Int)),(Qc (0:Int)),(Qc (0:Int)),(Qc (0:Int)),(Qc (0:Int)),(Qc (0:Int)),(Qc (0:Int))] 0 E) fun H=>z G (0:Int) (We 32 (Qa (0:Int))) H)))))
theorem zHG(L:Nat)(z:Ls)(k:KK β):zj zaR (zaM xC xq ym L) L cf_ref03_Sum [(V.sl 1 z)] [] k=zvg xC xq L z (fun A C D E=>yx (xf zaR (zaM xC xq ym L) 0 L zkL) zlt L (zfK A C D E) (zl 0 (zy (xf zaR (zaM xC xq ym L) 0 L znB) (zG 0 (CF.res cf_ref03_Sum) k)))):=by kernel_rfl
def zfo(L:Nat)(C:Ls)(z:Int)(F D:List V)(A:Ls→Int→List V→List V→Ob β)(E:List V→List V→Ob β):Ob β:=lt (QG .i64 ((z:Int)+(64:Int))) fun J=>ifb (decide (J≤((XI C:Nat):Int))) (chk (0≤z∧z≤(((XI C):Nat):Int)) (lt (xd (We 64 (Qa (0:Int))) 0 (XM (XK (min (XI (XK ((XI C)-(XJ z)) (XL (XJ z) C))) 64) (XK ((XI C)-(XJ z)) (XL (XJ z) C))))) fun G=>chk (0+8≤(XI D)) (chk (0+64≤(XI G)) (ym β L (XK 8 D) (XK 64 G) (fun H=>chk ((XI H)=8∧0+8≤(XI D)) (lt (xd D 0 H) fun M=>lt (QG .i64 ((z:Int)+(64:Int))) fun I=>A C I F M)))))) (E F D)
theorem zyf(L:Nat)(C:Ls)(D:Int)(z A:List V)(X:St→Ob β)(K:KT β):xf zaR (zaM xC xq ym L) 0 L zkL (zfK C D z A) (xS zlt X K)=zfo ym L C D z A (fun C D z A=>X (zfK C D z A)) (fun z A=>K (.exit 0) (zjU z A)):=by kernel_rfl
def zjG(L:Nat)(C A:List V)(z:List V→Int→List V→List V→Ob β):Ob β:=chk (0+8≤(XI A)) (z (XK 8 A) (0:Int) C (We 32 (Qa (0:Int))))
theorem zvw(L:Nat)(z A:List V)(k:KK β):(zl 0 (zy (xf zaR (zaM xC xq ym L) 0 L znB) (zG 0 (CF.res cf_ref03_Sum) k))) (.exit 0) (zjU z A)=zjG L z A (fun C D z E=>yx (xf zaR (zaM xC xq ym L) 0 L ziG) zjv L (zes C D z E) (zl 2 (zy (xf zaR (zaM xC xq ym L) 0 L zrS) (zG 0 (CF.res cf_ref03_Sum) k)))):=by kernel_rfl
def zd9(L:Nat)(H:List V)(z:Int)(P N:List V)(A:List V→Int→List V→List V→Ob β)(O:List V→List V→Ob β):Ob β:=ifb (decide (z<(8:Int))) (chk (0≤z∧z<((8:Nat):Int)) (cI .u32 H ((XJ z)*1) fun C=>lt (QG .i64 (((4:Int):Int)*z)) fun D=>lt (QG .i64 (((4:Int):Int)*z)) fun Q=>lt (QG .i64 ((Q:Int)+(1:Int))) fun E=>lt (QG .i64 (((4:Int):Int)*z)) fun R=>lt (QG .i64 ((R:Int)+(2:Int))) fun F=>lt (QG .i64 (((4:Int):Int)*z)) fun S=>lt (QG .i64 ((S:Int)+(3:Int))) fun G=>lt (zcS .u32 C (24:Int)) fun T=>lt (QG .u8 T) fun U=>lt (zcS .u32 C (16:Int)) fun W=>lt (QG .u8 W) fun X=>lt (zcS .u32 C (8:Int)) fun Y=>lt (QG .u8 Y) fun Z=>lt (QG .u8 C) fun aa=>chk (0≤D∧D<((32:Nat):Int)) (chk (1=1∧(0+((XJ D)*1))+1≤(XI N)) (lt (xd N (0+((XJ D)*1)) [(Qa U)]) fun I=>chk (0≤E∧E<((32:Nat):Int)) (chk (1=1∧(0+((XJ E)*1))+1≤(XI I)) (lt (xd I (0+((XJ E)*1)) [(Qa X)]) fun J=>chk (0≤F∧F<((32:Nat):Int)) (chk (1=1∧(0+((XJ F)*1))+1≤(XI J)) (lt (xd J (0+((XJ F)*1)) [(Qa Z)]) fun M=>chk (0≤G∧G<((32:Nat):Int)) (chk (1=1∧(0+((XJ G)*1))+1≤(XI M)) (lt (xd M (0+((XJ G)*1)) [(Qa aa)]) fun ab=>lt (QG .i64 ((z:Int)+(1:Int))) fun ac=>A H ac P ab)))))))))) (O P N)
theorem zvp(L:Nat)(z:List V)(A:Int)(C D:List V)(X:St→Ob β)(K:KT β):xf zaR (zaM xC xq ym L) 0 L ziG (zes z A C D) (xS zjv X K)=zd9 L z A C D (fun z A C D=>X (zes z A C D)) (fun C D=>K (.exit 2) (zoo C D)):=by kernel_rfl
def zh8(L:Nat)(D C:List V)(z:List V→Ob β):Ob β:=chk (0+32≤(XI C)) (chk ((XI (XK 32 C))=32∧0+32≤(XI D)) (lt (xd D 0 (XK 32 C)) fun A=>chk (0=0∧(XI A)=32∧32≠0) (z A)))
theorem ztv(L:Nat)(z A:List V)(k:KK β):(zl 2 (zy (xf zaR (zaM xC xq ym L) 0 L zrS) (zG 0 (CF.res cf_ref03_Sum) k))) (.exit 2) (zoo z A)=zh8 L z A (fun C=>k (V.agg C) []):=by kernel_rfl
def zdO(L:Nat)(z:List V→List V→Ob β):Nat→Ls→Int→List V→List V→Ob β
 | 0,_,_,_,_=>none
 | n+1,A,C,D,E=>zfo ym L A C D E (fun A C D E=>zdO L z n A C D E) z
theorem zny(L:Nat)(K:KT β):∀ (n:Nat) (C:Ls) (D:Int) (z A:List V),yx (xf zaR (zaM xC xq ym L) 0 L zkL) zlt n (zfK C D z A) K=zdO ym L (fun z A=>K (.exit 0) (zjU z A)) n C D z A:=by
 intro n; induction n <;> intros
 ·rfl
 ·exact (zyf ..).trans (by simp only [*]; rfl)
def zcF(L:Nat)(z:List V→List V→Ob β):Nat→List V→Int→List V→List V→Ob β
 | 0,_,_,_,_=>none
 | n+1,A,C,D,E=>zd9 L A C D E (fun A C D E=>zcF L z n A C D E) z
theorem zlX(L:Nat)(K:KT β):∀ (n:Nat) (C:List V) (D:Int) (z A:List V),yx (xf zaR (zaM xC xq ym L) 0 L ziG) zjv n (zes C D z A) K=zcF L (fun z A=>K (.exit 2) (zoo z A)) n C D z A:=by
 intro n; induction n <;> intros
 ·rfl
 ·exact (zvp ..).trans (by simp only [*]; rfl)
def zfv(L:Nat)(z F:List V)(A:List V→Ob β):Ob β:=zjG L z F (fun D E z C=>zcF L (fun z C=>zh8 L z C A) L D E z C)
theorem ztT(L:Nat)(z A:List V)(k:KK β):(zl 0 (zy (xf zaR (zaM xC xq ym L) 0 L znB) (zG 0 (CF.res cf_ref03_Sum) k))) (.exit 0) (zjU z A)=zfv L z A (fun C=>k (V.agg C) []):=by
 refine (zvw ..).trans ?_
 unfold zfv
 first
  | (simp only [zlX,ztv]; done)
  | (simp only [zlX]; rfl)
end
def zpX{β:Type}(xC:zji)(xq:ze2)(ym:zen)(L:Nat)(D:Ls)(z:List V→Ob β):Ob β:=zvg xC xq L D (fun E F A C=>zdO ym L (fun A C=>zfv L A C z) L E F A C)
theorem zIi{β:Type}(xC:zji)(xq:ze2)(ym:zen)(L:Nat)(z:Ls)(k:KK β):zj zaR (zaM xC xq ym L) L cf_ref03_Sum [(V.sl 1 z)] [] k=zpX xC xq ym L z (fun z=>k (V.agg z) []):=by
 refine (zHG xC xq ym L z k).trans ?_
 unfold zpX
 first
  | (simp only [zny,ztT]; done)
  | (simp only [zny]; rfl)
abbrev zmh:=∀ (β:Type),Nat→Ls→(List V→Ob β)→Ob β
def xX:zmh:=fun β=>@zpX β xC xq ym
def zp8(xX:zmh)(L:Nat):Dk:=dA (AL 1) fun z=>d0 fun β k=>xX β L z (fun z=>k (V.agg z) [])
theorem zHW(L:Nat):DK (zp8 xX L) (fun _=>zj zaR (zaM xC xq ym L) L cf_ref03_Sum):=xp zaL fun z=>xO fun _ k=>zIi xC xq ym L z k
def zrV:Hint:=⟨[],[],[none],[],[],false,false,[]⟩
def zuK:CF:=cfD zrV 54
def zn8:Nat→Sh:=yD []
def znJ(xX:zmh)(L:Nat):CBC:=(zq 494 (zp8 xX L) noC)
def zpG{β:Type}(xX:zmh)(L:Nat)(H:Ls)(z:List V→Ob β):Ob β:=xX β L H (fun C=>chk ((XI C)=32∧0+32≤32) (lt (xd (We 32 (Qa (0:Int))) 0 C) fun A=>chk (0+32*1≤(XI A)) (ifb (List.isEmpty A) (xX β L (yf 1 32 A) (fun D=>chk ((XI D)=32∧0+32≤32) (lt (xd (We 32 (Qa (0:Int))) 0 D) fun E=>chk (0=0∧(XI E)=32∧32≠0) (z E)))) (xX β L (yf 1 32 A) (fun F=>chk ((XI F)=32∧0+32≤32) (lt (xd (We 32 (Qa (0:Int))) 0 F) fun G=>chk (0=0∧(XI G)=32∧32≠0) (z G)))))))
theorem zC7{β:Type}(xX:zmh)(L:Nat)(z:Ls)(k:KK β):zj zn8 (znJ xX L) L zuK [(V.sl 1 z)] [] k=zpG xX L z (fun z=>k (V.agg z) []):=by kernel_rfl
abbrev zw3:=∀ (β:Type),Nat→Ls→(List V→Ob β)→Ob β
def zc5:zw3:=fun β=>@zpG β xX
def zo1(zc5:zw3)(L:Nat):Dk:=dA (AL 1) fun z=>d0 fun β k=>zc5 β L z (fun z=>k (V.agg z) [])
theorem zCn(L:Nat):DK (zo1 zc5 L) (fun _=>zj zn8 (znJ xX L) L zuK):=xp zaL fun z=>xO fun _ k=>zC7 xX L z k
def zAa:Hint:=⟨[(0,0),(2,5),(7,10),(9,0),(9,1)],[(2,4)],[none,some ((bl 262161 33),(bl 6979321823 33)),none,some ((bl 16 33),(bl 6979321823 33)),none,none],[],[(7,0,[0])],false,false,[]⟩
def cf_sha_Pad:CF:=cfD zAa 155
def zfm:CC:=yw [1,1,1,1,0,1,0,0] cf_sha_Pad.body
def zpK:CC:=yw [1,1,1,1,1] cf_sha_Pad.body
def zcW:Nat→Sh:=yD []
def zcX(L:Nat):CBC:=noC
def zf6:St→St:=zN 0 (bl 262161 33) (bl 6979321823 33)
def zju(D:Int)(z:Nat)(A:Int)(C:List V):St:=⟨((Qd D)::(jn 3 ((V.own 15 0 z 1)::(jn 13 ((Qe A)::(jn 14 [])))))),(gn 15 ((.live true C)::(gn 17 [])))⟩
def ze8(C:Int)(D:Ls)(z:Int)(A:Nat):St:=⟨((Qd C)::(jn 3 ((V.gs 1 D)::(jn 13 ((Qe z)::(jn 14 [])))))),(gn 15 ((.dead A)::(gn 17 [])))⟩
def zqU(z:Nat)(A:List V):St:=⟨(jn 4 ((V.own 15 0 z 1)::(jn 28 []))),(gn 15 ((.live true A)::(gn 17 [])))⟩
def zj3(A:Ls)(z:Nat):St:=⟨(jn 4 ((V.gs 1 A)::(jn 28 []))),(gn 15 ((.dead z)::(gn 17 [])))⟩
section
variable {β:Type}
def zAQ(L:Nat)(D:Int)(z:Int→Nat→Int→List V→Ob β):Ob β:=lt (QG .u64 ((D:Int)+(9:Int))) fun F=>lt (XN F (64:Int)) fun G=>lt (QG .u64 (((64:Int):Int)-G)) fun H=>lt (XN H (64:Int)) fun E=>lt (QG .u64 (((1:Int):Int)+E)) fun C=>lt (QG .u64 (((9:Int):Int)+E)) fun A=>chk (0≤C∧C≤A∧(XJ A)*1≤zg∧A≤zg) (chk (0≤(0:Int)∧(0:Int)<(((XJ C):Nat):Int)) (chk (1=1∧0+1≤(XI (XM (We (XJ A) [(Qa (0:Int))])))) (lt (xd (XM (We (XJ A) [(Qa (0:Int))])) 0 [(Qa (128:Int))]) fun I=>z D (XJ C) (0:Int) I)))
theorem zKC(L:Nat)(z:Int)(k:KK β):zj zcW (zcX L) L cf_sha_Pad [(Qd z)] [] k=zAQ L z (fun z A C D=>yx (xf zcW (zcX L) 0 L zfm) zf6 L (zju z A C D) (zl 0 (zy (xf zcW (zcX L) 0 L zpK) (zG 0 (CF.res cf_sha_Pad) k)))):=by kernel_rfl
def zis(L:Nat)(G:Int)(C:Nat)(D:Int)(z:List V)(A:Int→Ls→Int→Nat→Ob β)(F:Nat→List V→Ob β):Ob β:=ifb (decide (D<(8:Int))) (chk (0=0∧C*1≤(XI z)∧(XI z)≠0) (lt (QG .u64 (((8:Int):Int)*G)) fun N=>lt (QG .i64 (((8:Int):Int)*D)) fun O=>lt (QG .i64 (((56:Int):Int)-O)) fun H=>chk (0≤H) (lt (zcS .u64 N H) fun I=>lt (QG .u8 I) fun E=>chk ((XI (yf 1 C z)+XI (yf 1 1 [(Qa E)]))*1≤zg∧XI (yf 1 C z)+XI (yf 1 1 [(Qa E)])≤zg) (lt ((yf 1 C z)++(yf 1 1 [(Qa E)])) fun J=>lt (QG .i64 ((D:Int)+(1:Int))) fun M=>A G J M (XI z))))) (F C z)
theorem zzt(L:Nat)(D:Int)(A:Nat)(C:Int)(z:List V)(X:St→Ob β)(K:KT β):xf zcW (zcX L) 0 L zfm (zju D A C z) (xS zf6 X K)=zis L D A C z (fun D E C z=>X (ze8 D E C z)) (fun A z=>K (.exit 0) (zqU A z)):=by kernel_rfl
def zj4(L:Nat)(A:Nat)(C:List V)(z:Ls→Ob β):Ob β:=chk (A≠0∨(XI C)=0) (z (yf 1 A C))
theorem zxg(L:Nat)(z:Nat)(A:List V)(k:KK β):(zl 0 (zy (xf zcW (zcX L) 0 L zpK) (zG 0 (CF.res cf_sha_Pad) k))) (.exit 0) (zqU z A)=zj4 L z A (fun C=>k (V.fr 1 C) []):=by kernel_rfl
def zeR(L:Nat)(H:Int)(E:Ls)(A:Int)(F:Nat)(z:Int→Ls→Int→Nat→Ob β)(C:Ls→Nat→Ob β):Ob β:=ifb (decide (A<(8:Int))) (lt (QG .u64 (((8:Int):Int)*H)) fun I=>lt (QG .i64 (((8:Int):Int)*A)) fun J=>lt (QG .i64 (((56:Int):Int)-J)) fun G=>chk (0≤G) (lt (zcS .u64 I G) fun M=>lt (QG .u8 M) fun D=>chk ((XI E+XI (yf 1 1 [(Qa D)]))*1≤zg∧XI E+XI (yf 1 1 [(Qa D)])≤zg) (lt (E++(yf 1 1 [(Qa D)])) fun N=>lt (QG .i64 ((A:Int)+(1:Int))) fun O=>z H N O F))) (C E F)
theorem zwv(L:Nat)(D:Int)(C:Ls)(A:Int)(z:Nat)(X:St→Ob β)(K:KT β):xf zcW (zcX L) 0 L zfm (ze8 D C A z) (xS zf6 X K)=zeR L D C A z (fun D C A z=>X (ze8 D C A z)) (fun C z=>K (.exit 0) (zj3 C z)):=by kernel_rfl
def zeE(L:Nat)(A:Ls)(C:Nat)(z:Ls→Ob β):Ob β:=z A
theorem zrY(L:Nat)(A:Ls)(z:Nat)(k:KK β):(zl 0 (zy (xf zcW (zcX L) 0 L zpK) (zG 0 (CF.res cf_sha_Pad) k))) (.exit 0) (zj3 A z)=zeE L A z (fun C=>k (V.gs 1 C) []):=by kernel_rfl
def zca(L:Nat)(z:Ls→Nat→Ob β):Nat→Int→Ls→Int→Nat→Ob β
 | 0,_,_,_,_=>none
 | n+1,D,E,A,C=>zeR L D E A C (fun D E A C=>zca L z n D E A C) z
theorem zwI(L:Nat)(K:KT β):∀ (n:Nat) (D:Int) (A:Ls) (C:Int) (z:Nat),yx (xf zcW (zcX L) 0 L zfm) zf6 n (ze8 D A C z) K=zca L (fun A z=>K (.exit 0) (zj3 A z)) n D A C z:=by
 intro n; induction n <;> intros
 ·rfl
 ·exact (zwv ..).trans (by simp only [*]; rfl)
def zs7(L:Nat)(D:Nat→List V→Ob β)(z:Ls→Nat→Ob β):Nat→Int→Nat→Int→List V→Ob β
 | 0,_,_,_,_=>none
 | n+1,E,F,A,C=>zis L E F A C (fun E G A C=>zca L z n E G A C) D
theorem zoO(L:Nat)(K:KT β):∀ (n:Nat) (D:Int) (A:Nat) (C:Int) (z:List V),yx (xf zcW (zcX L) 0 L zfm) zf6 n (zju D A C z) K=zs7 L (fun A z=>K (.exit 0) (zqU A z)) (fun E z=>K (.exit 0) (zj3 E z)) n D A C z:=by
 intro n; induction n <;> intros
 ·rfl
 ·exact (zzt ..).trans (by simp only [zwI]; rfl)
end
def zuv{β:Type}(L:Nat)(E:Int)(D:Ls→Ob β)(A:Ls→Ob β):Ob β:=zAQ L E (fun E C F z=>zs7 L (fun C z=>zj4 L C z D) (fun G z=>zeE L G z A) L E C F z)
theorem zKt{β:Type}(L:Nat)(z:Int)(k:KK β):zj zcW (zcX L) L cf_sha_Pad [(Qd z)] [] k=zuv L z (fun z=>k (V.fr 1 z) []) (fun z=>k (V.gs 1 z) []):=by
 refine (zKC L z k).trans ?_
 unfold zuv
 first
  | (simp only [zoO,zxg,zrY]; done)
  | (simp only [zoO]; rfl)
abbrev zm7:=∀ (β:Type),Nat→Int→(Ls→Ob β)→(Ls→Ob β)→Ob β
def xM:zm7:=fun β=>@zuv β
def zBD(xM:zm7)(L:Nat):Dk:=dA (AI .u64) fun z=>d0 fun β k=>xM β L z (fun z=>k (V.fr 1 z) []) (fun z=>k (V.gs 1 z) [])
theorem zKQ(L:Nat):DK (zBD xM L) (fun _=>zj zcW (zcX L) L cf_sha_Pad):=xp xY fun z=>xO fun _ k=>zKt L z k
def zBj:Hint:=⟨[(0,0),(1,0),(5,0),(5,3),(7,0),(7,1)],[],[none,some ((bl 456 17),(bl 114655 17)),none,some ((bl 8 17),(bl 114655 17)),none,none],[],[],false,false,[]⟩
def cf_sha_row:CF:=cfD zBj 154
def zol:CC:=yw [1,1,0,1,0,0] cf_sha_row.body
def zAe:CC:=yw [1,1,1] cf_sha_row.body
def zfJ:Nat→Sh:=yD [(11,(.sl 1))]
def zfB(L:Nat):CBC:=noC
def zpk:St→St:=zN 0 (bl 456 17) (bl 114655 17)
def zhI(z A:Ls)(C D:Int):St:=⟨(jn 3 ((V.gs 1 z)::(jn 2 ((V.sl 1 A)::((Qe C)::((Qe D)::(jn 8 []))))))),(gn 17 [])⟩
def zqQ(z:Ls):St:=⟨(jn 3 ((V.gs 1 z)::(jn 13 []))),(gn 17 [])⟩
section
variable {β:Type}
def zAp(L:Nat)(A:Ls)(z:Ls→Ls→Int→Int→Ob β):Ob β:=z ([]:Ls) A ((XI A:Nat):Int) (0:Int)
theorem zL3(L:Nat)(z:Ls)(k:KK β):zj zfJ (zfB L) L cf_sha_row [(V.sl 1 z)] [] k=zAp L z (fun A C D E=>yx (xf zfJ (zfB L) 0 L zol) zpk L (zhI A C D E) (zl 0 (zy (xf zfJ (zfB L) 0 L zAe) (zG 0 (CF.res cf_sha_row) k)))):=by kernel_rfl
def zc8(L:Nat)(A F:Ls)(G C:Int)(z:Ls→Ls→Int→Int→Ob β)(D:Ls→Ob β):Ob β:=ifb (decide (C<G)) (idx F C fun H=>cL 1 H 0 fun E=>chk ((XI A+XI E)*1≤zg∧XI A+XI E≤zg) (lt (A++E) fun I=>lt (QG .i64 ((C:Int)+(1:Int))) fun J=>z I F G J)) (D A)
theorem zCw(L:Nat)(z A:Ls)(C D:Int)(X:St→Ob β)(K:KT β):xf zfJ (zfB L) 0 L zol (zhI z A C D) (xS zpk X K)=zc8 L z A C D (fun z A C D=>X (zhI z A C D)) (fun z=>K (.exit 0) (zqQ z)):=by kernel_rfl
def zeo(L:Nat)(A:Ls)(z:Ls→Ob β):Ob β:=z A
theorem zzl(L:Nat)(z:Ls)(k:KK β):(zl 0 (zy (xf zfJ (zfB L) 0 L zAe) (zG 0 (CF.res cf_sha_row) k))) (.exit 0) (zqQ z)=zeo L z (fun A=>k (V.gs 1 A) []):=by kernel_rfl
def zf2(L:Nat)(z:Ls→Ob β):Nat→Ls→Ls→Int→Int→Ob β
 | 0,_,_,_,_=>none
 | n+1,A,C,D,E=>zc8 L A C D E (fun A C D E=>zf2 L z n A C D E) z
theorem zrF(L:Nat)(K:KT β):∀ (n:Nat) (z A:Ls) (C D:Int),yx (xf zfJ (zfB L) 0 L zol) zpk n (zhI z A C D) K=zf2 L (fun z=>K (.exit 0) (zqQ z)) n z A C D:=by
 intro n; induction n <;> intros
 ·rfl
 ·exact (zCw ..).trans (by simp only [*]; rfl)
end
def zuF{β:Type}(L:Nat)(C:Ls)(z:Ls→Ob β):Ob β:=zAp L C (fun A D E F=>zf2 L (fun A=>zeo L A z) L A D E F)
theorem zLA{β:Type}(L:Nat)(z:Ls)(k:KK β):zj zfJ (zfB L) L cf_sha_row [(V.sl 1 z)] [] k=zuF L z (fun z=>k (V.gs 1 z) []):=by
 refine (zL3 L z k).trans ?_
 unfold zuF
 first
  | (simp only [zrF,zzl]; done)
  | (simp only [zrF]; rfl)
abbrev znb:=∀ (β:Type),Nat→Ls→(Ls→Ob β)→Ob β
def yL:znb:=fun β=>@zuF β
def zAu(yL:znb)(L:Nat):Dk:=dA (AL 1) fun z=>d0 fun β k=>yL β L z (fun z=>k (V.gs 1 z) [])
theorem zLH(L:Nat):DK (zAu yL L) (fun _=>zj zfJ (zfB L) L cf_sha_row):=xp zaL fun z=>xO fun _ k=>zLA L z k
def zyU:Hint:=⟨[],[],[none],[],[],false,false,[]⟩
def zDr:CF:=cfD zyU 180
def zu1:Nat→Sh:=yD []
def zvT(xi:zaf)(L:Nat):CBC:=(zq 572 (zdt xi L) noC)
def zxw{β:Type}(xi:zaf)(L:Nat)(A C:Int)(z:Int→Ob β):Ob β:=lt (QG .i64 (0-C)) fun D=>xi β L A D (fun E=>z E)
theorem zJG{β:Type}(xi:zaf)(L:Nat)(z A:Int)(k:KK β):zj zu1 (zvT xi L) L zDr [(Qc z),(Qe A)] [] k=zxw xi L z A (fun z=>k (Qc z) []):=by kernel_rfl
abbrev zeC:=∀ (β:Type),Nat→Int→Int→(Int→Ob β)→Ob β
def xh:zeC:=fun β=>@zxw β xi
def zr6(xh:zeC)(L:Nat):Dk:=dA (AI .u32) fun z=>dA (AI .i64) fun A=>d0 fun β k=>xh β L z A (fun z=>k (Qc z) [])
theorem zJJ(L:Nat):DK (zr6 xh L) (fun _=>zj zu1 (zvT xi L) L zDr):=xp xY fun z=>xp xY fun A=>xO fun _ k=>zJG xi L z A k
def zrO:Hint:=⟨[],[],[none,some ((bl 526 85),(bl 38685626227668133590597583 85)),none,some ((bl 12 85),(bl 38685626227668133590597581 85)),none,none,some ((bl 4638 85),(bl 38685626227668133590597599 85)),none,some ((bl 526 85),(bl 38685626227668133590597599 85)),none,none,some ((bl 76 85),(bl 38685623849749388397117053 85)),none,some ((bl 12 85),(bl 38685623849749388397116989 85)),none,none],[],[],false,false,[]⟩
def cf_sha_schedule:CF:=cfD zrO 179
def zeg:CC:=yw [1,1,0,1,0,0,1,1,0,0,1,1,0,0] cf_sha_schedule.body
def zlf:CC:=yw [1,1,0,1,0,0,1,1,1] cf_sha_schedule.body
def zhS:CC:=yw [1,1,1,0,1,0,0] cf_sha_schedule.body
def zfu:CC:=yw [1,1,0,1,0,0] cf_sha_schedule.body
def zqD:CC:=yw [1,1,1,1] cf_sha_schedule.body
def zlw:CC:=yw [1,1,1] cf_sha_schedule.body
def xI:Nat→Sh:=yD [(18,(.int .u32)),(25,(.int .u8)),(38,(.int .u32)),(43,(.int .u32)),(49,(.int .u32)),(55,(.int .u32)),(60,(.int .u32)),(66,(.int .u32)),(73,(.int .u32)),(79,(.int .u32))]
def xJ(xh:zeC)(L:Nat):CBC:=(zq 535 (zr6 xh L) noC)
def zcI:St→St:=zN 0 (bl 526 85) (bl 38685626227668133590597583 85)
def zeH:St→St:=zN 0 (bl 4638 85) (bl 38685626227668133590597599 85)
def ziA:St→St:=zN 0 (bl 76 85) (bl 38685623849749388397117053 85)
def zbI(z:Int)(A C D:List V):St:=⟨(jn 1 ((V.ptr 1 0)::((V.ptr 2 0)::((V.ptr 3 0)::(jn 5 ((Qe z)::(jn 75 []))))))),(gn 1 ((.live true A)::((.live true C)::((.live true D)::(gn 81 [])))))⟩
def zbZ(A C z:Int)(D E F:List V):St:=⟨(jn 1 ((V.ptr 1 0)::((V.ptr 2 0)::((V.ptr 3 0)::((Qe A)::(jn 4 ((Qe C)::(jn 2 ((Qe z)::(jn 72 [])))))))))),(gn 1 ((.live true D)::((.live true E)::((.live true F)::(gn 81 [])))))⟩
def zeN(z A:List V):St:=⟨(jn 2 ((V.ptr 2 0)::((V.ptr 3 0)::(jn 81 [])))),(gn 2 ((.live true z)::((.live true A)::(gn 81 []))))⟩
def zd3(z:Int)(A C:List V):St:=⟨(jn 2 ((V.ptr 2 0)::((V.ptr 3 0)::(jn 2 ((Qe z)::(jn 78 [])))))),(gn 2 ((.live true A)::((.live true C)::(gn 81 []))))⟩
def zj7(z:Int)(A C D:List V):St:=⟨(jn 1 ((V.ptr 1 0)::((V.ptr 2 0)::((V.ptr 3 0)::(jn 5 ((Qe z)::(jn 75 []))))))),(gn 1 ((.live true A)::((.live true C)::((.live true D)::(gn 81 [])))))⟩
def zkM(z A:List V):St:=⟨(jn 2 ((V.ptr 2 0)::((V.ptr 3 0)::(jn 81 [])))),(gn 2 ((.live true z)::((.live true A)::(gn 81 []))))⟩
section
variable {β:Type} (xh:zeC)
def zpu(L:Nat)(A:List V)(z:Int→List V→List V→List V→Ob β):Ob β:=z (0:Int) A (We 64 (Qc (0:Int))) (We 64 (Qc (0:Int)))
theorem zCE(L:Nat)(z:List V)(k:KK β):zj xI (xJ xh L) L cf_sha_schedule [(V.agg z)] [] k=zpu L z (fun A C D E=>yx (xf xI (xJ xh L) 0 L zfu) zcI L (zbI A C D E) (zl 0 (zy (xf xI (xJ xh L) 0 L zlw) (zG 0 (CF.res cf_sha_schedule) k)))):=by kernel_rfl
def zgm(L:Nat)(A:Int)(F D E:List V)(z:Int→Int→Int→List V→List V→List V→Ob β)(C:List V→List V→Ob β):Ob β:=ifb (decide (A<(16:Int))) (z A A (0:Int) F D E) (C D E)
theorem zvh(L:Nat)(C:Int)(D z A:List V)(X:St→Ob β)(K:KT β):xf xI (xJ xh L) 0 L zfu (zbI C D z A) (xS zcI X K)=zgm L C D z A (fun F C E D z A=>yx (xf xI (xJ xh L) 0 L zeg) zeH L (zbZ F C E D z A) (zl 2 (zl 1 (zy (xf xI (xJ xh L) 0 L zlf) (xS zcI X K))))) (fun z A=>K (.exit 0) (zeN z A)):=by kernel_rfl
def zia(L:Nat)(A C:List V)(z:Int→List V→List V→Ob β):Ob β:=z (16:Int) A C
theorem ztK(L:Nat)(z A:List V)(k:KK β):(zl 0 (zy (xf xI (xJ xh L) 0 L zlw) (zG 0 (CF.res cf_sha_schedule) k))) (.exit 0) (zeN z A)=zia L z A (fun C z A=>yx (xf xI (xJ xh L) 0 L zhS) ziA L (zd3 C z A) (zl 4 (zy (xf xI (xJ xh L) 0 L zqD) (zG 0 (CF.res cf_sha_schedule) k)))):=by kernel_rfl
def zae(L:Nat)(A H C:Int)(E I D:List V)(z:Int→Int→Int→List V→List V→List V→Ob β)(F:Int→List V→List V→List V→Ob β):Ob β:=ifb (decide (C<(4:Int))) (chk (0≤A∧A<((64:Nat):Int)) (cI .u32 D (0+((XJ A)*1)) fun J=>lt (zct .u32 J (8:Int)) fun M=>lt (QG .i64 (((4:Int):Int)*A)) fun N=>lt (QG .i64 ((N:Int)+C)) fun G=>chk (0≤G∧G<((64:Nat):Int)) (cI .u8 E (0+((XJ G)*1)) fun O=>lt (QG .u32 O) fun P=>lt (ior .u32 M P) fun Q=>chk (0≤A∧A<((64:Nat):Int)) (chk (1=1∧(0+((XJ A)*1))+1≤(XI D)) (lt (xd D (0+((XJ A)*1)) [(Qc Q)]) fun R=>lt (QG .i64 ((C:Int)+(1:Int))) fun S=>z A H S E I R))))) (F H E I D)
theorem zoL(L:Nat)(F A z:Int)(C D E:List V)(X:St→Ob β)(K:KT β):xf xI (xJ xh L) 0 L zeg (zbZ F A z C D E) (xS zeH X K)=zae L F A z C D E (fun F A z C D E=>X (zbZ F A z C D E)) (fun A C D E=>K (.exit 2) (zj7 A C D E)):=by kernel_rfl
def zcg(L:Nat)(z:Int)(O A:List V)(C:Int→List V→List V→Ob β)(M:List V→List V→Ob β):Ob β:=ifb (decide (z<(64:Int))) (lt (QG .i64 ((z:Int)-(15:Int))) fun N=>chk (0≤N∧N<((64:Nat):Int)) (cI .u32 A (0+((XJ N)*1)) fun P=>xh β L P (7:Int) (fun Q=>lt (QG .i64 ((z:Int)-(15:Int))) fun D=>chk (0≤D∧D<((64:Nat):Int)) (cI .u32 A (0+((XJ D)*1)) fun R=>xh β L R (18:Int) (fun S=>lt (zcc .u32 Q S) fun T=>lt (QG .i64 ((z:Int)-(15:Int))) fun E=>chk (0≤E∧E<((64:Nat):Int)) (cI .u32 A (0+((XJ E)*1)) fun U=>lt (zcS .u32 U (3:Int)) fun W=>lt (zcc .u32 T W) fun X=>lt (QG .i64 ((z:Int)-(2:Int))) fun F=>chk (0≤F∧F<((64:Nat):Int)) (cI .u32 A (0+((XJ F)*1)) fun Y=>xh β L Y (17:Int) (fun Z=>lt (QG .i64 ((z:Int)-(2:Int))) fun G=>chk (0≤G∧G<((64:Nat):Int)) (cI .u32 A (0+((XJ G)*1)) fun aa=>xh β L aa (19:Int) (fun ab=>lt (zcc .u32 Z ab) fun ac=>lt (QG .i64 ((z:Int)-(2:Int))) fun H=>chk (0≤H∧H<((64:Nat):Int)) (cI .u32 A (0+((XJ H)*1)) fun ad=>lt (zcS .u32 ad (10:Int)) fun ae=>lt (zcc .u32 ac ae) fun af=>lt (QG .i64 ((z:Int)-(16:Int))) fun I=>chk (0≤I∧I<((64:Nat):Int)) (cI .u32 A (0+((XJ I)*1)) fun ag=>lt (QG .u32 ((ag:Int)+X)) fun ah=>lt (QG .i64 ((z:Int)-(7:Int))) fun J=>chk (0≤J∧J<((64:Nat):Int)) (cI .u32 A (0+((XJ J)*1)) fun ai=>lt (QG .u32 ((ah:Int)+ai)) fun aj=>lt (QG .u32 ((aj:Int)+af)) fun ak=>chk (0≤z∧z<((64:Nat):Int)) (chk (1=1∧(0+((XJ z)*1))+1≤(XI A)) (lt (xd A (0+((XJ z)*1)) [(Qc ak)]) fun al=>lt (QG .i64 ((z:Int)+(1:Int))) fun am=>C am O al))))))))))))))) (M O A)
theorem ztQ(L:Nat)(C:Int)(z A:List V)(X:St→Ob β)(K:KT β):xf xI (xJ xh L) 0 L zhS (zd3 C z A) (xS ziA X K)=zcg xh L C z A (fun C z A=>X (zd3 C z A)) (fun z A=>K (.exit 4) (zkM z A)):=by kernel_rfl
def zdW(L:Nat)(C:Int)(D E F:List V)(z:Int→List V→List V→List V→Ob β):Ob β:=lt (QG .i64 ((C:Int)+(1:Int))) fun A=>z A D E F
theorem zmO(L:Nat)(z:Int)(A C D:List V)(X:St→Ob β)(K:KT β):(zl 2 (zl 1 (zy (xf xI (xJ xh L) 0 L zlf) (xS zcI X K)))) (.exit 2) (zj7 z A C D)=zdW L z A C D (fun z A C D=>X (zbI z A C D)):=by kernel_rfl
def zhq(L:Nat)(D C:List V)(z:List V→Ob β):Ob β:=chk (0+64≤(XI C)) (chk ((XI (XK 64 C))=64∧0+64≤(XI D)) (lt (xd D 0 (XK 64 C)) fun A=>chk (0=0∧(XI A)=64∧64≠0) (z A)))
theorem zr1(L:Nat)(z A:List V)(k:KK β):(zl 4 (zy (xf xI (xJ xh L) 0 L zqD) (zG 0 (CF.res cf_sha_schedule) k))) (.exit 4) (zkM z A)=zhq L z A (fun C=>k (V.agg C) []):=by kernel_rfl
def yT(L:Nat)(z:Int→List V→List V→List V→Ob β):Nat→Int→Int→Int→List V→List V→List V→Ob β
 | 0,_,_,_,_,_,_=>none
 | n+1,C,D,A,E,F,G=>zae L C D A E F G (fun C D A E F G=>yT L z n C D A E F G) z
theorem zgZ(L:Nat)(K:KT β):∀ (n:Nat) (F z E:Int) (A C D:List V),yx (xf xI (xJ xh L) 0 L zeg) zeH n (zbZ F z E A C D) K=yT L (fun z A C D=>K (.exit 2) (zj7 z A C D)) n F z E A C D:=by
 intro n; induction n <;> intros
 ·rfl
 ·exact (zoL ..).trans (by simp only [*]; rfl)
def zcp(L:Nat)(A:Int)(C D E:List V)(F:List V→List V→Ob β)(z:Int→List V→List V→List V→Ob β):Ob β:=zgm L A C D E (fun H A G C D E=>yT L (fun A C D E=>zdW L A C D E z) L H A G C D E) F
theorem ztS(L:Nat)(C:Int)(D z A:List V)(X:St→Ob β)(K:KT β):xf xI (xJ xh L) 0 L zfu (zbI C D z A) (xS zcI X K)=zcp L C D z A (fun z A=>K (.exit 0) (zeN z A)) (fun C D z A=>X (zbI C D z A)):=by
 refine (zvh ..).trans ?_
 unfold zcp
 first
  | (simp only [zgZ,zmO]; done)
  | (simp only [zgZ]; rfl)
def zcG(L:Nat)(z:List V→List V→Ob β):Nat→Int→List V→List V→List V→Ob β
 | 0,_,_,_,_=>none
 | n+1,A,C,D,E=>zcp L A C D E z (fun A C D E=>zcG L z n A C D E)
theorem zlW(L:Nat)(K:KT β):∀ (n:Nat) (C:Int) (D z A:List V),yx (xf xI (xJ xh L) 0 L zfu) zcI n (zbI C D z A) K=zcG L (fun z A=>K (.exit 0) (zeN z A)) n C D z A:=by
 intro n; induction n <;> intros
 ·rfl
 ·exact (ztS ..).trans (by simp only [*]; rfl)
def zch(L:Nat)(z:List V→List V→Ob β):Nat→Int→List V→List V→Ob β
 | 0,_,_,_=>none
 | n+1,A,C,D=>zcg xh L A C D (fun A C D=>zch L z n A C D) z
theorem zll(L:Nat)(K:KT β):∀ (n:Nat) (C:Int) (z A:List V),yx (xf xI (xJ xh L) 0 L zhS) ziA n (zd3 C z A) K=zch xh L (fun z A=>K (.exit 4) (zkM z A)) n C z A:=by
 intro n; induction n <;> intros
 ·rfl
 ·exact (ztQ ..).trans (by simp only [*]; rfl)
def zey(L:Nat)(z A:List V)(C:List V→Ob β):Ob β:=zia L z A (fun D z A=>zch xh L (fun z A=>zhq L z A C) L D z A)
theorem zse(L:Nat)(z A:List V)(k:KK β):(zl 0 (zy (xf xI (xJ xh L) 0 L zlw) (zG 0 (CF.res cf_sha_schedule) k))) (.exit 0) (zeN z A)=zey xh L z A (fun C=>k (V.agg C) []):=by
 refine (ztK ..).trans ?_
 unfold zey
 first
  | (simp only [zll,zr1]; done)
  | (simp only [zll]; rfl)
end
def zkU{β:Type}(xh:zeC)(L:Nat)(D:List V)(z:List V→Ob β):Ob β:=zpu L D (fun E F A C=>zcG L (fun A C=>zey xh L A C z) L E F A C)
theorem zCu{β:Type}(xh:zeC)(L:Nat)(z:List V)(k:KK β):zj xI (xJ xh L) L cf_sha_schedule [(V.agg z)] [] k=zkU xh L z (fun z=>k (V.agg z) []):=by
 refine (zCE xh L z k).trans ?_
 unfold zkU
 first
  | (simp only [zlW,zse]; done)
  | (simp only [zlW]; rfl)
abbrev zf0:=∀ (β:Type),Nat→List V→(List V→Ob β)→Ob β
def xy:zf0:=fun β=>@zkU β xh
def zpP(xy:zf0)(L:Nat):Dk:=dA AG fun z=>d0 fun β k=>xy β L z (fun z=>k (V.agg z) [])
theorem zC4(L:Nat):DK (zpP xy L) (fun _=>zj xI (xJ xh L) L cf_sha_schedule):=xp zfP fun z=>xO fun _ k=>zCu xh L z k
def zrA:Hint:=⟨[],[],[none,some ((bl 34359754740 131),(bl 2722258935367507704976878695863201710071 131)),none,some ((bl 16340 131),(bl 2722258935367507704976878695863201710039 131)),none,none],[],[],false,false,[]⟩
def cf_sha_Compress:CF:=cfD zrA 156
def zhi:CC:=yw [1,1,1,1,0,1,0,0] cf_sha_Compress.body
def zoX:CC:=yw [1,1,1,1,1] cf_sha_Compress.body
def zb0:Nat→Sh:=yD [(20,(.int .u32)),(22,(.int .u32)),(24,(.int .u32)),(26,(.int .u32)),(28,(.int .u32)),(30,(.int .u32)),(32,(.int .u32)),(34,(.int .u32)),(59,(.int .u32)),(63,(.int .u32)),(99,(.int .u32)),(103,(.int .u32)),(107,(.int .u32)),(111,(.int .u32)),(115,(.int .u32)),(119,(.int .u32)),(123,(.int .u32)),(127,(.int .u32))]
def zbR(xy:zf0)(xh:zeC)(L:Nat):CBC:=(zq 535 (zr6 xh L) (zq 534 (zpP xy L) noC))
def zh1:St→St:=zN 0 (bl 34359754740 131) (bl 2722258935367507704976878695863201710071 131)
def zdv(P Q R S I J M N O:Int)(T:List V)(z A C D E F G H:Int)(U:List V):St:=⟨(jn 2 ((V.ptr 2 0)::(jn 1 ((V.ptr 4 0)::((V.ptr 5 0)::((Qc P)::((Qc Q)::((Qc R)::((Qc S)::((Qc I)::((Qc J)::((Qc M)::((Qc N)::(jn 21 ((Qe O)::(jn 95 [])))))))))))))))),(gn 2 ((.live true T)::(gn 1 ((.live true [(Qc z),(Qc A),(Qc C),(Qc D),(Qc E),(Qc F),(Qc G),(Qc H)])::((.live true U)::(gn 125 []))))))⟩
def zkG(O P Q R I J M N:Int)(S:List V)(z A C D E F G H:Int):St:=⟨(jn 2 ((V.ptr 2 0)::(jn 1 ((V.ptr 4 0)::(jn 1 ((Qc O)::((Qc P)::((Qc Q)::((Qc R)::((Qc I)::((Qc J)::((Qc M)::((Qc N)::(jn 117 [])))))))))))))),(gn 2 ((.live true S)::(gn 1 ((.live true [(Qc z),(Qc A),(Qc C),(Qc D),(Qc E),(Qc F),(Qc G),(Qc H)])::(gn 126 [])))))⟩
abbrev zhy(β:Type):Type:=Int→Int→Int→Int→Int→Int→Int→Int→Int→List V→Int→Int→Int→Int→Int→Int→Int→Int→List V→Ob β
abbrev ziZ(β:Type):Type:=Int→Int→Int→Int→Int→Int→Int→Int→List V→Int→Int→Int→Int→Int→Int→Int→Int→Ob β
section
variable {β:Type} (xy:zf0) (xh:zeC)
def zpN(L:Nat)(z C:List V)(A:zhy β):Ob β:=chk (0+64≤(XI C)) (xy β L (XK 64 C) (fun D=>chk ((XI D)=64∧0+64≤64) (lt (xd (We 64 (Qc (0:Int))) 0 D) fun E=>cI .u32 z 0 fun F=>cI .u32 z 1 fun G=>cI .u32 z 2 fun H=>cI .u32 z 3 fun I=>cI .u32 z 4 fun J=>cI .u32 z 5 fun M=>cI .u32 z 6 fun N=>cI .u32 z 7 fun O=>A F G H I J M N O (0:Int) z (0:Int) (0:Int) (0:Int) (0:Int) (0:Int) (0:Int) (0:Int) (0:Int) E)))
theorem zCU(L:Nat)(I J:List V)(k:KK β):zj zb0 (zbR xy xh L) L cf_sha_Compress [(V.agg I),(V.agg J)] [] k=zpN xy L I J (fun R S T U M N O P Q W z A C D E F G H X=>yx (xf zb0 (zbR xy xh L) 0 L zhi) zh1 L (zdv R S T U M N O P Q W z A C D E F G H X) (zl 0 (zy (xf zb0 (zbR xy xh L) 0 L zoX) (zG 0 (CF.res cf_sha_Compress) k)))):=by kernel_rfl
def zc7(L:Nat)(D Q R W A E F S z:Int)(X:List V)(G H I J M N O P:Int)(Y:List V)(C:zhy β)(U:ziZ β):Ob β:=ifb (decide (z<(64:Int))) (xh β L A (6:Int) (fun Z=>xh β L A (11:Int) (fun aa=>lt (zcc .u32 Z aa) fun ab=>xh β L A (25:Int) (fun ac=>lt (zcc .u32 ab ac) fun ad=>lt (QG .u32 ((S:Int)+ad)) fun ae=>lt (zep .u32 A E) fun af=>lt (zLh .u32 A) fun ag=>lt (zep .u32 ag F) fun ah=>lt (zcc .u32 af ah) fun ai=>lt (QG .u32 ((ae:Int)+ai)) fun aj=>chk (0≤z∧z<((64:Nat):Int)) (cI .u32 (XL ((XJ z)*1) gk_sha_k) 0 fun ak=>lt (QG .u32 ((aj:Int)+ak)) fun al=>chk (0≤z∧z<((64:Nat):Int)) (cI .u32 Y (0+((XJ z)*1)) fun am=>lt (QG .u32 ((al:Int)+am)) fun T=>xh β L D (2:Int) (fun an=>xh β L D (13:Int) (fun ao=>lt (zcc .u32 an ao) fun ap=>xh β L D (22:Int) (fun aq=>lt (zcc .u32 ap aq) fun ar=>lt (zep .u32 D Q) fun au=>lt (zep .u32 D R) fun av=>lt (zcc .u32 au av) fun aw=>lt (zep .u32 Q R) fun ax=>lt (zcc .u32 aw ax) fun ay=>lt (QG .u32 ((ar:Int)+ay)) fun az=>lt (QG .u32 ((T:Int)+az)) fun aC=>lt (QG .u32 ((W:Int)+T)) fun aD=>lt (QG .i64 ((z:Int)+(1:Int))) fun aE=>C aC D Q R aD A E F aE X G H I J M N O P Y))))))))) (U D Q R W A E F S X G H I J M N O P)
theorem ztg(L:Nat)(P Q R S I J M N O:Int)(T:List V)(z A C D E F G H:Int)(U:List V)(X:St→Ob β)(K:KT β):xf zb0 (zbR xy xh L) 0 L zhi (zdv P Q R S I J M N O T z A C D E F G H U) (xS zh1 X K)=zc7 xh L P Q R S I J M N O T z A C D E F G H U (fun P Q R S I J M N O T z A C D E F G H U=>X (zdv P Q R S I J M N O T z A C D E F G H U)) (fun P Q R S I J M N T z A C D E F G H=>K (.exit 0) (zkG P Q R S I J M N T z A C D E F G H)):=by kernel_rfl
def zd0(L:Nat)(p6 p7 p8 p9 D E F G:Int)(z:List V)(ae af ag ah ai aj ak al:Int)(A:List V→Ob β):Ob β:=cI .u32 z 0 fun H=>lt (QG .u32 ((H:Int)+p6)) fun I=>cI .u32 z 1 fun J=>lt (QG .u32 ((J:Int)+p7)) fun M=>cI .u32 z 2 fun N=>lt (QG .u32 ((N:Int)+p8)) fun O=>cI .u32 z 3 fun P=>lt (QG .u32 ((P:Int)+p9)) fun Q=>cI .u32 z 4 fun R=>lt (QG .u32 ((R:Int)+D)) fun S=>cI .u32 z 5 fun T=>lt (QG .u32 ((T:Int)+E)) fun U=>cI .u32 z 6 fun W=>lt (QG .u32 ((W:Int)+F)) fun X=>cI .u32 z 7 fun Y=>lt (QG .u32 ((Y:Int)+G)) fun Z=>lt [(Qc I),(Qc M),(Qc O),(Qc Q),(Qc S),(Qc U),(Qc X),(Qc Z)] fun C=>chk (0=0∧(XI C)=8∧8≠0) (A C)
theorem zqW(L:Nat)(O P Q R I J M N:Int)(S:List V)(z A C D E F G H:Int)(k:KK β):(zl 0 (zy (xf zb0 (zbR xy xh L) 0 L zoX) (zG 0 (CF.res cf_sha_Compress) k))) (.exit 0) (zkG O P Q R I J M N S z A C D E F G H)=zd0 L O P Q R I J M N S z A C D E F G H (fun T=>k (V.agg T) []):=by kernel_rfl
def zb1(L:Nat)(I:ziZ β):Nat→Int→Int→Int→Int→Int→Int→Int→Int→Int→List V→Int→Int→Int→Int→Int→Int→Int→Int→List V→Ob β
 | 0,_,_,_,_,_,_,_,_,_,_,_,_,_,_,_,_,_,_,_=>none
 | n+1,Q,R,S,T,J,M,N,O,P,U,z,A,C,D,E,F,G,H,W=>zc7 xh L Q R S T J M N O P U z A C D E F G H W (fun Q R S T J M N O P U z A C D E F G H W=>zb1 L I n Q R S T J M N O P U z A C D E F G H W) I
theorem zkQ(L:Nat)(K:KT β):∀ (n:Nat) (O P Q R I J M N T:Int) (S:List V) (z A C D E F G H:Int) (U:List V),yx (xf zb0 (zbR xy xh L) 0 L zhi) zh1 n (zdv O P Q R I J M N T S z A C D E F G H U) K=zb1 xh L (fun O P Q R I J M N S z A C D E F G H=>K (.exit 0) (zkG O P Q R I J M N S z A C D E F G H)) n O P Q R I J M N T S z A C D E F G H U:=by
 intro n; induction n <;> intros
 ·rfl
 ·exact (ztg ..).trans (by simp only [*]; rfl)
end
def zkY{β:Type}(xy:zf0)(xh:zeC)(L:Nat)(W X:List V)(O:List V→Ob β):Ob β:=zpN xy L W X (fun P Q R S I J M N U T z A C D E F G H Y=>zb1 xh L (fun P Q R S I J M N T z A C D E F G H=>zd0 L P Q R S I J M N T z A C D E F G H O) L P Q R S I J M N U T z A C D E F G H Y)
theorem zB9{β:Type}(xy:zf0)(xh:zeC)(L:Nat)(z A:List V)(k:KK β):zj zb0 (zbR xy xh L) L cf_sha_Compress [(V.agg z),(V.agg A)] [] k=zkY xy xh L z A (fun z=>k (V.agg z) []):=by
 refine (zCU xy xh L z A k).trans ?_
 unfold zkY
 first
  | (simp only [zkQ,zqW]; done)
  | (simp only [zkQ]; rfl)
abbrev zfY:=∀ (β:Type),Nat→List V→List V→(List V→Ob β)→Ob β
def yp:zfY:=fun β=>@zkY β xy xh
def zpH(yp:zfY)(L:Nat):Dk:=dA AG fun z=>dA AG fun A=>d0 fun β k=>yp β L z A (fun z=>k (V.agg z) [])
theorem zCs(L:Nat):DK (zpH yp L) (fun _=>zj zb0 (zbR xy xh L) L cf_sha_Compress):=xp zfP fun z=>xp zfP fun A=>xO fun _ k=>zB9 xy xh L z A k
def zAr:Hint:=⟨[(1,7)],[],[none,some ((bl 786460 48),(bl 281474439839647 48)),none,some ((bl 20 48),(bl 281474439839647 48)),none,none,some ((bl 2147483732 48),(bl 281474976710527 48)),none,some ((bl 68 48),(bl 281474976710511 48)),none,none],[],[],false,false,[]⟩
def cf_sha_Sum:CF:=cfD zAr 104
def zkr:CC:=yw [1,1,1,1,1,0,1,0,0] cf_sha_Sum.body
def zmH:CC:=yw [1,1,1,0,1,0,0] cf_sha_Sum.body
def zul:CC:=yw [1,1,1,1,1,1] cf_sha_Sum.body
def zrl:CC:=yw [1,1,1,1] cf_sha_Sum.body
def zbC:Nat→Sh:=yD [(38,(.int .u32))]
def zbz(xM:zm7)(yL:znb)(yp:zfY)(L:Nat):CBC:=(zq 498 (zpH yp L) (zq 496 (zAu yL L) (zq 497 (zBD xM L) noC)))
def zom:St→St:=zN 0 (bl 786460 48) (bl 281474439839647 48)
def zlC:St→St:=zN 0 (bl 2147483732 48) (bl 281474976710527 48)
def zhb(C:Ls)(z A:Int)(D E:List V):St:=⟨(jn 2 ((V.ptr 2 0)::((V.gs 1 C)::((V.ptr 4 0)::(jn 13 ((Qe z)::((Qe A)::(jn 28 [])))))))),(gn 2 ((.live true D)::(gn 1 ((.live true E)::(gn 43 [])))))⟩
def zmD(z A:List V):St:=⟨(jn 2 ((V.ptr 2 0)::(jn 1 ((V.ptr 4 0)::(jn 43 []))))),(gn 2 ((.live true z)::(gn 1 ((.live true A)::(gn 43 [])))))⟩
def zfH(z:Int)(A C D:List V):St:=⟨(jn 2 ((V.ptr 2 0)::(jn 1 ((V.ptr 4 0)::(jn 1 ((V.ptr 6 0)::(jn 24 ((Qe z)::(jn 16 []))))))))),(gn 2 ((.live true A)::(gn 1 ((.live true C)::(gn 1 ((.live true D)::(gn 41 [])))))))⟩
def zrk(z A:List V):St:=⟨(jn 2 ((V.ptr 2 0)::(jn 3 ((V.ptr 6 0)::(jn 41 []))))),(gn 2 ((.live true z)::(gn 3 ((.live true A)::(gn 41 [])))))⟩
section
variable {β:Type} (xM:zm7) (yL:znb) (yp:zfY)
def zAI(L:Nat)(A:Ls)(z:Ls→Int→Int→List V→List V→Ob β):Ob β:=lt (QG .u64 ((XI A:Nat):Int)) fun E=>xM β L E (fun F=>yL β L (yf 1 2 [(V.sl 1 A),(V.sl 1 F)]) (fun C=>chk ((XI (XK 8 gk_sha_initial))=8∧0+8≤8) (lt (xd [(Qc (0:Int)),(Qc (0:Int)),(Qc (0:Int)),(Qc (0:Int)),(Qc (0:Int)),(Qc (0:Int)),(Qc (0:Int)),(Qc (0:Int))] 0 (XK 8 gk_sha_initial)) fun G=>lt (QG .i64 (Int.tdiv ((XI C:Nat):Int) (64:Int))) fun H=>z C H (0:Int) (We 32 (Qa (0:Int))) G))) (fun I=>yL β L (yf 1 2 [(V.sl 1 A),(V.sl 1 I)]) (fun D=>chk ((XI (XK 8 gk_sha_initial))=8∧0+8≤8) (lt (xd [(Qc (0:Int)),(Qc (0:Int)),(Qc (0:Int)),(Qc (0:Int)),(Qc (0:Int)),(Qc (0:Int)),(Qc (0:Int)),(Qc (0:Int))] 0 (XK 8 gk_sha_initial)) fun J=>lt (QG .i64 (Int.tdiv ((XI D:Nat):Int) (64:Int))) fun M=>z D M (0:Int) (We 32 (Qa (0:Int))) J)))
theorem zLK(L:Nat)(z:Ls)(k:KK β):zj zbC (zbz xM yL yp L) L cf_sha_Sum [(V.sl 1 z)] [] k=zAI xM yL L z (fun D A C E F=>yx (xf zbC (zbz xM yL yp L) 0 L zmH) zom L (zhb D A C E F) (zl 0 (zy (xf zbC (zbz xM yL yp L) 0 L zrl) (zG 0 (CF.res cf_sha_Sum) k)))):=by kernel_rfl
def zg0(L:Nat)(A:Ls)(F D:Int)(I E:List V)(z:Ls→Int→Int→List V→List V→Ob β)(H:List V→List V→Ob β):Ob β:=ifb (decide (D<F)) (chk (0+8≤(XI E)) (lt (QG .i64 (((64:Int):Int)*D)) fun C=>chk (0≤C∧C≤(((XI A):Nat):Int)) (chk (64≤(XI (XK ((XI A)-(XJ C)) (XL (XJ C) A)))) (yp β L (XK 8 E) (XK 64 (XM (XK 64 (XK ((XI A)-(XJ C)) (XL (XJ C) A))))) (fun G=>chk ((XI G)=8∧0+8≤(XI E)) (lt (xd E 0 G) fun J=>lt (QG .i64 ((D:Int)+(1:Int))) fun M=>z A F M I J)))))) (H I E)
theorem zA4(L:Nat)(E:Ls)(z A:Int)(C D:List V)(X:St→Ob β)(K:KT β):xf zbC (zbz xM yL yp L) 0 L zmH (zhb E z A C D) (xS zom X K)=zg0 yp L E z A C D (fun E z A C D=>X (zhb E z A C D)) (fun C D=>K (.exit 0) (zmD C D)):=by kernel_rfl
def zlv(L:Nat)(A C:List V)(z:Int→List V→List V→List V→Ob β):Ob β:=z (0:Int) A C (We 32 (Qa (0:Int)))
theorem zxI(L:Nat)(z A:List V)(k:KK β):(zl 0 (zy (xf zbC (zbz xM yL yp L) 0 L zrl) (zG 0 (CF.res cf_sha_Sum) k))) (.exit 0) (zmD z A)=zlv L z A (fun C z A D=>yx (xf zbC (zbz xM yL yp L) 0 L zkr) zlC L (zfH C z A D) (zl 2 (zy (xf zbC (zbz xM yL yp L) 0 L zul) (zG 0 (CF.res cf_sha_Sum) k)))):=by kernel_rfl
def zfj(L:Nat)(z:Int)(G H E:List V)(A:Int→List V→List V→List V→Ob β)(F:List V→List V→Ob β):Ob β:=ifb (decide (z<(32:Int))) (lt (QG .i64 (Int.tdiv z (4:Int))) fun C=>chk (0≤C∧C<((8:Nat):Int)) (cI .u32 H (0+((XJ C)*1)) fun I=>lt (XN z (4:Int)) fun J=>lt (QG .i64 ((J:Int)*(8:Int))) fun M=>lt (QG .i64 (((24:Int):Int)-M)) fun D=>chk (0≤D) (lt (zcS .u32 I D) fun N=>lt (QG .u8 N) fun O=>chk (0≤z∧z<((32:Nat):Int)) (chk (1=1∧(0+((XJ z)*1))+1≤(XI E)) (lt (xd E (0+((XJ z)*1)) [(Qa O)]) fun P=>lt (QG .i64 ((z:Int)+(1:Int))) fun Q=>A Q G H P))))) (F G E)
theorem zyh(L:Nat)(z:Int)(A D C:List V)(X:St→Ob β)(K:KT β):xf zbC (zbz xM yL yp L) 0 L zkr (zfH z A D C) (xS zlC X K)=zfj L z A D C (fun z A D C=>X (zfH z A D C)) (fun A C=>K (.exit 2) (zrk A C)):=by kernel_rfl
def zjy(L:Nat)(D C:List V)(z:List V→Ob β):Ob β:=chk (0+32≤(XI C)) (chk ((XI (XK 32 C))=32∧0+32≤(XI D)) (lt (xd D 0 (XK 32 C)) fun A=>chk (0=0∧(XI A)=32∧32≠0) (z A)))
theorem zu7(L:Nat)(z A:List V)(k:KK β):(zl 2 (zy (xf zbC (zbz xM yL yp L) 0 L zul) (zG 0 (CF.res cf_sha_Sum) k))) (.exit 2) (zrk z A)=zjy L z A (fun C=>k (V.agg C) []):=by kernel_rfl
def ze7(L:Nat)(z:List V→List V→Ob β):Nat→Ls→Int→Int→List V→List V→Ob β
 | 0,_,_,_,_,_=>none
 | n+1,D,A,C,E,F=>zg0 yp L D A C E F (fun D A C E F=>ze7 L z n D A C E F) z
theorem zqB(L:Nat)(K:KT β):∀ (n:Nat) (E:Ls) (C D:Int) (z A:List V),yx (xf zbC (zbz xM yL yp L) 0 L zmH) zom n (zhb E C D z A) K=ze7 yp L (fun z A=>K (.exit 0) (zmD z A)) n E C D z A:=by
 intro n; induction n <;> intros
 ·rfl
 ·exact (zA4 ..).trans (by simp only [*]; rfl)
def zdN(L:Nat)(z:List V→List V→Ob β):Nat→Int→List V→List V→List V→Ob β
 | 0,_,_,_,_=>none
 | n+1,A,C,D,E=>zfj L A C D E (fun A C D E=>zdN L z n A C D E) z
theorem zox(L:Nat)(K:KT β):∀ (n:Nat) (C:Int) (z D A:List V),yx (xf zbC (zbz xM yL yp L) 0 L zkr) zlC n (zfH C z D A) K=zdN L (fun z A=>K (.exit 2) (zrk z A)) n C z D A:=by
 intro n; induction n <;> intros
 ·rfl
 ·exact (zyh ..).trans (by simp only [*]; rfl)
def zgS(L:Nat)(z C:List V)(A:List V→Ob β):Ob β:=zlv L z C (fun E z C D=>zdN L (fun z D=>zjy L z D A) L E z C D)
theorem zwo(L:Nat)(z A:List V)(k:KK β):(zl 0 (zy (xf zbC (zbz xM yL yp L) 0 L zrl) (zG 0 (CF.res cf_sha_Sum) k))) (.exit 0) (zmD z A)=zgS L z A (fun C=>k (V.agg C) []):=by
 refine (zxI ..).trans ?_
 unfold zgS
 first
  | (simp only [zox,zu7]; done)
  | (simp only [zox]; rfl)
end
def zut{β:Type}(xM:zm7)(yL:znb)(yp:zfY)(L:Nat)(F:Ls)(z:List V→Ob β):Ob β:=zAI xM yL L F (fun G D E A C=>ze7 yp L (fun A C=>zgS L A C z) L G D E A C)
theorem zKs{β:Type}(xM:zm7)(yL:znb)(yp:zfY)(L:Nat)(z:Ls)(k:KK β):zj zbC (zbz xM yL yp L) L cf_sha_Sum [(V.sl 1 z)] [] k=zut xM yL yp L z (fun z=>k (V.agg z) []):=by
 refine (zLK xM yL yp L z k).trans ?_
 unfold zut
 first
  | (simp only [zqB,zwo]; done)
  | (simp only [zqB]; rfl)
abbrev zql:=∀ (β:Type),Nat→Ls→(List V→Ob β)→Ob β
def zaD:zql:=fun β=>@zut β xM yL yp
def zuD(zaD:zql)(L:Nat):Dk:=dA (AL 1) fun z=>d0 fun β k=>zaD β L z (fun z=>k (V.agg z) [])
theorem zKD(L:Nat):DK (zuD zaD L) (fun _=>zj zbC (zbz xM yL yp L) L cf_sha_Sum):=xp zaL fun z=>xO fun _ k=>zKs xM yL yp L z k
def zuz:Hint:=⟨[],[],[none],[],[],false,false,[]⟩
def zyF:CF:=cfD zuz 63
def zq9:Nat→Sh:=yD []
def zrf(zaD:zql)(L:Nat):CBC:=(zq 458 (zuD zaD L) noC)
def ztx{β:Type}(zaD:zql)(L:Nat)(H:Ls)(z:List V→Ob β):Ob β:=zaD β L H (fun C=>chk ((XI C)=32∧0+32≤32) (lt (xd (We 32 (Qa (0:Int))) 0 C) fun A=>chk (0+32*1≤(XI A)) (ifb (List.isEmpty A) (zaD β L (yf 1 32 A) (fun D=>chk ((XI D)=32∧0+32≤32) (lt (xd (We 32 (Qa (0:Int))) 0 D) fun E=>chk (0=0∧(XI E)=32∧32≠0) (z E)))) (zaD β L (yf 1 32 A) (fun F=>chk ((XI F)=32∧0+32≤32) (lt (xd (We 32 (Qa (0:Int))) 0 F) fun G=>chk (0=0∧(XI G)=32∧32≠0) (z G)))))))
theorem zGc{β:Type}(zaD:zql)(L:Nat)(z:Ls)(k:KK β):zj zq9 (zrf zaD L) L zyF [(V.sl 1 z)] [] k=ztx zaD L z (fun z=>k (V.agg z) []):=by kernel_rfl
abbrev zBn:=∀ (β:Type),Nat→Ls→(List V→Ob β)→Ob β
def zeM:zBn:=fun β=>@ztx β zaD
def ztN(zeM:zBn)(L:Nat):Dk:=dA (AL 1) fun z=>d0 fun β k=>zeM β L z (fun z=>k (V.agg z) [])
theorem zF3(L:Nat):DK (ztN zeM L) (fun _=>zj zq9 (zrf zaD L) L zyF):=xp zaL fun z=>xO fun _ k=>zGc zaD L z k
def zuh:Hint:=⟨[],[],[none,none,none,none,none],[],[],false,false,[]⟩
def zyI:CF:=cfD zuh 100
def zrq:Nat→Sh:=yD []
def zrb(L:Nat):CBC:=noC
def zs2{β:Type}(L:Nat)(C:Ls)(A D:Int)(z:Int→Ob β):Ob β:=ifb (decide (A<(0:Int))) (z (5:Int)) (ifb (decide (A>((XI C:Nat):Int))) (z (5:Int)) (lt (QG .i64 ((((XI C:Nat):Int):Int)-A)) fun E=>ifb (decide (E<D)) (z (1:Int)) (z (0:Int))))
theorem zGJ{β:Type}(L:Nat)(z:Ls)(A C:Int)(k:KK β):zj zrq (zrb L) L zyI [(V.sl 1 z),(Qe A),(Qe C)] [] k=zs2 L z A C (fun z=>k (Qe z) []):=by kernel_rfl
abbrev zU:=∀ (β:Type),Nat→Ls→Int→Int→(Int→Ob β)→Ob β
def yc:zU:=fun β=>@zs2 β
def zf5(yc:zU)(L:Nat):Dk:=dA (AL 1) fun z=>dA (AI .i64) fun A=>dA (AI .i64) fun C=>d0 fun β k=>yc β L z A C (fun z=>k (Qe z) [])
theorem zFR(L:Nat):DK (zf5 yc L) (fun _=>zj zrq (zrb L) L zyI):=xp zaL fun z=>xp xY fun A=>xp xY fun C=>xO fun _ k=>zGJ L z A C k
def zlQ:Hint:=⟨[],[],[none,none,none,some ((bl 1573895 40),(bl 1099511625727 40)),none,some ((bl 1030 40),(bl 1099511625727 40)),none,none],[],[],false,false,[]⟩
def cf_codec_read_uint32:CF:=cfD zlQ 99
def zfb:CC:=yw [1,1,1,0,1,0,0] cf_codec_read_uint32.body
def zlk:CC:=yw [1,1,1,1] cf_codec_read_uint32.body
def zav:Nat→Sh:=yD [(29,(.int .u8))]
def zaB(yc:zU)(L:Nat):CBC:=(zq 198 (zf5 yc L) noC)
def zft:St→St:=zN 0 (bl 1573895 40) (bl 1099511625727 40)
def zcr(D:Ls)(E F z A C:Int):St:=⟨((V.sl 1 D)::((Qe E)::((Qe F)::(jn 7 ((Qc z)::(jn 8 ((Qe A)::((Qe C)::(jn 19 []))))))))),(gn 40 [])⟩
def zgK(A C z:Int):St:=⟨(jn 1 ((Qe A)::((Qe C)::(jn 7 ((Qc z)::(jn 29 [])))))),(gn 40 [])⟩
section
variable {β:Type} (yc:zU)
def zjH(L:Nat)(D:Ls)(E C:Int)(A:Int→Int→Int→Ob β)(z:Ls→Int→Int→Int→Int→Int→Ob β):Ob β:=yc β L D E C (fun F=>ifb ((F:Int) != (0:Int)) (A (0:Int) (0:Int) F) (z D E C (0:Int) C (0:Int)))
theorem zvu(L:Nat)(z:Ls)(A C:Int)(k:KK β):zj zav (zaB yc L) L cf_codec_read_uint32 [(V.sl 1 z),(Qe A),(Qe C)] [] k=zjH yc L z A C (fun D E F=>k (V.tup [(Qc D),(Qe E),(Qe F)]) []) (fun z A C G H I=>yx (xf zav (zaB yc L) 0 L zfb) zft L (zcr z A C G H I) (zl 0 (zy (xf zav (zaB yc L) 0 L zlk) (zG 0 (CF.res cf_codec_read_uint32) k)))):=by kernel_rfl
def zfG(L:Nat)(G:Ls)(E H C D A:Int)(z:Ls→Int→Int→Int→Int→Int→Ob β)(F:Int→Int→Int→Ob β):Ob β:=ifb (decide (A<D)) (lt (QG .i64 ((E:Int)+A)) fun J=>idx G J fun M=>cI .u8 M 0 fun N=>lt (QG .u32 N) fun O=>lt (QG .i64 (((8:Int):Int)*A)) fun I=>chk (0≤I) (lt (zct .u32 O I) fun P=>lt (ior .u32 C P) fun Q=>lt (QG .i64 ((A:Int)+(1:Int))) fun R=>z G E H Q D R)) (F E H C)
theorem zpC(L:Nat)(F:Ls)(D E z A C:Int)(X:St→Ob β)(K:KT β):xf zav (zaB yc L) 0 L zfb (zcr F D E z A C) (xS zft X K)=zfG L F D E z A C (fun F D E z A C=>X (zcr F D E z A C)) (fun D E z=>K (.exit 0) (zgK D E z)):=by kernel_rfl
def zeP(L:Nat)(C D A:Int)(z:Int→Int→Int→Ob β):Ob β:=lt (QG .i64 ((C:Int)+D)) fun E=>z A E (0:Int)
theorem zoG(L:Nat)(E F z:Int)(k:KK β):(zl 0 (zy (xf zav (zaB yc L) 0 L zlk) (zG 0 (CF.res cf_codec_read_uint32) k))) (.exit 0) (zgK E F z)=zeP L E F z (fun A C D=>k (V.tup [(Qc A),(Qe C),(Qe D)]) []):=by kernel_rfl
def zbU(L:Nat)(z:Int→Int→Int→Ob β):Nat→Ls→Int→Int→Int→Int→Int→Ob β
 | 0,_,_,_,_,_,_=>none
 | n+1,E,F,G,A,C,D=>zfG L E F G A C D (fun E F G A C D=>zbU L z n E F G A C D) z
theorem zhP(L:Nat)(K:KT β):∀ (n:Nat) (F:Ls) (A C z D E:Int),yx (xf zav (zaB yc L) 0 L zfb) zft n (zcr F A C z D E) K=zbU L (fun A C z=>K (.exit 0) (zgK A C z)) n F A C z D E:=by
 intro n; induction n <;> intros
 ·rfl
 ·exact (zpC ..).trans (by simp only [*]; rfl)
end
def zgr{β:Type}(yc:zU)(L:Nat)(E:Ls)(A C:Int)(z:Int→Int→Int→Ob β):Ob β:=zjH yc L E A C z (fun E A C D F G=>zbU L (fun A C D=>zeP L A C D z) L E A C D F G)
theorem zu8{β:Type}(yc:zU)(L:Nat)(z:Ls)(A C:Int)(k:KK β):zj zav (zaB yc L) L cf_codec_read_uint32 [(V.sl 1 z),(Qe A),(Qe C)] [] k=zgr yc L z A C (fun D E F=>k (V.tup [(Qc D),(Qe E),(Qe F)]) []):=by
 refine (zvu yc L z A C k).trans ?_
 unfold zgr
 first
  | (simp only [zhP,zoG]; done)
  | (simp only [zhP]; rfl)
abbrev zd5:=∀ (β:Type),Nat→Ls→Int→Int→(Int→Int→Int→Ob β)→Ob β
def zK:zd5:=fun β=>@zgr β yc
def zjx(zK:zd5)(L:Nat):Dk:=dA (AL 1) fun D=>dA (AI .i64) fun E=>dA (AI .i64) fun F=>d0 fun β k=>zK β L D E F (fun z A C=>k (V.tup [(Qc z),(Qe A),(Qe C)]) [])
theorem zvt(L:Nat):DK (zjx zK L) (fun _=>zj zav (zaB yc L) L cf_codec_read_uint32):=xp zaL fun z=>xp xY fun A=>xp xY fun C=>xO fun _ k=>zu8 yc L z A C k
def zwT:Hint:=⟨[],[],[none],[],[],false,false,[]⟩
def zAo:CF:=cfD zwT 58
def zsQ:Nat→Sh:=yD []
def ztl(zK:zd5)(L:Nat):CBC:=(zq 197 (zjx zK L) noC)
def zvH{β:Type}(zK:zd5)(L:Nat)(A:Ls)(C:Int)(z:Int→Int→Int→Ob β):Ob β:=zK β L A C (4:Int) (fun D E F=>z D E F)
theorem zIC{β:Type}(zK:zd5)(L:Nat)(D:Ls)(E:Int)(k:KK β):zj zsQ (ztl zK L) L zAo [(V.sl 1 D),(Qe E)] [] k=zvH zK L D E (fun z A C=>k (V.tup [(Qc z),(Qe A),(Qe C)]) []):=by kernel_rfl
abbrev zcM:=∀ (β:Type),Nat→Ls→Int→(Int→Int→Int→Ob β)→Ob β
def yt:zcM:=fun β=>@zvH β zK
def zmk(yt:zcM)(L:Nat):Dk:=dA (AL 1) fun D=>dA (AI .i64) fun E=>d0 fun β k=>yt β L D E (fun z A C=>k (V.tup [(Qc z),(Qe A),(Qe C)]) [])
theorem zHs(L:Nat):DK (zmk yt L) (fun _=>zj zsQ (ztl zK L) L zAo):=xp zaL fun z=>xp xY fun A=>xO fun _ k=>zIC zK L z A k
def zuM:Hint:=⟨[(5,1)],[],[none,none,none],[],[],false,false,[]⟩
def zyy:CF:=cfD zuM 59
def zqK:Nat→Sh:=yD []
def zqY(yc:zU)(L:Nat):CBC:=(zq 198 (zf5 yc L) noC)
def zsK{β:Type}(yc:zU)(L:Nat)(C:Ls)(z:Int)(A:List V→Int→Int→Ob β):Ob β:=yc β L C z (32:Int) (fun E=>ifb ((E:Int) != (0:Int)) (lt (We 32 (Qa (0:Int))) fun F=>chk (0=0∧(XI F)=32∧32≠0) (A F (0:Int) E)) (chk (0≤z∧z≤(((XI C):Nat):Int)) (lt (xd (We 32 (Qa (0:Int))) 0 (XM (XK (min (XI (XK ((XI C)-(XJ z)) (XL (XJ z) C))) 32) (XK ((XI C)-(XJ z)) (XL (XJ z) C))))) fun D=>chk (0+32≤(XI D)) (lt (QG .i64 ((z:Int)+(32:Int))) fun H=>chk ((XI (XK 32 D))=32∧0+32≤32) (lt (xd (We 32 (Qa (0:Int))) 0 (XK 32 D)) fun G=>chk (0=0∧(XI G)=32∧32≠0) (A G H (0:Int)))))))
theorem zG1{β:Type}(yc:zU)(L:Nat)(D:Ls)(E:Int)(k:KK β):zj zqK (zqY yc L) L zyy [(V.sl 1 D),(Qe E)] [] k=zsK yc L D E (fun z A C=>k (V.tup [(V.agg z),(Qe A),(Qe C)]) []):=by kernel_rfl
abbrev zeU:=∀ (β:Type),Nat→Ls→Int→(List V→Int→Int→Ob β)→Ob β
def yE:zeU:=fun β=>@zsK β yc
def znv(yE:zeU)(L:Nat):Dk:=dA (AL 1) fun D=>dA (AI .i64) fun E=>d0 fun β k=>yE β L D E (fun z A C=>k (V.tup [(V.agg z),(Qe A),(Qe C)]) [])
theorem zGL(L:Nat):DK (znv yE L) (fun _=>zj zqK (zqY yc L) L zyy):=xp zaL fun z=>xp xY fun A=>xO fun _ k=>zG1 yc L z A k
def zlm:Hint:=⟨[(5,3),(6,3),(7,3),(8,3),(9,3),(10,3)],[],[none,none,none],[],[],false,false,[]⟩
def znn:CF:=cfD zlm 26
def zhM:Nat→Sh:=yD []
def zie(yt:zcM)(yE:zeU)(L:Nat):CBC:=(zq 172 (znv yE L) (zq 170 (zmk yt L) noC))
def ziY{β:Type}(yt:zcM)(yE:zeU)(L:Nat)(z:Ls)(A:List V→Int→Ob β):Ob β:=ifb ((((XI z:Nat):Int):Int) != (80:Int)) (lt ([(Qc (0:Int))]++We 64 (Qa (0:Int))++[(Qc (0:Int)),(Qc (0:Int)),(Qc (0:Int))]) fun H=>chk (0=0∧(XI H)=68∧68≠0) (A H (8:Int))) (yt β L z (0:Int) (fun U W v3=>lt ([(Qc U)]++We 64 (Qa (0:Int))++[(Qc (0:Int)),(Qc (0:Int)),(Qc (0:Int))]) fun I=>yE β L z W (fun J X v7=>chk ((XI J)=32∧1+32≤(XI I)) (lt (xd I 1 J) fun M=>yE β L z X (fun N O Y=>chk ((XI N)=32∧33+32≤(XI M)) (lt (xd M 33 N) fun D=>yt β L z O (fun P Q Z=>chk (1=1∧65+1≤(XI D)) (lt (xd D 65 [(Qc P)]) fun E=>yt β L z Q (fun R S aa=>chk (1=1∧66+1≤(XI E)) (lt (xd E 66 [(Qc R)]) fun F=>yt β L z S (fun T ab ac=>chk (1=1∧67+1≤(XI F)) (lt (xd F 67 [(Qc T)]) fun C=>chk (0+68≤(XI C)) (chk ((XI (XK 68 C))=68∧0+68≤68) (lt (xd ([(Qc (0:Int))]++We 64 (Qa (0:Int))++[(Qc (0:Int)),(Qc (0:Int)),(Qc (0:Int))]) 0 (XK 68 C)) fun G=>chk (0=0∧(XI G)=68∧68≠0) (A G (0:Int))))))))))))))))
theorem ztV{β:Type}(yt:zcM)(yE:zeU)(L:Nat)(C:Ls)(k:KK β):zj zhM (zie yt yE L) L znn [(V.sl 1 C)] [] k=ziY yt yE L C (fun z A=>k (V.tup [(V.agg z),(Qe A)]) []):=by kernel_rfl
abbrev zcn:=∀ (β:Type),Nat→Ls→(List V→Int→Ob β)→Ob β
def xn:zcn:=fun β=>@ziY β yt yE
def ziq(xn:zcn)(L:Nat):Dk:=dA (AL 1) fun C=>d0 fun β k=>xn β L C (fun z A=>k (V.tup [(V.agg z),(Qe A)]) [])
theorem ztW(L:Nat):DK (ziq xn L) (fun _=>zj zhM (zie yt yE L) L znn):=xp zaL fun z=>xO fun _ k=>ztV yt yE L z k
def zng:Hint:=⟨[],[],[none,none,none,some ((bl 1573895 39),(bl 549755811839 39)),none,some ((bl 1030 39),(bl 549755811839 39)),none,none],[],[],false,false,[]⟩
def cf_codec_read_uint8:CF:=cfD zng 157
def zfI:CC:=yw [1,1,1,0,1,0,0] cf_codec_read_uint8.body
def zlV:CC:=yw [1,1,1,1] cf_codec_read_uint8.body
def zaU:Nat→Sh:=yD [(29,(.int .u8))]
def zaV(yc:zU)(L:Nat):CBC:=(zq 198 (zf5 yc L) noC)
def zge:St→St:=zN 0 (bl 1573895 39) (bl 549755811839 39)
def zcB(D:Ls)(E F z A C:Int):St:=⟨((V.sl 1 D)::((Qe E)::((Qe F)::(jn 7 ((Qa z)::(jn 8 ((Qe A)::((Qe C)::(jn 18 []))))))))),(gn 39 [])⟩
def zht(A C z:Int):St:=⟨(jn 1 ((Qe A)::((Qe C)::(jn 7 ((Qa z)::(jn 28 [])))))),(gn 39 [])⟩
section
variable {β:Type} (yc:zU)
def zki(L:Nat)(D:Ls)(E C:Int)(A:Int→Int→Int→Ob β)(z:Ls→Int→Int→Int→Int→Int→Ob β):Ob β:=yc β L D E C (fun F=>ifb ((F:Int) != (0:Int)) (A (0:Int) (0:Int) F) (z D E C (0:Int) C (0:Int)))
theorem zxb(L:Nat)(z:Ls)(A C:Int)(k:KK β):zj zaU (zaV yc L) L cf_codec_read_uint8 [(V.sl 1 z),(Qe A),(Qe C)] [] k=zki yc L z A C (fun D E F=>k (V.tup [(Qa D),(Qe E),(Qe F)]) []) (fun z A C G H I=>yx (xf zaU (zaV yc L) 0 L zfI) zge L (zcB z A C G H I) (zl 0 (zy (xf zaU (zaV yc L) 0 L zlV) (zG 0 (CF.res cf_codec_read_uint8) k)))):=by kernel_rfl
def zgd(L:Nat)(G:Ls)(E H C D A:Int)(z:Ls→Int→Int→Int→Int→Int→Ob β)(F:Int→Int→Int→Ob β):Ob β:=ifb (decide (A<D)) (lt (QG .i64 ((E:Int)+A)) fun J=>idx G J fun M=>cI .u8 M 0 fun N=>lt (QG .i64 (((8:Int):Int)*A)) fun I=>chk (0≤I) (lt (zct .u8 N I) fun O=>lt (ior .u8 C O) fun P=>lt (QG .i64 ((A:Int)+(1:Int))) fun Q=>z G E H P D Q)) (F E H C)
theorem zqj(L:Nat)(F:Ls)(D E z A C:Int)(X:St→Ob β)(K:KT β):xf zaU (zaV yc L) 0 L zfI (zcB F D E z A C) (xS zge X K)=zgd L F D E z A C (fun F D E z A C=>X (zcB F D E z A C)) (fun D E z=>K (.exit 0) (zht D E z)):=by kernel_rfl
def zfh(L:Nat)(C D A:Int)(z:Int→Int→Int→Ob β):Ob β:=lt (QG .i64 ((C:Int)+D)) fun E=>z A E (0:Int)
theorem zoM(L:Nat)(E F z:Int)(k:KK β):(zl 0 (zy (xf zaU (zaV yc L) 0 L zlV) (zG 0 (CF.res cf_codec_read_uint8) k))) (.exit 0) (zht E F z)=zfh L E F z (fun A C D=>k (V.tup [(Qa A),(Qe C),(Qe D)]) []):=by kernel_rfl
def zcd(L:Nat)(z:Int→Int→Int→Ob β):Nat→Ls→Int→Int→Int→Int→Int→Ob β
 | 0,_,_,_,_,_,_=>none
 | n+1,E,F,G,A,C,D=>zgd L E F G A C D (fun E F G A C D=>zcd L z n E F G A C D) z
theorem zil(L:Nat)(K:KT β):∀ (n:Nat) (F:Ls) (A C z D E:Int),yx (xf zaU (zaV yc L) 0 L zfI) zge n (zcB F A C z D E) K=zcd L (fun A C z=>K (.exit 0) (zht A C z)) n F A C z D E:=by
 intro n; induction n <;> intros
 ·rfl
 ·exact (zqj ..).trans (by simp only [*]; rfl)
end
def zg3{β:Type}(yc:zU)(L:Nat)(E:Ls)(A C:Int)(z:Int→Int→Int→Ob β):Ob β:=zki yc L E A C z (fun E A C D F G=>zcd L (fun A C D=>zfh L A C D z) L E A C D F G)
theorem zwm{β:Type}(yc:zU)(L:Nat)(z:Ls)(A C:Int)(k:KK β):zj zaU (zaV yc L) L cf_codec_read_uint8 [(V.sl 1 z),(Qe A),(Qe C)] [] k=zg3 yc L z A C (fun D E F=>k (V.tup [(Qa D),(Qe E),(Qe F)]) []):=by
 refine (zxb yc L z A C k).trans ?_
 unfold zg3
 first
  | (simp only [zil,zoM]; done)
  | (simp only [zil]; rfl)
abbrev zeG:=∀ (β:Type),Nat→Ls→Int→Int→(Int→Int→Int→Ob β)→Ob β
def yM:zeG:=fun β=>@zg3 β yc
def zj6(yM:zeG)(L:Nat):Dk:=dA (AL 1) fun D=>dA (AI .i64) fun E=>dA (AI .i64) fun F=>d0 fun β k=>yM β L D E F (fun z A C=>k (V.tup [(Qa z),(Qe A),(Qe C)]) [])
theorem zwL(L:Nat):DK (zj6 yM L) (fun _=>zj zaU (zaV yc L) L cf_codec_read_uint8):=xp zaL fun z=>xp xY fun A=>xp xY fun C=>xO fun _ k=>zwm yc L z A C k
def zyx:Hint:=⟨[],[],[none],[],[],false,false,[]⟩
def zDL:CF:=cfD zyx 107
def zvY:Nat→Sh:=yD []
def zuW(yM:zeG)(L:Nat):CBC:=(zq 207 (zj6 yM L) noC)
def zx7{β:Type}(yM:zeG)(L:Nat)(A:Ls)(C:Int)(z:Int→Int→Int→Ob β):Ob β:=yM β L A C (1:Int) (fun D E F=>z D E F)
theorem zJW{β:Type}(yM:zeG)(L:Nat)(D:Ls)(E:Int)(k:KK β):zj zvY (zuW yM L) L zDL [(V.sl 1 D),(Qe E)] [] k=zx7 yM L D E (fun z A C=>k (V.tup [(Qa z),(Qe A),(Qe C)]) []):=by kernel_rfl
abbrev znS:=∀ (β:Type),Nat→Ls→Int→(Int→Int→Int→Ob β)→Ob β
def zaZ:znS:=fun β=>@zx7 β yM
def zxQ(zaZ:znS)(L:Nat):Dk:=dA (AL 1) fun D=>dA (AI .i64) fun E=>d0 fun β k=>zaZ β L D E (fun z A C=>k (V.tup [(Qa z),(Qe A),(Qe C)]) [])
theorem zJE(L:Nat):DK (zxQ zaZ L) (fun _=>zj zvY (zuW yM L) L zDL):=xp zaL fun z=>xp xY fun A=>xO fun _ k=>zJW yM L z A k
def zmb:Hint:=⟨[],[],[none,none,none,some ((bl 1573895 40),(bl 1099511625727 40)),none,some ((bl 1030 40),(bl 1099511625727 40)),none,none],[],[],false,false,[]⟩
def cf_codec_read_uint16:CF:=cfD zmb 158
def zfd:CC:=yw [1,1,1,0,1,0,0] cf_codec_read_uint16.body
def zlp:CC:=yw [1,1,1,1] cf_codec_read_uint16.body
def zau:Nat→Sh:=yD [(29,(.int .u8))]
def zax(yc:zU)(L:Nat):CBC:=(zq 198 (zf5 yc L) noC)
def zfC:St→St:=zN 0 (bl 1573895 40) (bl 1099511625727 40)
def zci(D:Ls)(E F z A C:Int):St:=⟨((V.sl 1 D)::((Qe E)::((Qe F)::(jn 7 ((Qb z)::(jn 8 ((Qe A)::((Qe C)::(jn 19 []))))))))),(gn 40 [])⟩
def zgI(A C z:Int):St:=⟨(jn 1 ((Qe A)::((Qe C)::(jn 7 ((Qb z)::(jn 29 [])))))),(gn 40 [])⟩
section
variable {β:Type} (yc:zU)
def zjz(L:Nat)(D:Ls)(E C:Int)(A:Int→Int→Int→Ob β)(z:Ls→Int→Int→Int→Int→Int→Ob β):Ob β:=yc β L D E C (fun F=>ifb ((F:Int) != (0:Int)) (A (0:Int) (0:Int) F) (z D E C (0:Int) C (0:Int)))
theorem zvI(L:Nat)(z:Ls)(A C:Int)(k:KK β):zj zau (zax yc L) L cf_codec_read_uint16 [(V.sl 1 z),(Qe A),(Qe C)] [] k=zjz yc L z A C (fun D E F=>k (V.tup [(Qb D),(Qe E),(Qe F)]) []) (fun z A C G H I=>yx (xf zau (zax yc L) 0 L zfd) zfC L (zci z A C G H I) (zl 0 (zy (xf zau (zax yc L) 0 L zlp) (zG 0 (CF.res cf_codec_read_uint16) k)))):=by kernel_rfl
def zfs(L:Nat)(G:Ls)(E H C D A:Int)(z:Ls→Int→Int→Int→Int→Int→Ob β)(F:Int→Int→Int→Ob β):Ob β:=ifb (decide (A<D)) (lt (QG .i64 ((E:Int)+A)) fun J=>idx G J fun M=>cI .u8 M 0 fun N=>lt (QG .u16 N) fun O=>lt (QG .i64 (((8:Int):Int)*A)) fun I=>chk (0≤I) (lt (zct .u16 O I) fun P=>lt (ior .u16 C P) fun Q=>lt (QG .i64 ((A:Int)+(1:Int))) fun R=>z G E H Q D R)) (F E H C)
theorem zpM(L:Nat)(F:Ls)(D E z A C:Int)(X:St→Ob β)(K:KT β):xf zau (zax yc L) 0 L zfd (zci F D E z A C) (xS zfC X K)=zfs L F D E z A C (fun F D E z A C=>X (zci F D E z A C)) (fun D E z=>K (.exit 0) (zgI D E z)):=by kernel_rfl
def zeS(L:Nat)(C D A:Int)(z:Int→Int→Int→Ob β):Ob β:=lt (QG .i64 ((C:Int)+D)) fun E=>z A E (0:Int)
theorem zoE(L:Nat)(E F z:Int)(k:KK β):(zl 0 (zy (xf zau (zax yc L) 0 L zlp) (zG 0 (CF.res cf_codec_read_uint16) k))) (.exit 0) (zgI E F z)=zeS L E F z (fun A C D=>k (V.tup [(Qb A),(Qe C),(Qe D)]) []):=by kernel_rfl
def zbX(L:Nat)(z:Int→Int→Int→Ob β):Nat→Ls→Int→Int→Int→Int→Int→Ob β
 | 0,_,_,_,_,_,_=>none
 | n+1,E,F,G,A,C,D=>zfs L E F G A C D (fun E F G A C D=>zbX L z n E F G A C D) z
theorem zid(L:Nat)(K:KT β):∀ (n:Nat) (F:Ls) (A C z D E:Int),yx (xf zau (zax yc L) 0 L zfd) zfC n (zci F A C z D E) K=zbX L (fun A C z=>K (.exit 0) (zgI A C z)) n F A C z D E:=by
 intro n; induction n <;> intros
 ·rfl
 ·exact (zpM ..).trans (by simp only [*]; rfl)
end
def zgA{β:Type}(yc:zU)(L:Nat)(E:Ls)(A C:Int)(z:Int→Int→Int→Ob β):Ob β:=zjz yc L E A C z (fun E A C D F G=>zbX L (fun A C D=>zeS L A C D z) L E A C D F G)
theorem zvz{β:Type}(yc:zU)(L:Nat)(z:Ls)(A C:Int)(k:KK β):zj zau (zax yc L) L cf_codec_read_uint16 [(V.sl 1 z),(Qe A),(Qe C)] [] k=zgA yc L z A C (fun D E F=>k (V.tup [(Qb D),(Qe E),(Qe F)]) []):=by
 refine (zvI yc L z A C k).trans ?_
 unfold zgA
 first
  | (simp only [zid,zoE]; done)
  | (simp only [zid]; rfl)
abbrev zeb:=∀ (β:Type),Nat→Ls→Int→Int→(Int→Int→Int→Ob β)→Ob β
def xK:zeb:=fun β=>@zgA β yc
def zjA(xK:zeb)(L:Nat):Dk:=dA (AL 1) fun D=>dA (AI .i64) fun E=>dA (AI .i64) fun F=>d0 fun β k=>xK β L D E F (fun z A C=>k (V.tup [(Qb z),(Qe A),(Qe C)]) [])
theorem zuV(L:Nat):DK (zjA xK L) (fun _=>zj zau (zax yc L) L cf_codec_read_uint16):=xp zaL fun z=>xp xY fun A=>xp xY fun C=>xO fun _ k=>zvz yc L z A C k
def zwd:Hint:=⟨[],[],[none],[],[],false,false,[]⟩
def zAg:CF:=cfD zwd 108
def ztO:Nat→Sh:=yD []
def ztn(xK:zeb)(L:Nat):CBC:=(zq 208 (zjA xK L) noC)
def zv1{β:Type}(xK:zeb)(L:Nat)(A:Ls)(C:Int)(z:Int→Int→Int→Ob β):Ob β:=xK β L A C (2:Int) (fun D E F=>z D E F)
theorem zHg{β:Type}(xK:zeb)(L:Nat)(D:Ls)(E:Int)(k:KK β):zj ztO (ztn xK L) L zAg [(V.sl 1 D),(Qe E)] [] k=zv1 xK L D E (fun z A C=>k (V.tup [(Qb z),(Qe A),(Qe C)]) []):=by kernel_rfl
abbrev zlT:=∀ (β:Type),Nat→Ls→Int→(Int→Int→Int→Ob β)→Ob β
def zaG:zlT:=fun β=>@zv1 β xK
def zve(zaG:zlT)(L:Nat):Dk:=dA (AL 1) fun D=>dA (AI .i64) fun E=>d0 fun β k=>zaG β L D E (fun z A C=>k (V.tup [(Qb z),(Qe A),(Qe C)]) [])
theorem zIg(L:Nat):DK (zve zaG L) (fun _=>zj ztO (ztn xK L) L zAg):=xp zaL fun z=>xp xY fun A=>xO fun _ k=>zHg xK L z A k
def zme:Hint:=⟨[],[],[none,none,none,some ((bl 1573895 40),(bl 1099511625727 40)),none,some ((bl 1030 40),(bl 1099511625727 40)),none,none],[],[],false,false,[]⟩
def cf_codec_read_uint64:CF:=cfD zme 159
def zfc:CC:=yw [1,1,1,0,1,0,0] cf_codec_read_uint64.body
def zle:CC:=yw [1,1,1,1] cf_codec_read_uint64.body
def zay:Nat→Sh:=yD [(29,(.int .u8))]
def zaA(yc:zU)(L:Nat):CBC:=(zq 198 (zf5 yc L) noC)
def zfr:St→St:=zN 0 (bl 1573895 40) (bl 1099511625727 40)
def zcl(D:Ls)(E F z A C:Int):St:=⟨((V.sl 1 D)::((Qe E)::((Qe F)::(jn 7 ((Qd z)::(jn 8 ((Qe A)::((Qe C)::(jn 19 []))))))))),(gn 40 [])⟩
def zgE(A C z:Int):St:=⟨(jn 1 ((Qe A)::((Qe C)::(jn 7 ((Qd z)::(jn 29 [])))))),(gn 40 [])⟩
section
variable {β:Type} (yc:zU)
def zjw(L:Nat)(D:Ls)(E C:Int)(A:Int→Int→Int→Ob β)(z:Ls→Int→Int→Int→Int→Int→Ob β):Ob β:=yc β L D E C (fun F=>ifb ((F:Int) != (0:Int)) (A (0:Int) (0:Int) F) (z D E C (0:Int) C (0:Int)))
theorem zvy(L:Nat)(z:Ls)(A C:Int)(k:KK β):zj zay (zaA yc L) L cf_codec_read_uint64 [(V.sl 1 z),(Qe A),(Qe C)] [] k=zjw yc L z A C (fun D E F=>k (V.tup [(Qd D),(Qe E),(Qe F)]) []) (fun z A C G H I=>yx (xf zay (zaA yc L) 0 L zfc) zfr L (zcl z A C G H I) (zl 0 (zy (xf zay (zaA yc L) 0 L zle) (zG 0 (CF.res cf_codec_read_uint64) k)))):=by kernel_rfl
def zfp(L:Nat)(G:Ls)(E H C D A:Int)(z:Ls→Int→Int→Int→Int→Int→Ob β)(F:Int→Int→Int→Ob β):Ob β:=ifb (decide (A<D)) (lt (QG .i64 ((E:Int)+A)) fun J=>idx G J fun M=>cI .u8 M 0 fun N=>lt (QG .u64 N) fun O=>lt (QG .i64 (((8:Int):Int)*A)) fun I=>chk (0≤I) (lt (zct .u64 O I) fun P=>lt (ior .u64 C P) fun Q=>lt (QG .i64 ((A:Int)+(1:Int))) fun R=>z G E H Q D R)) (F E H C)
theorem zpE(L:Nat)(F:Ls)(D E z A C:Int)(X:St→Ob β)(K:KT β):xf zay (zaA yc L) 0 L zfc (zcl F D E z A C) (xS zfr X K)=zfp L F D E z A C (fun F D E z A C=>X (zcl F D E z A C)) (fun D E z=>K (.exit 0) (zgE D E z)):=by kernel_rfl
def zeI(L:Nat)(C D A:Int)(z:Int→Int→Int→Ob β):Ob β:=lt (QG .i64 ((C:Int)+D)) fun E=>z A E (0:Int)
theorem zoC(L:Nat)(E F z:Int)(k:KK β):(zl 0 (zy (xf zay (zaA yc L) 0 L zle) (zG 0 (CF.res cf_codec_read_uint64) k))) (.exit 0) (zgE E F z)=zeI L E F z (fun A C D=>k (V.tup [(Qd A),(Qe C),(Qe D)]) []):=by kernel_rfl
def zbS(L:Nat)(z:Int→Int→Int→Ob β):Nat→Ls→Int→Int→Int→Int→Int→Ob β
 | 0,_,_,_,_,_,_=>none
 | n+1,E,F,G,A,C,D=>zfp L E F G A C D (fun E F G A C D=>zbS L z n E F G A C D) z
theorem zhQ(L:Nat)(K:KT β):∀ (n:Nat) (F:Ls) (A C z D E:Int),yx (xf zay (zaA yc L) 0 L zfc) zfr n (zcl F A C z D E) K=zbS L (fun A C z=>K (.exit 0) (zgE A C z)) n F A C z D E:=by
 intro n; induction n <;> intros
 ·rfl
 ·exact (zpE ..).trans (by simp only [*]; rfl)
end
def zgt{β:Type}(yc:zU)(L:Nat)(E:Ls)(A C:Int)(z:Int→Int→Int→Ob β):Ob β:=zjw yc L E A C z (fun E A C D F G=>zbS L (fun A C D=>zeI L A C D z) L E A C D F G)
theorem zvS{β:Type}(yc:zU)(L:Nat)(z:Ls)(A C:Int)(k:KK β):zj zay (zaA yc L) L cf_codec_read_uint64 [(V.sl 1 z),(Qe A),(Qe C)] [] k=zgt yc L z A C (fun D E F=>k (V.tup [(Qd D),(Qe E),(Qe F)]) []):=by
 refine (zvy yc L z A C k).trans ?_
 unfold zgt
 first
  | (simp only [zhQ,zoC]; done)
  | (simp only [zhQ]; rfl)
abbrev zd8:=∀ (β:Type),Nat→Ls→Int→Int→(Int→Int→Int→Ob β)→Ob β
def yK:zd8:=fun β=>@zgt β yc
def zjq(yK:zd8)(L:Nat):Dk:=dA (AL 1) fun D=>dA (AI .i64) fun E=>dA (AI .i64) fun F=>d0 fun β k=>yK β L D E F (fun z A C=>k (V.tup [(Qd z),(Qe A),(Qe C)]) [])
theorem zvV(L:Nat):DK (zjq yK L) (fun _=>zj zay (zaA yc L) L cf_codec_read_uint64):=xp zaL fun z=>xp xY fun A=>xp xY fun C=>xO fun _ k=>zvS yc L z A C k
def zwH:Hint:=⟨[],[],[none],[],[],false,false,[]⟩
def zzC:CF:=cfD zwH 109
def ztq:Nat→Sh:=yD []
def zsE(yK:zd8)(L:Nat):CBC:=(zq 199 (zjq yK L) noC)
def zu2{β:Type}(yK:zd8)(L:Nat)(A:Ls)(C:Int)(z:Int→Int→Int→Ob β):Ob β:=yK β L A C (8:Int) (fun D E F=>z D E F)
theorem zIA{β:Type}(yK:zd8)(L:Nat)(D:Ls)(E:Int)(k:KK β):zj ztq (zsE yK L) L zzC [(V.sl 1 D),(Qe E)] [] k=zu2 yK L D E (fun z A C=>k (V.tup [(Qd z),(Qe A),(Qe C)]) []):=by kernel_rfl
abbrev zhA:=∀ (β:Type),Nat→Ls→Int→(Int→Int→Int→Ob β)→Ob β
def zM:zhA:=fun β=>@zu2 β yK
def zpW(zM:zhA)(L:Nat):Dk:=dA (AL 1) fun D=>dA (AI .i64) fun E=>d0 fun β k=>zM β L D E (fun z A C=>k (V.tup [(Qd z),(Qe A),(Qe C)]) [])
theorem zHT(L:Nat):DK (zpW zM L) (fun _=>zj ztq (zsE yK L) L zzC):=xp zaL fun z=>xp xY fun A=>xO fun _ k=>zIA yK L z A k
def zuJ:Hint:=⟨[(1,3),(8,3),(12,3),(15,3)],[],[none,none,none,none,none,none,none,none,none,none,none,none,none,none],[],[],false,false,[]⟩
def zyS:CF:=cfD zuJ 66
def zqT:Nat→Sh:=yD []
def zq1(zaZ:znS)(zaG:zlT)(yt:zcM)(zM:zhA)(L:Nat):CBC:=(zq 173 (zpW zM L) (zq 170 (zmk yt L) (zq 196 (zve zaG L) (zq 195 (zxQ zaZ L) noC))))
def zts{β:Type}(zaZ:znS)(zaG:zlT)(yt:zcM)(zM:zhA)(L:Nat)(D:Ls)(Q E:Int)(z:Int→Int→Int→Ob β):Ob β:=zaZ β L D Q (fun F G H=>ifb ((H:Int) != (0:Int)) (z (0:Int) (0:Int) H) (lt (QG .u64 F) fun M=>ifb ((F:Int)==(253:Int)) (zaG β L D G (fun R S O=>lt (QG .u64 R) fun N=>ifb ((O:Int) != (0:Int)) (z (0:Int) (0:Int) O) (ifb (decide (N<(253:Int))) (z (0:Int) (0:Int) (3:Int)) (ifb (decide (N>E)) (z (0:Int) (0:Int) (4:Int)) (z N S (0:Int)))))) (ifb ((F:Int)==(254:Int)) (yt β L D G (fun T U I=>lt (QG .u64 T) fun A=>ifb ((I:Int) != (0:Int)) (z (0:Int) (0:Int) I) (ifb (decide (A<(65536:Int))) (z (0:Int) (0:Int) (3:Int)) (ifb (decide (A>E)) (z (0:Int) (0:Int) (4:Int)) (z A U (0:Int)))))) (ifb ((F:Int)==(255:Int)) (zM β L D G (fun C P J=>ifb ((J:Int) != (0:Int)) (z (0:Int) (0:Int) J) (ifb (decide (C<(4294967296:Int))) (z (0:Int) (0:Int) (3:Int)) (ifb (decide (C>E)) (z (0:Int) (0:Int) (4:Int)) (z C P (0:Int)))))) (ifb ((H:Int) != (0:Int)) (z (0:Int) (0:Int) H) (ifb (decide (M<(0:Int))) (z (0:Int) (0:Int) (3:Int)) (ifb (decide (M>E)) (z (0:Int) (0:Int) (4:Int)) (z M G (0:Int)))))))))
theorem zE9{β:Type}(zaZ:znS)(zaG:zlT)(yt:zcM)(zM:zhA)(L:Nat)(D:Ls)(E F:Int)(k:KK β):zj zqT (zq1 zaZ zaG yt zM L) L zyS [(V.sl 1 D),(Qe E),(Qd F)] [] k=zts zaZ zaG yt zM L D E F (fun z A C=>k (V.tup [(Qd z),(Qe A),(Qe C)]) []):=by kernel_rfl
abbrev zbD:=∀ (β:Type),Nat→Ls→Int→Int→(Int→Int→Int→Ob β)→Ob β
def xl:zbD:=fun β=>@zts β zaZ zaG yt zM
def zj9(xl:zbD)(L:Nat):Dk:=dA (AL 1) fun D=>dA (AI .i64) fun E=>dA (AI .u64) fun F=>d0 fun β k=>xl β L D E F (fun z A C=>k (V.tup [(Qd z),(Qe A),(Qe C)]) [])
theorem zGt(L:Nat):DK (zj9 xl L) (fun _=>zj zqT (zq1 zaZ zaG yt zM L) L zyS):=xp zaL fun z=>xp xY fun A=>xp xY fun C=>xO fun _ k=>zE9 zaZ zaG yt zM L z A C k
def zo0:Hint:=⟨[(4,10)],[],[none,none,none,none,none],[],[],false,false,[]⟩
def zrT:CF:=cfD zo0 117
def zlu:Nat→Sh:=yD []
def zlK(yt:zcM)(L:Nat):CBC:=(zq 170 (zmk yt L) noC)
def ziB{β:Type}(yt:zcM)(L:Nat)(z:Ls)(C D:Int)(A:Int→Ls→Int→Int→Ob β):Ob β:=ifb ((D:Int) != (0:Int)) (A (0:Int) z C D) (yt β L z C (fun F G E=>ifb ((E:Int) != (0:Int)) (A (0:Int) z C E) (A F z G D)))
theorem zze{β:Type}(yt:zcM)(L:Nat)(z:Ls)(A C:Int)(k:KK β):zj zlu (zlK yt L) L zrT [(V.ptr 0 0),(V.fn 170 [])] [(.live false [(V.sl 1 z),(Qe A),(Qe C)])] k=ziB yt L z A C (fun D z A C=>k (Qc D) [(.live false [(V.sl 1 z),(Qe A),(Qe C)])]):=by kernel_rfl
abbrev zeq:=∀ (β:Type),Nat→Ls→Int→Int→(Int→Ls→Int→Int→Ob β)→Ob β
def zc:zeq:=fun β=>@ziB β yt
def ziv(zc:zeq)(L:Nat)(β:Type)(args:List V)(bor:Bor)(k:KK β):Ob β:=match args,bor with
 | [a0,a1],[(.live false [w0_0,w0_1,w0_2])]=>aP 0 0 a0 (aF 170 [] a1 (aL 1 w0_0 fun z=>aI .i64 w0_1 fun A=>aI .i64 w0_2 fun C=>zc β L z A C (fun D z A C=>k (Qc D) [(.live false [(V.sl 1 z),(Qe A),(Qe C)])])))
 | _,_=>none
theorem zzh(L:Nat)(β:Type)(args:List V)(bor:Bor)(k:KK β)(r:β)(h:ziv zc L β args bor k=some r):zj zlu (zlK yt L) L zrT args bor k=some r:=by
 unfold ziv at h
 split at h
 ·have q:=zeV h; clear h; obtain ⟨rfl,h⟩:=q
  have q:=zBu h; clear h; obtain ⟨rfl,h⟩:=q
  have q:=zeO h; clear h; obtain ⟨z,rfl,h⟩:=q
  have q:=zY h; clear h; obtain ⟨A,rfl,h⟩:=q
  have q:=zY h; clear h; obtain ⟨C,rfl,h⟩:=q
  exact (zze yt L z A C k).trans h
 ·cases h
def zsx:Hint:=⟨[],[],[none],[],[],false,false,[]⟩
def zwZ:CF:=cfD zsx 112
def zpi:Nat→Sh:=yD []
def zpg(xl:zbD)(L:Nat):CBC:=(zq 164 (zj9 xl L) noC)
def zrn{β:Type}(xl:zbD)(L:Nat)(C:Ls)(D z:Int)(A:Int→Int→Int→Int→Ob β):Ob β:=xl β L C D z (fun E F G=>A E F G z)
theorem zDZ{β:Type}(xl:zbD)(L:Nat)(E:Ls)(F z:Int)(k:KK β):zj zpi (zpg xl L) L zwZ [(V.sl 1 E),(Qe F),(V.ptr 0 0)] [(.live true [(Qd z)])] k=zrn xl L E F z (fun A C D z=>k (V.tup [(Qd A),(Qe C),(Qe D)]) [(.live true [(Qd z)])]):=by kernel_rfl
abbrev zi9:=∀ (β:Type),Nat→Ls→Int→Int→(Int→Int→Int→Int→Ob β)→Ob β
def zaa:zi9:=fun β=>@zrn β xl
def zmE(zaa:zi9)(L:Nat)(β:Type)(args:List V)(bor:Bor)(k:KK β):Ob β:=match args,bor with
 | [a0,a1,a2],[(.live true [w0_0])]=>aL 1 a0 fun E=>aI .i64 a1 fun F=>aP 0 0 a2 (aI .u64 w0_0 fun z=>zaa β L E F z (fun A C D z=>k (V.tup [(Qd A),(Qe C),(Qe D)]) [(.live true [(Qd z)])]))
 | _,_=>none
theorem zE1(L:Nat)(β:Type)(args:List V)(bor:Bor)(k:KK β)(r:β)(h:zmE zaa L β args bor k=some r):zj zpi (zpg xl L) L zwZ args bor k=some r:=by
 unfold zmE at h
 split at h
 ·have q:=zeO h; clear h; obtain ⟨A,rfl,h⟩:=q
  have q:=zY h; clear h; obtain ⟨C,rfl,h⟩:=q
  have q:=zeV h; clear h; obtain ⟨rfl,h⟩:=q
  have q:=zY h; clear h; obtain ⟨z,rfl,h⟩:=q
  exact (zDZ xl L A C z k).trans h
 ·cases h
def zoT:Hint:=⟨[(4,10)],[],[none,none,none,none,none],[],[],false,false,[]⟩
def zhE:CF:=cfD zoT 111
def zlA:Nat→Sh:=yD []
def zlM(zaa:zi9)(L:Nat):CBC:=(zq 163 (zmE zaa L) noC)
def ziM{β:Type}(zaa:zi9)(L:Nat)(z:Ls)(C D E:Int)(A:Int→Ls→Int→Int→Int→Ob β):Ob β:=ifb ((D:Int) != (0:Int)) (A (0:Int) z C D E) (zaa β L z C E (fun H I F G=>ifb ((F:Int) != (0:Int)) (A (0:Int) z C F G) (A H z I D G)))
theorem zzi{β:Type}(zaa:zi9)(L:Nat)(z:Ls)(A C D:Int)(k:KK β):zj zlA (zlM zaa L) L zhE [(V.ptr 0 0),(V.fn 163 [(V.ptr 1 0)])] [(.live false [(V.sl 1 z),(Qe A),(Qe C)]),(.live true [(Qd D)])] k=ziM zaa L z A C D (fun E z A C D=>k (Qd E) [(.live false [(V.sl 1 z),(Qe A),(Qe C)]),(.live true [(Qd D)])]):=by kernel_rfl
abbrev zf7:=∀ (β:Type),Nat→Ls→Int→Int→Int→(Int→Ls→Int→Int→Int→Ob β)→Ob β
def xP:zf7:=fun β=>@ziM β zaa
def ziO(xP:zf7)(L:Nat)(β:Type)(args:List V)(bor:Bor)(k:KK β):Ob β:=match args,bor with
 | [a0,a1],[(.live false [w0_0,w0_1,w0_2]),(.live true [w1_0])]=>aP 0 0 a0 (aF 163 [(1,0)] a1 (aL 1 w0_0 fun z=>aI .i64 w0_1 fun A=>aI .i64 w0_2 fun C=>aI .u64 w1_0 fun D=>xP β L z A C D (fun E z A C D=>k (Qd E) [(.live false [(V.sl 1 z),(Qe A),(Qe C)]),(.live true [(Qd D)])])))
 | _,_=>none
theorem zzm(L:Nat)(β:Type)(args:List V)(bor:Bor)(k:KK β)(r:β)(h:ziO xP L β args bor k=some r):zj zlA (zlM zaa L) L zhE args bor k=some r:=by
 unfold ziO at h
 split at h
 ·have q:=zeV h; clear h; obtain ⟨rfl,h⟩:=q
  have q:=zBu h; clear h; obtain ⟨rfl,h⟩:=q
  have q:=zeO h; clear h; obtain ⟨z,rfl,h⟩:=q
  have q:=zY h; clear h; obtain ⟨A,rfl,h⟩:=q
  have q:=zY h; clear h; obtain ⟨C,rfl,h⟩:=q
  have q:=zY h; clear h; obtain ⟨D,rfl,h⟩:=q
  exact (zzi zaa L z A C D k).trans h
 ·cases h
def zv2:Hint:=⟨[],[],[none],[],[],false,false,[]⟩
def zAi:CF:=cfD zv2 110
def ztz:Nat→Sh:=yD []
def zsV(xP:zf7)(L:Nat):CBC:=(zq 162 (ziO xP L) noC)
def zp9{β:Type}(xP:zf7)(L:Nat)(E:Int)(A:Ls)(C D:Int)(z:Int→Ls→Int→Int→Ob β):Ob β:=xP β L A C D E (fun F G H I M=>lt (QG .i64 F) fun J=>z J G H I)
theorem zId{β:Type}(xP:zf7)(L:Nat)(D:Int)(z:Ls)(A C:Int)(k:KK β):zj ztz (zsV xP L) L zAi [(Qd D),(V.ptr 0 0)] [(.live false [(V.ptr 1 0)]),(.live false [(V.sl 1 z),(Qe A),(Qe C)])] k=zp9 xP L D z A C (fun D z A C=>k (Qe D) [(.live false [(V.ptr 1 0)]),(.live false [(V.sl 1 z),(Qe A),(Qe C)])]):=by kernel_rfl
abbrev zje:=∀ (β:Type),Nat→Int→Ls→Int→Int→(Int→Ls→Int→Int→Ob β)→Ob β
def yg:zje:=fun β=>@zp9 β xP
def zp4(yg:zje)(L:Nat)(β:Type)(args:List V)(bor:Bor)(k:KK β):Ob β:=match args,bor with
 | [a0,a1],[(.live false [w0_0]),(.live false [w1_0,w1_1,w1_2])]=>aI .u64 a0 fun D=>aP 0 0 a1 (aP 1 0 w0_0 (aL 1 w1_0 fun z=>aI .i64 w1_1 fun A=>aI .i64 w1_2 fun C=>yg β L D z A C (fun D z A C=>k (Qe D) [(.live false [(V.ptr 1 0)]),(.live false [(V.sl 1 z),(Qe A),(Qe C)])])))
 | _,_=>none
theorem zIB(L:Nat)(β:Type)(args:List V)(bor:Bor)(k:KK β)(r:β)(h:zp4 yg L β args bor k=some r):zj ztz (zsV xP L) L zAi args bor k=some r:=by
 unfold zp4 at h
 split at h
 ·have q:=zY h; clear h; obtain ⟨D,rfl,h⟩:=q
  have q:=zeV h; clear h; obtain ⟨rfl,h⟩:=q
  have q:=zeV h; clear h; obtain ⟨rfl,h⟩:=q
  have q:=zeO h; clear h; obtain ⟨z,rfl,h⟩:=q
  have q:=zY h; clear h; obtain ⟨A,rfl,h⟩:=q
  have q:=zY h; clear h; obtain ⟨C,rfl,h⟩:=q
  exact (zId xP L D z A C k).trans h
 ·cases h
def znj:Hint:=⟨[(4,10)],[],[none,none,none,none,none],[],[],false,false,[]⟩
def zoV:CF:=cfD znj 118
def zjJ:Nat→Sh:=yD []
def zjD(yE:zeU)(L:Nat):CBC:=(zq 172 (znv yE L) noC)
def zg8{β:Type}(yE:zeU)(L:Nat)(z:Ls)(C D:Int)(A:List V→Ls→Int→Int→Ob β):Ob β:=ifb ((D:Int) != (0:Int)) (lt (We 32 (Qa (0:Int))) fun F=>chk (0=0∧(XI F)=32∧32≠0) (A F z C D)) (yE β L z C (fun G M H=>chk ((XI G)=32∧0+32≤32) (lt (xd (We 32 (Qa (0:Int))) 0 G) fun E=>ifb ((H:Int) != (0:Int)) (lt (We 32 (Qa (0:Int))) fun I=>chk (0=0∧(XI I)=32∧32≠0) (A I z C H)) (chk (0+32≤(XI E)) (chk ((XI (XK 32 E))=32∧0+32≤32) (lt (xd (We 32 (Qa (0:Int))) 0 (XK 32 E)) fun J=>chk (0=0∧(XI J)=32∧32≠0) (A J z M D)))))))
theorem zwC{β:Type}(yE:zeU)(L:Nat)(z:Ls)(A C:Int)(k:KK β):zj zjJ (zjD yE L) L zoV [(V.ptr 0 0),(V.fn 172 [])] [(.live false [(V.sl 1 z),(Qe A),(Qe C)])] k=zg8 yE L z A C (fun D z A C=>k (V.agg D) [(.live false [(V.sl 1 z),(Qe A),(Qe C)])]):=by kernel_rfl
abbrev zc2:=∀ (β:Type),Nat→Ls→Int→Int→(List V→Ls→Int→Int→Ob β)→Ob β
def zf:zc2:=fun β=>@zg8 β yE
def zg1(zf:zc2)(L:Nat)(β:Type)(args:List V)(bor:Bor)(k:KK β):Ob β:=match args,bor with
 | [a0,a1],[(.live false [w0_0,w0_1,w0_2])]=>aP 0 0 a0 (aF 172 [] a1 (aL 1 w0_0 fun z=>aI .i64 w0_1 fun A=>aI .i64 w0_2 fun C=>zf β L z A C (fun D z A C=>k (V.agg D) [(.live false [(V.sl 1 z),(Qe A),(Qe C)])])))
 | _,_=>none
theorem zw1(L:Nat)(β:Type)(args:List V)(bor:Bor)(k:KK β)(r:β)(h:zg1 zf L β args bor k=some r):zj zjJ (zjD yE L) L zoV args bor k=some r:=by
 unfold zg1 at h
 split at h
 ·have q:=zeV h; clear h; obtain ⟨rfl,h⟩:=q
  have q:=zBu h; clear h; obtain ⟨rfl,h⟩:=q
  have q:=zeO h; clear h; obtain ⟨z,rfl,h⟩:=q
  have q:=zY h; clear h; obtain ⟨A,rfl,h⟩:=q
  have q:=zY h; clear h; obtain ⟨C,rfl,h⟩:=q
  exact (zwC yE L z A C k).trans h
 ·cases h
def ziH:Nat→Sh:=yD []
def ziD(zM:zhA)(L:Nat):CBC:=(zq 173 (zpW zM L) noC)
section
variable {β:Type} (zM:zhA)
def zgw(L:Nat)(z:Ls)(C D:Int)(A:Int→Ls→Int→Int→Ob β):Ob β:=ifb ((D:Int) != (0:Int)) (A (0:Int) z C D) (zM β L z C (fun F G E=>ifb ((E:Int) != (0:Int)) (A (0:Int) z C E) (A F z G D)))
theorem zu6(L:Nat)(z:Ls)(A C:Int)(k:KK β):zj ziH (ziD zM L) L zhE [(V.ptr 0 0),(V.fn 173 [])] [(.live false [(V.sl 1 z),(Qe A),(Qe C)])] k=zgw zM L z A C (fun D z A C=>k (Qd D) [(.live false [(V.sl 1 z),(Qe A),(Qe C)])]):=by kernel_rfl
end
abbrev zcE:=∀ (β:Type),Nat→Ls→Int→Int→(Int→Ls→Int→Int→Ob β)→Ob β
def xc:zcE:=fun β=>@zgw β zM
def zgn(xc:zcE)(L:Nat)(β:Type)(args:List V)(bor:Bor)(k:KK β):Ob β:=match args,bor with
 | [a0,a1],[(.live false [w0_0,w0_1,w0_2])]=>aP 0 0 a0 (aF 173 [] a1 (aL 1 w0_0 fun z=>aI .i64 w0_1 fun A=>aI .i64 w0_2 fun C=>xc β L z A C (fun D z A C=>k (Qd D) [(.live false [(V.sl 1 z),(Qe A),(Qe C)])])))
 | _,_=>none
theorem zu3(L:Nat)(β:Type)(args:List V)(bor:Bor)(k:KK β)(r:β)(h:zgn xc L β args bor k=some r):zj ziH (ziD zM L) L zhE args bor k=some r:=by
 unfold zgn at h
 split at h
 ·have q:=zeV h; clear h; obtain ⟨rfl,h⟩:=q
  have q:=zBu h; clear h; obtain ⟨rfl,h⟩:=q
  have q:=zeO h; clear h; obtain ⟨z,rfl,h⟩:=q
  have q:=zY h; clear h; obtain ⟨A,rfl,h⟩:=q
  have q:=zY h; clear h; obtain ⟨C,rfl,h⟩:=q
  exact (zu6 zM L z A C k).trans h
 ·cases h
def zrK:Hint:=⟨[(0,0),(1,6),(2,0),(2,3),(3,0),(3,3)],[],[none],[],[],false,false,[]⟩
def zt8:CF:=cfD zrK 74
def zn2:Nat→Sh:=yD []
def zop(L:Nat):CBC:=noC
def zpz{β:Type}(L:Nat)(z A:Ls)(C:Ls→Ob β):Ob β:=lt (QG .i64 ((((XI z:Nat):Int):Int)+((XI A:Nat):Int))) fun D=>chk (0≤(0:Int)∧(0:Int)≤D∧(XJ D)*1≤zg∧D≤zg) (chk ((XI (We 0 [(Qa (0:Int))])+XI z)*1≤zg∧XI (We 0 [(Qa (0:Int))])+XI z≤zg) (lt ((We 0 [(Qa (0:Int))])++z) fun E=>chk ((XI E+XI A)*1≤zg∧XI E+XI A≤zg) (lt (E++A) fun F=>C F)))
theorem zC3{β:Type}(L:Nat)(z A:Ls)(k:KK β):zj zn2 (zop L) L zt8 [(V.sl 1 z),(V.sl 1 A)] [] k=zpz L z A (fun z=>k (V.gs 1 z) []):=by kernel_rfl
abbrev yW:=∀ (β:Type),Nat→Ls→Ls→(Ls→Ob β)→Ob β
def zi:yW:=fun β=>@zpz β
def zco(zi:yW)(L:Nat):Dk:=dA (AL 1) fun z=>dA (AL 1) fun A=>d0 fun β k=>zi β L z A (fun z=>k (V.gs 1 z) [])
theorem zCM(L:Nat):DK (zco zi L) (fun _=>zj zn2 (zop L) L zt8):=xp zaL fun z=>xp zaL fun A=>xO fun _ k=>zC3 L z A k
def zsX:Hint:=⟨[(0,0),(2,0),(3,5),(5,1),(7,0),(9,0),(9,6)],[],[none,none,none,none,none,none,none],[],[],false,false,[]⟩
def zxe:CF:=cfD zsX 116
def zpO:Nat→Sh:=yD []
def zo2(xl:zbD)(zi:yW)(L:Nat):CBC:=(zq 191 (zco zi L) (zq 164 (zj9 xl L) noC))
def zrs{β:Type}(xl:zbD)(zi:yW)(L:Nat)(D:Ls)(H E:Int)(z:Ls→Int→Int→Ob β):Ob β:=ifb (decide (E<(0:Int))) (z ([]:Ls) (0:Int) (5:Int)) (lt (QG .u64 E) fun I=>xl β L D H I (fun F A G=>ifb ((G:Int) != (0:Int)) (z ([]:Ls) (0:Int) G) (lt (QG .i64 ((((XI D:Nat):Int):Int)-A)) fun J=>lt (QG .u64 J) fun M=>ifb (decide (F>M)) (z ([]:Ls) (0:Int) (1:Int)) (lt (QG .i64 F) fun N=>lt (QG .i64 ((A:Int)+N)) fun C=>chk (0≤C∧C≤(((XI D):Nat):Int)) (chk (0≤A∧A≤(((XJ C):Nat):Int)) (zi β L (XK ((XJ C)-(XJ A)) (XL (XJ A) D)) ([]:Ls) (fun O=>z O C (0:Int))))))))
theorem zED{β:Type}(xl:zbD)(zi:yW)(L:Nat)(D:Ls)(E F:Int)(k:KK β):zj zpO (zo2 xl zi L) L zxe [(V.sl 1 D),(Qe E),(Qe F)] [] k=zrs xl zi L D E F (fun z A C=>k (V.tup [(V.gs 1 z),(Qe A),(Qe C)]) []):=by kernel_rfl
abbrev zjb:=∀ (β:Type),Nat→Ls→Int→Int→(Ls→Int→Int→Ob β)→Ob β
def xZ:zjb:=fun β=>@zrs β xl zi
def zqL(xZ:zjb)(L:Nat):Dk:=dA (AL 1) fun D=>dA (AI .i64) fun E=>dA (AI .i64) fun F=>d0 fun β k=>xZ β L D E F (fun z A C=>k (V.tup [(V.gs 1 z),(Qe A),(Qe C)]) [])
theorem zEc(L:Nat):DK (zqL xZ L) (fun _=>zj zpO (zo2 xl zi L) L zxe):=xp zaL fun z=>xp xY fun A=>xp xY fun C=>xO fun _ k=>zED xl zi L z A C k
def zto:Hint:=⟨[(0,0),(1,4),(1,7)],[],[none],[],[],false,false,[]⟩
def zwg:CF:=cfD zto 115
def zpB:Nat→Sh:=yD []
def zpd(xZ:zjb)(L:Nat):CBC:=(zq 168 (zqL xZ L) noC)
def zrr{β:Type}(xZ:zjb)(L:Nat)(C:Ls)(D z:Int)(A:Ls→Int→Int→Int→Ob β):Ob β:=xZ β L C D z (fun E F G=>A E F G z)
theorem zD5{β:Type}(xZ:zjb)(L:Nat)(E:Ls)(F z:Int)(k:KK β):zj zpB (zpd xZ L) L zwg [(V.sl 1 E),(Qe F),(V.ptr 0 0)] [(.live true [(Qe z)])] k=zrr xZ L E F z (fun A C D z=>k (V.tup [(V.gs 1 A),(Qe C),(Qe D)]) [(.live true [(Qe z)])]):=by kernel_rfl
abbrev zi6:=∀ (β:Type),Nat→Ls→Int→Int→(Ls→Int→Int→Int→Ob β)→Ob β
def y9:zi6:=fun β=>@zrr β xZ
def zmp(y9:zi6)(L:Nat)(β:Type)(args:List V)(bor:Bor)(k:KK β):Ob β:=match args,bor with
 | [a0,a1,a2],[(.live true [w0_0])]=>aL 1 a0 fun E=>aI .i64 a1 fun F=>aP 0 0 a2 (aI .i64 w0_0 fun z=>y9 β L E F z (fun A C D z=>k (V.tup [(V.gs 1 A),(Qe C),(Qe D)]) [(.live true [(Qe z)])]))
 | _,_=>none
theorem zEh(L:Nat)(β:Type)(args:List V)(bor:Bor)(k:KK β)(r:β)(h:zmp y9 L β args bor k=some r):zj zpB (zpd xZ L) L zwg args bor k=some r:=by
 unfold zmp at h
 split at h
 ·have q:=zeO h; clear h; obtain ⟨A,rfl,h⟩:=q
  have q:=zY h; clear h; obtain ⟨C,rfl,h⟩:=q
  have q:=zeV h; clear h; obtain ⟨rfl,h⟩:=q
  have q:=zY h; clear h; obtain ⟨z,rfl,h⟩:=q
  exact (zD5 xZ L A C z k).trans h
 ·cases h
end
end
end Go.Proofs.YtgmhijonllockaaGreatDoor
