/- Part 9 of the proof of BlockBack: an abstract machine over plain values, its soundness, and the functions of the program on plain values. -/
import Derived.Test.YtgmhijonllockaaGreatDoorRows
import Derived.Test.YtgmhijonllockaaGreatDoorMBlockBack8
namespace Go.Proofs.YtgmhijonllockaaGreatDoor
set_option maxRecDepth 100000
set_option linter.unusedVariables false
set_option linter.unusedSimpArgs false
open IntKind renaming wrap->QG
open List renaming length->XK,replicate->We,take->XM,drop->XN,flatten->XP
open Int renaming toNat->XL,tmod->XQ
open Nat renaming mul_comm->XO
section
theorem zaj{cs new:List V}(h:new.length=cs.length):yd cs 0 new=new:=by
 simp [yd,h]
theorem zr8{cs:List V}{off:Nat}{v:V}(h:off<cs.length):yd cs off [v]=cs.set off v:=by
 simp only [yd,List.length_singleton]
 rw [List.set_eq_take_append_cons_drop,if_pos h]
 simp
theorem zFb{sz:Nat}:∀ {es:Ls},(∀ e∈es,e.length=sz)→zf sz es.length es.flatten=es
 | [],_=>rfl
 | e::es,h=>by
  have he:=h e (by simp)
  have:=zFb (es:=es) (fun x hx=>h x (by simp [hx]))
  simp only [List.length_cons,zf,List.flatten_cons]
  rw [List.take_append_of_le_length (by omega),List.take_of_length_le (by omega),List.drop_append_of_le_length (by omega),List.drop_of_length_le (by omega),List.nil_append,this]
theorem zNz{sz:Nat}{es:Ls}(h:∀ e∈es,e.length=sz):es.flatten.length=es.length*sz:=yT h
theorem zUN{sz:Nat}(hs:0<sz){es:Ls}(h:∀ e∈es,e.length=sz){i j:Nat}(hj:j<sz){e:List V}(he:es[i]?=some e):es.flatten[i*sz+j]?=e[j]?:=by
 rw [zuu es h hs]
 have e1:(i*sz+j) / sz=i:=by rw [XO,Nat.mul_add_div hs,Nat.div_eq_of_lt hj,Nat.add_zero]
 have e2:(i*sz+j) % sz=j:=by rw [XO,Nat.mul_add_mod,Nat.mod_eq_of_lt hj]
 rw [e1,e2,he]; rfl
theorem zTC{sz:Nat}(hs:0<sz){es:Ls}(h:∀ e∈es,e.length=sz){i j:Nat}(hj:j<sz){e:List V}(he:es[i]?=some e)(v:V):yd es.flatten (i*sz+j) [v]=(es.set i (e.set j v)).flatten:=by
 obtain ⟨hi,rfl⟩:=List.getElem?_eq_some_iff.1 he
 have hlt:i*sz+j<es.flatten.length:=by
  rw [zNz h]
  have:(i+1)*sz≤es.length*sz:=Nat.mul_le_mul_right _ hi
  rw [Nat.add_mul] at this; omega
 rw [zr8 hlt]
 have h':∀ x∈es.set i (es[i].set j v),x.length=sz:=by
  intro x hx
  rcases List.mem_or_eq_of_mem_set hx with hx | rfl
  ·exact h x hx
  ·rw [List.length_set]; exact h _ (List.getElem_mem hi)
 apply List.ext_getElem?
 intro q
 rw [List.getElem?_set,zuu _ h' hs,zuu _ h hs,List.getElem?_set]
 have hm:=Nat.mod_lt q hs
 have hd:=Nat.div_add_mod q sz
 rw [XO] at hd
 by_cases hq:i*sz+j=q
 ·have e1:q / sz=i:=by rw [← hq,XO,Nat.mul_add_div hs,Nat.div_eq_of_lt hj,Nat.add_zero]
  have e2:q % sz=j:=by rw [← hq,XO,Nat.mul_add_mod,Nat.mod_eq_of_lt hj]
  rw [if_pos hq,if_pos hlt,if_pos e1.symm,if_pos hi,e2]
  simp [h _ (List.getElem_mem hi),hj]
 ·rw [if_neg hq]
  by_cases e1:i=q / sz
  ·have e2:j≠q % sz:=by rintro rfl; rw [e1] at hq; exact hq hd
   rw [if_pos e1,if_pos hi]
   simp only [Option.bind_some]
   rw [List.getElem?_set_ne e2,← e1,List.getElem?_eq_getElem hi]
   rfl
  ·rw [if_neg e1]
theorem xu{β:Type}(x y:Int)(a b:Option β):ifb (x != y) a b=if x=y then b else a:=by
 by_cases h:x=y
 ·subst h; simp [ifb]
 ·rw [bne_iff_ne.2 h,if_neg h]; rfl
end
section
def z0e{α:Type}(p:α→Bool):List α→Nat→Int
 | [],_=>-1
 | x::l,i=>if p x=true then (i:Int) else z0e p l (i+1)
theorem xM{i:Nat}(h:i≤1000000000):QG .i64 ((i:Int)+1)=((i+1:Nat):Int):=by
 rw [xH (by omega) (by omega)]; omega
end
section
noncomputable section
def gk_sha_initial:List V:=[.sc (.int .u32 1779033703),.sc (.int .u32 3144134277),.sc (.int .u32 1013904242),.sc (.int .u32 2773480762),.sc (.int .u32 1359893119),.sc (.int .u32 2600822924),.sc (.int .u32 528734635),.sc (.int .u32 1541459225)]
def gk_sha_k:List V:=[.sc (.int .u32 1116352408),.sc (.int .u32 1899447441),.sc (.int .u32 3049323471),.sc (.int .u32 3921009573),.sc (.int .u32 961987163),.sc (.int .u32 1508970993),.sc (.int .u32 2453635748),.sc (.int .u32 2870763221),.sc (.int .u32 3624381080),.sc (.int .u32 310598401),.sc (.int .u32 607225278),.sc (.int .u32 1426881987),.sc (.int .u32 1925078388),.sc (.int .u32 2162078206),.sc (.int .u32 2614888103),.sc (.int .u32 3248222580),.sc (.int .u32 3835390401),.sc (.int .u32 4022224774),.sc (.int .u32 264347078),.sc (.int .u32 604807628),.sc (.int .u32 770255983),.sc (.int .u32 1249150122),.sc (.int .u32 1555081692),.sc (.int .u32 1996064986),.sc (.int .u32 2554220882),.sc (.int .u32 2821834349),.sc (.int .u32 2952996808),.sc (.int .u32 3210313671),.sc (.int .u32 3336571891),.sc (.int .u32 3584528711),.sc (.int .u32 113926993),.sc (.int .u32 338241895),.sc (.int .u32 666307205),.sc (.int .u32 773529912),.sc (.int .u32 1294757372),.sc (.int .u32 1396182291),.sc (.int .u32 1695183700),.sc (.int .u32 1986661051),.sc (.int .u32 2177026350),.sc (.int .u32 2456956037),.sc (.int .u32 2730485921),.sc (.int .u32 2820302411),.sc (.int .u32 3259730800),.sc (.int .u32 3345764771),.sc (.int .u32 3516065817),.sc (.int .u32 3600352804),.sc (.int .u32 4094571909),.sc (.int .u32 275423344),.sc (.int .u32 430227734),.sc (.int .u32 506948616),.sc (.int .u32 659060556),.sc (.int .u32 883997877),.sc (.int .u32 958139571),.sc (.int .u32 1322822218),.sc (.int .u32 1537002063),.sc (.int .u32 1747873779),.sc (.int .u32 1955562222),.sc (.int .u32 2024104815),.sc (.int .u32 2227730452),.sc (.int .u32 2361852424),.sc (.int .u32 2428436474),.sc (.int .u32 2756734187),.sc (.int .u32 3204031479),.sc (.int .u32 3329325298)]
def gls:List (Nat × List V):=[(0,gk_sha_initial),(1,gk_sha_k)]
def fg:List (Nat × Nat):=[(3,661),(4,662),(5,663),(6,664),(7,665),(8,666),(9,667),(10,668),(11,669),(12,670),(13,577),(14,456),(15,130),(16,579),(17,474),(18,542),(19,522),(20,422),(21,671),(22,519),(23,672),(24,673),(25,517),(26,503),(27,674),(28,502),(29,461),(30,429),(31,455),(32,509),(33,675),(34,431),(35,127),(36,182),(37,128),(38,449),(39,488),(40,596),(41,597),(42,520),(43,151),(44,131),(45,578),(46,153),(47,132),(48,556),(49,557),(50,558),(51,424),(52,442),(53,148),(54,454),(55,149),(56,555),(57,588),(58,170),(59,172),(60,676),(61,157),(62,158),(63,501),(64,159),(65,160),(66,164),(67,139),(68,179),(69,201),(70,140),(71,180),(72,143),(73,145),(74,191),(75,205),(76,183),(77,146),(78,147),(79,185),(80,129),(81,583),(82,608),(83,188),(84,150),(85,548),(86,152),(87,443),(88,444),(89,445),(90,446),(91,467),(92,468),(93,469),(94,494),(95,138),(96,186),(97,187),(98,453),(99,197),(100,198),(101,200),(102,202),(103,192),(104,458),(105,193),(106,194),(107,195),(108,196),(109,173),(110,161),(111,162),(112,163),(113,165),(114,166),(115,167),(116,168),(117,169),(118,171),(119,209),(120,174),(121,175),(122,176),(123,177),(124,178),(125,181),(126,137),(127,184),(128,617),(129,470),(130,471),(131,472),(132,448),(133,473),(134,475),(135,476),(136,477),(137,478),(138,479),(139,480),(140,481),(141,482),(142,483),(143,484),(144,485),(145,486),(146,487),(147,513),(148,514),(149,515),(150,531),(151,532),(152,533),(153,206),(154,496),(155,497),(156,498),(157,207),(158,208),(159,199),(160,203),(161,204),(162,516),(163,518),(164,521),(165,134),(166,441),(167,523),(168,524),(169,525),(170,526),(171,527),(172,528),(173,529),(174,552),(175,553),(176,569),(177,570),(178,571),(179,534),(180,535),(181,210),(182,554),(183,136),(184,559),(185,560),(186,561),(187,562),(188,563),(189,564),(190,565),(191,566),(192,572),(193,589),(194,590),(195,591),(196,117),(197,592),(198,593),(199,594),(200,599),(201,600),(202,601),(203,602),(204,603),(205,604),(206,605),(207,606),(208,607),(209,610),(210,611),(211,612),(212,613),(213,614),(214,615),(215,616),(216,618),(217,619),(218,620),(219,621),(220,622),(221,623),(222,624),(223,625),(224,626),(225,627),(226,628),(227,629),(228,630),(229,631),(230,632),(231,633),(232,634),(233,635),(234,636),(235,637),(236,638),(237,639),(254,640),(255,641),(256,642),(257,643)]
noncomputable def cfD:Hint→Nat→CF:=cfG Tryz.prog (zbc fg gls)
def zx3:Hint:=⟨[(0,0),(1,1),(3,0),(3,3),(7,0),(7,9),(8,0),(8,1)],[],[none,some ((bl 9 31),(bl 2147385087 31)),none,some ((bl 9 31),(bl 2147385087 31)),none,none,some ((bl 25 31),(bl 1342177279 31)),none,some ((bl 8 31),(bl 1342177263 31)),none,none],[],[],false,false,[]⟩
def cf_ref03_Pad:CF:=cfD zx3 150
def zlm:CC:=yy [1,1,1,0,1,0,0] cf_ref03_Pad.body
def zn0:CC:=yy [1,1,0,0,0] cf_ref03_Pad.body
def zwq:CC:=yy [1,1,1,1] cf_ref03_Pad.body
def zre:CC:=yy [1,1,1] cf_ref03_Pad.body
def zax:Nat→Sh:=xC []
def zay(L:Nat):CBC:=noC
def zo8:St→St:=zM 0 (bl 9 31) (bl 2147385087 31)
def zmI:St→St:=zM 0 (bl 25 31) (bl 1342177279 31)
def zhd(z:Int)(A:Ls):St:=⟨((Qd z)::(jn 2 ((V.gs 1 A)::(jn 27 [])))),(gn 31 [])⟩
def zkf(z:Int)(A:Ls):St:=⟨((Qd z)::(jn 2 ((V.gs 1 A)::(jn 27 [])))),(gn 31 [])⟩
def zfz(z:Int)(A:Ls)(C:Int):St:=⟨((Qd z)::(jn 2 ((V.gs 1 A)::((Qe C)::(jn 26 []))))),(gn 31 [])⟩
def zpS(z:Ls):St:=⟨(jn 3 ((V.gs 1 z)::(jn 27 []))),(gn 31 [])⟩
section
variable {β:Type}
def zxz(L:Nat)(A:Int)(z:Int→Ls→Ob β):Ob β:=z A (zf 1 1 [(Qa (128:Int))])
theorem zKy(L:Nat)(z:Int)(k:KK β):zj zax (zay L) L cf_ref03_Pad [(Qd z)] [] k=zxz L z (fun z A=>yt (xd zax (zay L) 0 L zn0) zo8 L (zhd z A) (zi 0 (yr (xd zax (zay L) 0 L zre) (zy 0 (CF.res cf_ref03_Pad) k)))):=by kernel_rfl
def zpY(L:Nat)(C:Int)(A:Ls)(z:Int→Ls→Ob β)(D:Int→Ls→Ob β):Ob β:=lt (QG .u64 ((XK A:Nat):Int)) fun E=>lt (QG .u64 ((C:Int)+E)) fun F=>lt (QG .u64 ((F:Int)+(8:Int))) fun G=>lt (XQ G (64:Int)) fun H=>ifb ((H:Int) != (0:Int)) (chk ((XK A+XK (zf 1 1 [(Qa (0:Int))]))*1≤xf∧XK A+XK (zf 1 1 [(Qa (0:Int))])≤xf) (lt (A++(zf 1 1 [(Qa (0:Int))])) fun I=>z C I)) (D C A)
theorem zC0(L:Nat)(z:Int)(A:Ls)(X:St→Ob β)(K:KT β):xd zax (zay L) 0 L zn0 (zhd z A) (zI zo8 X K)=zpY L z A (fun z A=>X (zhd z A)) (fun z A=>K (.exit 0) (zkf z A)):=by kernel_rfl
def zmr(L:Nat)(A:Int)(C:Ls)(z:Int→Ls→Int→Ob β):Ob β:=z A C (7:Int)
theorem zAh(L:Nat)(z:Int)(A:Ls)(k:KK β):(zi 0 (yr (xd zax (zay L) 0 L zre) (zy 0 (CF.res cf_ref03_Pad) k))) (.exit 0) (zkf z A)=zmr L z A (fun z A C=>yt (xd zax (zay L) 0 L zlm) zmI L (zfz z A C) (zi 2 (yr (xd zax (zay L) 0 L zwq) (zy 0 (CF.res cf_ref03_Pad) k)))):=by kernel_rfl
def zfs(L:Nat)(F:Int)(A:Ls)(C:Int)(z:Int→Ls→Int→Ob β)(D:Ls→Ob β):Ob β:=ifb (decide (C≥(0:Int))) (lt (QG .u64 (((8:Int):Int)*F)) fun I=>lt (QG .i64 (((8:Int):Int)*C)) fun G=>chk (0≤G) (lt (zb1 .u64 I G) fun J=>lt (QG .u8 J) fun E=>chk ((XK A+XK (zf 1 1 [(Qa E)]))*1≤xf∧XK A+XK (zf 1 1 [(Qa E)])≤xf) (lt (A++(zf 1 1 [(Qa E)])) fun M=>lt (QG .i64 ((C:Int)-(1:Int))) fun H=>z F M H))) (D A)
theorem zzi(L:Nat)(A:Int)(z:Ls)(C:Int)(X:St→Ob β)(K:KT β):xd zax (zay L) 0 L zlm (zfz A z C) (zI zmI X K)=zfs L A z C (fun A z C=>X (zfz A z C)) (fun z=>K (.exit 2) (zpS z)):=by kernel_rfl
def zjC(L:Nat)(A:Ls)(z:Ls→Ob β):Ob β:=z A
theorem zxh(L:Nat)(z:Ls)(k:KK β):(zi 2 (yr (xd zax (zay L) 0 L zwq) (zy 0 (CF.res cf_ref03_Pad) k))) (.exit 2) (zpS z)=zjC L z (fun A=>k (V.gs 1 A) []):=by kernel_rfl
def zg4(L:Nat)(z:Int→Ls→Ob β):Nat→Int→Ls→Ob β
 | 0,_,_=>none
 | n+1,A,C=>zpY L A C (fun A C=>zg4 L z n A C) z
theorem zr9(L:Nat)(K:KT β):∀ (n:Nat) (z:Int) (A:Ls),yt (xd zax (zay L) 0 L zn0) zo8 n (zhd z A) K=zg4 L (fun z A=>K (.exit 0) (zkf z A)) n z A:=by
 intro n; induction n <;> intros
 ·rfl
 ·exact (zC0 ..).trans (by simp only [*]; rfl)
def zdG(L:Nat)(z:Ls→Ob β):Nat→Int→Ls→Int→Ob β
 | 0,_,_,_=>none
 | n+1,A,C,D=>zfs L A C D (fun A C D=>zdG L z n A C D) z
theorem zoY(L:Nat)(K:KT β):∀ (n:Nat) (A:Int) (z:Ls) (C:Int),yt (xd zax (zay L) 0 L zlm) zmI n (zfz A z C) K=zdG L (fun z=>K (.exit 2) (zpS z)) n A z C:=by
 intro n; induction n <;> intros
 ·rfl
 ·exact (zzi ..).trans (by simp only [*]; rfl)
def zhe(L:Nat)(C:Int)(z:Ls)(A:Ls→Ob β):Ob β:=zmr L C z (fun C z D=>zdG L (fun z=>zjC L z A) L C z D)
theorem zx1(L:Nat)(z:Int)(A:Ls)(k:KK β):(zi 0 (yr (xd zax (zay L) 0 L zre) (zy 0 (CF.res cf_ref03_Pad) k))) (.exit 0) (zkf z A)=zhe L z A (fun z=>k (V.gs 1 z) []):=by
 refine (zAh ..).trans ?_
 unfold zhe
 first
  | (simp only [zoY,zxh]; done)
  | (simp only [zoY]; rfl)
end
def zrv{β:Type}(L:Nat)(z:Int)(A:Ls→Ob β):Ob β:=zxz L z (fun z C=>zg4 L (fun z C=>zhe L z C A) L z C)
theorem zJG{β:Type}(L:Nat)(z:Int)(k:KK β):zj zax (zay L) L cf_ref03_Pad [(Qd z)] [] k=zrv L z (fun z=>k (V.gs 1 z) []):=by
 refine (zKy L z k).trans ?_
 unfold zrv
 first
  | (simp only [zr9,zx1]; done)
  | (simp only [zr9]; rfl)
abbrev zjt:=∀ (β:Type),Nat→Int→(Ls→Ob β)→Ob β
def zC:zjt:=fun β=>@zrv β
def zxs(zC:zjt)(L:Nat):Dk:=dA (AI .u64) fun z=>d0 fun β k=>zC β L z (fun z=>k (V.gs 1 z) [])
theorem zJv(L:Nat):DK (zxs zC L) (fun _=>zj zax (zay L) L cf_ref03_Pad):=xo z8 fun z=>zK fun _ k=>zJG L z k
def zsp:Hint:=⟨[],[],[none],[],[],false,false,[]⟩
def zum:CF:=cfD zsp 151
def znL:Nat→Sh:=xC []
def zn9(L:Nat):CBC:=noC
def zoT{β:Type}(L:Nat)(z:List V→Ob β):Ob β:=lt [(Qc (1779033703:Int)),(Qc (3144134277:Int)),(Qc (1013904242:Int)),(Qc (2773480762:Int)),(Qc (1359893119:Int)),(Qc (2600822924:Int)),(Qc (528734635:Int)),(Qc (1541459225:Int))] fun A=>chk (0=0∧(XK A)=8∧8≠0) (z A)
theorem zDM{β:Type}(L:Nat)(k:KK β):zj znL (zn9 L) L zum [] [] k=zoT L (fun z=>k (V.agg z) []):=by kernel_rfl
abbrev ze2:=∀ (β:Type),Nat→(List V→Ob β)→Ob β
def zq:ze2:=fun β=>@zoT β
def zoQ(zq:ze2)(L:Nat):Dk:=d0 fun β k=>zq β L (fun z=>k (V.agg z) [])
theorem zBV(L:Nat):DK (zoQ zq L) (fun _=>zj znL (zn9 L) L zum):=zK fun _ k=>zDM L k
def ziw:Hint:=⟨[],[],[none],[],[],false,false,[]⟩
def zkt:CF:=cfD ziw 192
def zfP:Nat→Sh:=xC []
def zfO(L:Nat):CBC:=noC
def zge{β:Type}(L:Nat)(C E:Int)(z:Int→Ob β):Ob β:=lt (QG .u64 E) fun F=>lt (zee .u64 F (31:Int)) fun A=>chk (0≤A) (lt (zde .u32 C A) fun G=>lt (QG .u64 (((32:Int):Int)-A)) fun D=>chk (0≤D) (lt (zb1 .u32 C D) fun H=>lt (ior .u32 G H) fun I=>z I))
theorem zsq{β:Type}(L:Nat)(z A:Int)(k:KK β):zj zfP (zfO L) L zkt [(Qc z),(Qe A)] [] k=zge L z A (fun z=>k (Qc z) []):=by kernel_rfl
abbrev zae:=∀ (β:Type),Nat→Int→Int→(Int→Ob β)→Ob β
def yj:zae:=fun β=>@zge β
def zdx(yj:zae)(L:Nat):Dk:=dA (AI .u32) fun z=>dA (AI .i64) fun A=>d0 fun β k=>yj β L z A (fun z=>k (Qc z) [])
theorem zrU(L:Nat):DK (zdx yj L) (fun _=>zj zfP (zfO L) L zkt):=xo z8 fun z=>xo z8 fun A=>zK fun _ k=>zsq L z A k
def zwn:Hint:=⟨[],[],[none],[],[],false,false,[]⟩
def zAY:CF:=cfD zwn 178
def zsQ:Nat→Sh:=xC []
def zsT(yj:zae)(L:Nat):CBC:=(xp 572 (zdx yj L) noC)
def zuz{β:Type}(yj:zae)(L:Nat)(A C:Int)(z:Int→Ob β):Ob β:=lt (QG .i64 (0-C)) fun D=>yj β L A D (fun E=>z E)
theorem zIm{β:Type}(yj:zae)(L:Nat)(z A:Int)(k:KK β):zj zsQ (zsT yj L) L zAY [(Qc z),(Qe A)] [] k=zuz yj L z A (fun z=>k (Qc z) []):=by kernel_rfl
abbrev zcH:=∀ (β:Type),Nat→Int→Int→(Int→Ob β)→Ob β
def zh:zcH:=fun β=>@zuz β yj
def zp3(zh:zcH)(L:Nat):Dk:=dA (AI .u32) fun z=>dA (AI .i64) fun A=>d0 fun β k=>zh β L z A (fun z=>k (Qc z) [])
theorem zHV(L:Nat):DK (zp3 zh L) (fun _=>zj zsQ (zsT yj L) L zAY):=xo z8 fun z=>xo z8 fun A=>zK fun _ k=>zIm yj L z A k
def zqq:Hint:=⟨[],[],[none,some ((bl 30 97),(bl 158456325028528675187087900671 97)),none,some ((bl 12 97),(bl 158456325028528675187087900653 97)),none,none,some ((bl 44 97),(bl 158456315288573494874593034045 97)),none,some ((bl 12 97),(bl 158456315288573494874593034013 97)),none,none],[],[],false,false,[]⟩
def cf_ref03_schedule:CF:=cfD zqq 176
def zgJ:CC:=yy [1,1,1,0,1,0,0] cf_ref03_schedule.body
def zhz:CC:=yy [1,1,0,1,0,0] cf_ref03_schedule.body
def zpL:CC:=yy [1,1,1,1] cf_ref03_schedule.body
def zjE:CC:=yy [1,1,1] cf_ref03_schedule.body
def zQ:Nat→Sh:=xC [(16,(.int .u8)),(23,(.int .u8)),(31,(.int .u8)),(39,(.int .u8)),(50,(.int .u32)),(55,(.int .u32)),(61,(.int .u32)),(67,(.int .u32)),(72,(.int .u32)),(78,(.int .u32)),(85,(.int .u32)),(91,(.int .u32))]
def xQ(zh:zcH)(L:Nat):CBC:=(xp 571 (zp3 zh L) noC)
def zii:St→St:=zM 0 (bl 30 97) (bl 158456325028528675187087900671 97)
def zhx:St→St:=zM 0 (bl 44 97) (bl 158456315288573494874593034045 97)
def zdq(z:Int)(A C D:List V):St:=⟨(jn 1 ((V.ptr 1 0)::((V.ptr 2 0)::((V.ptr 3 0)::((Qe z)::(jn 92 [])))))),(gn 1 ((.live true A)::((.live true C)::((.live true D)::(gn 93 [])))))⟩
def zfM(z A:List V):St:=⟨(jn 2 ((V.ptr 2 0)::((V.ptr 3 0)::(jn 93 [])))),(gn 2 ((.live true z)::((.live true A)::(gn 93 []))))⟩
def zc9(z:Int)(A C:List V):St:=⟨(jn 2 ((V.ptr 2 0)::((V.ptr 3 0)::(jn 1 ((Qe z)::(jn 91 [])))))),(gn 2 ((.live true A)::((.live true C)::(gn 93 []))))⟩
def ziO(z A:List V):St:=⟨(jn 2 ((V.ptr 2 0)::((V.ptr 3 0)::(jn 93 [])))),(gn 2 ((.live true z)::((.live true A)::(gn 93 []))))⟩
section
variable {β:Type} (zh:zcH)
def zoc(L:Nat)(A:List V)(z:Int→List V→List V→List V→Ob β):Ob β:=z (0:Int) A (We 64 (Qc (0:Int))) (We 64 (Qc (0:Int)))
theorem zBu(L:Nat)(z:List V)(k:KK β):zj zQ (xQ zh L) L cf_ref03_schedule [(V.agg z)] [] k=zoc L z (fun A C D E=>yt (xd zQ (xQ zh L) 0 L zhz) zii L (zdq A C D E) (zi 0 (yr (xd zQ (xQ zh L) 0 L zjE) (zy 0 (CF.res cf_ref03_schedule) k)))):=by kernel_rfl
def zcX(L:Nat)(z:Int)(C J F:List V)(A:Int→List V→List V→List V→Ob β)(G:List V→List V→Ob β):Ob β:=ifb (decide (z<(16:Int))) (lt (QG .i64 (((4:Int):Int)*z)) fun H=>chk (0≤H∧H<((64:Nat):Int)) (cI .u8 C (0+((XL H)*1)) fun Y=>lt (QG .u32 Y) fun Z=>lt (zde .u32 Z (24:Int)) fun x3=>lt (QG .i64 (((4:Int):Int)*z)) fun x4=>lt (QG .i64 ((x4:Int)+(1:Int))) fun I=>chk (0≤I∧I<((64:Nat):Int)) (cI .u8 C (0+((XL I)*1)) fun v6=>lt (QG .u32 v6) fun x7=>lt (zde .u32 x7 (16:Int)) fun x8=>lt (ior .u32 x3 x8) fun x9=>lt (QG .i64 (((4:Int):Int)*z)) fun M=>lt (QG .i64 ((M:Int)+(2:Int))) fun D=>chk (0≤D∧D<((64:Nat):Int)) (cI .u8 C (0+((XL D)*1)) fun N=>lt (QG .u32 N) fun O=>lt (zde .u32 O (8:Int)) fun P=>lt (ior .u32 x9 P) fun Q=>lt (QG .i64 (((4:Int):Int)*z)) fun R=>lt (QG .i64 ((R:Int)+(3:Int))) fun E=>chk (0≤E∧E<((64:Nat):Int)) (cI .u8 C (0+((XL E)*1)) fun S=>lt (QG .u32 S) fun T=>lt (ior .u32 Q T) fun U=>chk (0≤z∧z<((64:Nat):Int)) (chk (1=1∧(0+((XL z)*1))+1≤(XK F)) (lt (yd F (0+((XL z)*1)) [(Qc U)]) fun W=>lt (QG .i64 ((z:Int)+(1:Int))) fun X=>A X C J W))))))) (G J F)
theorem zuO(L:Nat)(C:Int)(D z A:List V)(X:St→Ob β)(K:KT β):xd zQ (xQ zh L) 0 L zhz (zdq C D z A) (zI zii X K)=zcX L C D z A (fun C D z A=>X (zdq C D z A)) (fun z A=>K (.exit 0) (zfM z A)):=by kernel_rfl
def zgM(L:Nat)(A C:List V)(z:Int→List V→List V→Ob β):Ob β:=z (16:Int) A C
theorem zsv(L:Nat)(z A:List V)(k:KK β):(zi 0 (yr (xd zQ (xQ zh L) 0 L zjE) (zy 0 (CF.res cf_ref03_schedule) k))) (.exit 0) (zfM z A)=zgM L z A (fun C z A=>yt (xd zQ (xQ zh L) 0 L zgJ) zhx L (zc9 C z A) (zi 2 (yr (xd zQ (xQ zh L) 0 L zpL) (zy 0 (CF.res cf_ref03_schedule) k)))):=by kernel_rfl
def zcN(L:Nat)(z:Int)(O A:List V)(C:Int→List V→List V→Ob β)(N:List V→List V→Ob β):Ob β:=ifb (decide (z<(64:Int))) (lt (QG .i64 ((z:Int)-(15:Int))) fun D=>chk (0≤D∧D<((64:Nat):Int)) (cI .u32 A (0+((XL D)*1)) fun P=>zh β L P (7:Int) (fun Q=>lt (QG .i64 ((z:Int)-(15:Int))) fun E=>chk (0≤E∧E<((64:Nat):Int)) (cI .u32 A (0+((XL E)*1)) fun R=>zh β L R (18:Int) (fun S=>lt (zb3 .u32 Q S) fun T=>lt (QG .i64 ((z:Int)-(15:Int))) fun F=>chk (0≤F∧F<((64:Nat):Int)) (cI .u32 A (0+((XL F)*1)) fun U=>lt (zb1 .u32 U (3:Int)) fun W=>lt (zb3 .u32 T W) fun X=>lt (QG .i64 ((z:Int)-(2:Int))) fun G=>chk (0≤G∧G<((64:Nat):Int)) (cI .u32 A (0+((XL G)*1)) fun Y=>zh β L Y (17:Int) (fun Z=>lt (QG .i64 ((z:Int)-(2:Int))) fun H=>chk (0≤H∧H<((64:Nat):Int)) (cI .u32 A (0+((XL H)*1)) fun aa=>zh β L aa (19:Int) (fun ab=>lt (zb3 .u32 Z ab) fun ac=>lt (QG .i64 ((z:Int)-(2:Int))) fun I=>chk (0≤I∧I<((64:Nat):Int)) (cI .u32 A (0+((XL I)*1)) fun ad=>lt (zb1 .u32 ad (10:Int)) fun ae=>lt (zb3 .u32 ac ae) fun af=>lt (QG .i64 ((z:Int)-(16:Int))) fun J=>chk (0≤J∧J<((64:Nat):Int)) (cI .u32 A (0+((XL J)*1)) fun ag=>lt (QG .u32 ((ag:Int)+X)) fun ah=>lt (QG .i64 ((z:Int)-(7:Int))) fun M=>chk (0≤M∧M<((64:Nat):Int)) (cI .u32 A (0+((XL M)*1)) fun ai=>lt (QG .u32 ((ah:Int)+ai)) fun aj=>lt (QG .u32 ((aj:Int)+af)) fun ak=>chk (0≤z∧z<((64:Nat):Int)) (chk (1=1∧(0+((XL z)*1))+1≤(XK A)) (lt (yd A (0+((XL z)*1)) [(Qc ak)]) fun al=>lt (QG .i64 ((z:Int)+(1:Int))) fun am=>C am O al))))))))))))))) (N O A)
theorem ztW(L:Nat)(C:Int)(z A:List V)(X:St→Ob β)(K:KT β):xd zQ (xQ zh L) 0 L zgJ (zc9 C z A) (zI zhx X K)=zcN zh L C z A (fun C z A=>X (zc9 C z A)) (fun z A=>K (.exit 2) (ziO z A)):=by kernel_rfl
def zga(L:Nat)(D C:List V)(z:List V→Ob β):Ob β:=chk (0+64≤(XK C)) (chk ((XK (XM 64 C))=64∧0+64≤(XK D)) (lt (yd D 0 (XM 64 C)) fun A=>chk (0=0∧(XK A)=64∧64≠0) (z A)))
theorem zrT(L:Nat)(z A:List V)(k:KK β):(zi 2 (yr (xd zQ (xQ zh L) 0 L zpL) (zy 0 (CF.res cf_ref03_schedule) k))) (.exit 2) (ziO z A)=zga L z A (fun C=>k (V.agg C) []):=by kernel_rfl
def zbT(L:Nat)(z:List V→List V→Ob β):Nat→Int→List V→List V→List V→Ob β
 | 0,_,_,_,_=>none
 | n+1,A,C,D,E=>zcX L A C D E (fun A C D E=>zbT L z n A C D E) z
theorem zk3(L:Nat)(K:KT β):∀ (n:Nat) (C:Int) (D z A:List V),yt (xd zQ (xQ zh L) 0 L zhz) zii n (zdq C D z A) K=zbT L (fun z A=>K (.exit 0) (zfM z A)) n C D z A:=by
 intro n; induction n <;> intros
 ·rfl
 ·exact (zuO ..).trans (by simp only [*]; rfl)
def zbA(L:Nat)(z:List V→List V→Ob β):Nat→Int→List V→List V→Ob β
 | 0,_,_,_=>none
 | n+1,A,C,D=>zcN zh L A C D (fun A C D=>zbA L z n A C D) z
theorem zko(L:Nat)(K:KT β):∀ (n:Nat) (C:Int) (z A:List V),yt (xd zQ (xQ zh L) 0 L zgJ) zhx n (zc9 C z A) K=zbA zh L (fun z A=>K (.exit 2) (ziO z A)) n C z A:=by
 intro n; induction n <;> intros
 ·rfl
 ·exact (ztW ..).trans (by simp only [*]; rfl)
def zdE(L:Nat)(z A:List V)(C:List V→Ob β):Ob β:=zgM L z A (fun D z A=>zbA zh L (fun z A=>zga L z A C) L D z A)
theorem zrO(L:Nat)(z A:List V)(k:KK β):(zi 0 (yr (xd zQ (xQ zh L) 0 L zjE) (zy 0 (CF.res cf_ref03_schedule) k))) (.exit 0) (zfM z A)=zdE zh L z A (fun C=>k (V.agg C) []):=by
 refine (zsv ..).trans ?_
 unfold zdE
 first
  | (simp only [zko,zrT]; done)
  | (simp only [zko]; rfl)
end
def zi3{β:Type}(zh:zcH)(L:Nat)(D:List V)(z:List V→Ob β):Ob β:=zoc L D (fun E F A C=>zbT L (fun A C=>zdE zh L A C z) L E F A C)
theorem zBg{β:Type}(zh:zcH)(L:Nat)(z:List V)(k:KK β):zj zQ (xQ zh L) L cf_ref03_schedule [(V.agg z)] [] k=zi3 zh L z (fun z=>k (V.agg z) []):=by
 refine (zBu zh L z k).trans ?_
 unfold zi3
 first
  | (simp only [zk3,zrO]; done)
  | (simp only [zk3]; rfl)
abbrev zes:=∀ (β:Type),Nat→List V→(List V→Ob β)→Ob β
def zw:zes:=fun β=>@zi3 β zh
def znX(zw:zes)(L:Nat):Dk:=dA AG fun z=>d0 fun β k=>zw β L z (fun z=>k (V.agg z) [])
theorem zBt(L:Nat):DK (znX zw L) (fun _=>zj zQ (xQ zh L) L cf_ref03_schedule):=xo zbR fun z=>zK fun _ k=>zBg zh L z k
def zpO:Hint:=⟨[],[],[none],[],[],false,false,[]⟩
def zrZ:CF:=cfD zpO 177
def zkZ:Nat→Sh:=xC []
def zkv(L:Nat):CBC:=noC
def zmB{β:Type}(L:Nat)(z:List V→Ob β):Ob β:=lt [(Qc (1116352408:Int)),(Qc (1899447441:Int)),(Qc (3049323471:Int)),(Qc (3921009573:Int)),(Qc (961987163:Int)),(Qc (1508970993:Int)),(Qc (2453635748:Int)),(Qc (2870763221:Int)),(Qc (3624381080:Int)),(Qc (310598401:Int)),(Qc (607225278:Int)),(Qc (1426881987:Int)),(Qc (1925078388:Int)),(Qc (2162078206:Int)),(Qc (2614888103:Int)),(Qc (3248222580:Int)),(Qc (3835390401:Int)),(Qc (4022224774:Int)),(Qc (264347078:Int)),(Qc (604807628:Int)),(Qc (770255983:Int)),(Qc (1249150122:Int)),(Qc (1555081692:Int)),(Qc (1996064986:Int)),(Qc (2554220882:Int)),(Qc (2821834349:Int)),(Qc (2952996808:Int)),(Qc (3210313671:Int)),(Qc (3336571891:Int)),(Qc (3584528711:Int)),(Qc (113926993:Int)),(Qc (338241895:Int)),(Qc (666307205:Int)),(Qc (773529912:Int)),(Qc (1294757372:Int)),(Qc (1396182291:Int)),(Qc (1695183700:Int)),(Qc (1986661051:Int)),(Qc (2177026350:Int)),(Qc (2456956037:Int)),(Qc (2730485921:Int)),(Qc (2820302411:Int)),(Qc (3259730800:Int)),(Qc (3345764771:Int)),(Qc (3516065817:Int)),(Qc (3600352804:Int)),(Qc (4094571909:Int)),(Qc (275423344:Int)),(Qc (430227734:Int)),(Qc (506948616:Int)),(Qc (659060556:Int)),(Qc (883997877:Int)),(Qc (958139571:Int)),(Qc (1322822218:Int)),(Qc (1537002063:Int)),(Qc (1747873779:Int)),(Qc (1955562222:Int)),(Qc (2024104815:Int)),(Qc (2227730452:Int)),(Qc (2361852424:Int)),(Qc (2428436474:Int)),(Qc (2756734187:Int)),(Qc (3204031479:Int)),(Qc (3329325298:Int))] fun A=>chk (0=0∧(XK A)=64∧64≠0) (z A)
theorem zAr{β:Type}(L:Nat)(k:KK β):zj zkZ (zkv L) L zrZ [] [] k=zmB L (fun z=>k (V.agg z) []):=by kernel_rfl
abbrev zdL:=∀ (β:Type),Nat→(List V→Ob β)→Ob β
def zt:zdL:=fun β=>@zmB β
def zme(zt:zdL)(L:Nat):Dk:=d0 fun β k=>zt β L (fun z=>k (V.agg z) [])
theorem zzz(L:Nat):DK (zme zt L) (fun _=>zj zkZ (zkv L) L zrZ):=zK fun _ k=>zAr L k
def zqj:Hint:=⟨[],[],[none,some ((bl 65524 133),(bl 10889035741470030808987042129089031634935 133)),none,some ((bl 32660 133),(bl 10889035741470030808987042129089031602071 133)),none,none],[],[],false,false,[]⟩
def cf_ref03_Compress:CF:=cfD zqj 152
def zgI:CC:=yy [1,1,1,0,1,0,0] cf_ref03_Compress.body
def zoI:CC:=yy [1,1,1,1] cf_ref03_Compress.body
def za2:Nat→Sh:=xC [(22,(.int .u32)),(24,(.int .u32)),(26,(.int .u32)),(28,(.int .u32)),(30,(.int .u32)),(32,(.int .u32)),(34,(.int .u32)),(36,(.int .u32)),(62,(.int .u32)),(66,(.int .u32)),(101,(.int .u32)),(105,(.int .u32)),(109,(.int .u32)),(113,(.int .u32)),(117,(.int .u32)),(121,(.int .u32)),(125,(.int .u32)),(129,(.int .u32))]
def za6(zw:zes)(zt:zdL)(zh:zcH)(L:Nat):CBC:=(xp 571 (zp3 zh L) (xp 570 (zme zt L) (xp 569 (znX zw L) noC)))
def zhr:St→St:=zM 0 (bl 65524 133) (bl 10889035741470030808987042129089031634935 133)
def zc8(Q R S I J M N O P:Int)(T:List V)(z A C D E F G H:Int)(U W:List V):St:=⟨(jn 2 ((V.ptr 2 0)::(jn 1 ((V.ptr 4 0)::((V.ptr 5 0)::((V.ptr 6 0)::((Qc Q)::((Qc R)::((Qc S)::((Qc I)::((Qc J)::((Qc M)::((Qc N)::((Qc O)::((Qe P)::(jn 117 [])))))))))))))))),(gn 2 ((.live true T)::(gn 1 ((.live true [(Qc z),(Qc A),(Qc C),(Qc D),(Qc E),(Qc F),(Qc G),(Qc H)])::((.live true U)::((.live true W)::(gn 126 [])))))))⟩
def ziA(P Q R I J M N O:Int)(S:List V)(z A C D E F G H:Int):St:=⟨(jn 2 ((V.ptr 2 0)::(jn 1 ((V.ptr 4 0)::(jn 2 ((Qc P)::((Qc Q)::((Qc R)::((Qc I)::((Qc J)::((Qc M)::((Qc N)::((Qc O)::(jn 118 [])))))))))))))),(gn 2 ((.live true S)::(gn 1 ((.live true [(Qc z),(Qc A),(Qc C),(Qc D),(Qc E),(Qc F),(Qc G),(Qc H)])::(gn 128 [])))))⟩
abbrev zgH(β:Type):Type:=Int→Int→Int→Int→Int→Int→Int→Int→Int→List V→Int→Int→Int→Int→Int→Int→Int→Int→List V→List V→Ob β
abbrev zhk(β:Type):Type:=Int→Int→Int→Int→Int→Int→Int→Int→List V→Int→Int→Int→Int→Int→Int→Int→Int→Ob β
section
variable {β:Type} (zw:zes) (zt:zdL) (zh:zcH)
def znY(L:Nat)(z C:List V)(A:zgH β):Ob β:=chk (0+64≤(XK C)) (zw β L (XM 64 C) (fun D=>zt β L  (fun E=>chk ((XK D)=64∧0+64≤64) (lt (yd (We 64 (Qc (0:Int))) 0 D) fun H=>chk ((XK E)=64∧0+64≤64) (lt (yd (We 64 (Qc (0:Int))) 0 E) fun I=>cI .u32 z 0 fun J=>cI .u32 z 1 fun M=>cI .u32 z 2 fun N=>cI .u32 z 3 fun O=>cI .u32 z 4 fun P=>cI .u32 z 5 fun Q=>cI .u32 z 6 fun F=>cI .u32 z 7 fun G=>A J M N O P Q F G (0:Int) z (0:Int) (0:Int) (0:Int) (0:Int) (0:Int) (0:Int) (0:Int) (0:Int) H I)))))
theorem zA3(L:Nat)(I J:List V)(k:KK β):zj za2 (za6 zw zt zh L) L cf_ref03_Compress [(V.agg I),(V.agg J)] [] k=znY zw zt L I J (fun S T U M N O P Q R W z A C D E F G H X Y=>yt (xd za2 (za6 zw zt zh L) 0 L zgI) zhr L (zc8 S T U M N O P Q R W z A C D E F G H X Y) (zi 0 (yr (xd za2 (za6 zw zt zh L) 0 L zoI) (zy 0 (CF.res cf_ref03_Compress) k)))):=by kernel_rfl
def zcE(L:Nat)(D Q R S A E F T z:Int)(X:List V)(G H I J M N O P:Int)(Y Z:List V)(C:zgH β)(W:zhk β):Ob β:=ifb (decide (z<(64:Int))) (zh β L A (6:Int) (fun aa=>zh β L A (11:Int) (fun ab=>lt (zb3 .u32 aa ab) fun ac=>zh β L A (25:Int) (fun ad=>lt (zb3 .u32 ac ad) fun ae=>lt (QG .u32 ((T:Int)+ae)) fun af=>lt (zee .u32 A E) fun ag=>lt (zMO .u32 A) fun ah=>lt (zee .u32 ah F) fun ai=>lt (zb3 .u32 ag ai) fun aj=>lt (QG .u32 ((af:Int)+aj)) fun ak=>chk (0≤z∧z<((64:Nat):Int)) (cI .u32 Z (0+((XL z)*1)) fun al=>lt (QG .u32 ((ak:Int)+al)) fun am=>chk (0≤z∧z<((64:Nat):Int)) (cI .u32 Y (0+((XL z)*1)) fun an=>lt (QG .u32 ((am:Int)+an)) fun U=>zh β L D (2:Int) (fun ao=>zh β L D (13:Int) (fun ap=>lt (zb3 .u32 ao ap) fun aq=>zh β L D (22:Int) (fun ar=>lt (zb3 .u32 aq ar) fun au=>lt (zee .u32 D Q) fun av=>lt (zee .u32 D R) fun aw=>lt (zb3 .u32 av aw) fun ax=>lt (zee .u32 Q R) fun ay=>lt (zb3 .u32 ax ay) fun az=>lt (QG .u32 ((au:Int)+az)) fun aC=>lt (QG .u32 ((S:Int)+U)) fun aD=>lt (QG .u32 ((U:Int)+aC)) fun aE=>lt (QG .i64 ((z:Int)+(1:Int))) fun aH=>C aE D Q R aD A E F aH X G H I J M N O P Y Z))))))))) (W D Q R S A E F T X G H I J M N O P)
theorem ztx(L:Nat)(Q R S I J M N O P:Int)(T:List V)(z A C D E F G H:Int)(U W:List V)(X:St→Ob β)(K:KT β):xd za2 (za6 zw zt zh L) 0 L zgI (zc8 Q R S I J M N O P T z A C D E F G H U W) (zI zhr X K)=zcE zh L Q R S I J M N O P T z A C D E F G H U W (fun Q R S I J M N O P T z A C D E F G H U W=>X (zc8 Q R S I J M N O P T z A C D E F G H U W)) (fun Q R S I J M N O T z A C D E F G H=>K (.exit 0) (ziA Q R S I J M N O T z A C D E F G H)):=by kernel_rfl
def zdt(L:Nat)(p7 p8 p9 D E F G H:Int)(z:List V)(ae af ag ah ai aj ak al:Int)(A:List V→Ob β):Ob β:=cI .u32 z 0 fun I=>lt (QG .u32 ((I:Int)+p7)) fun J=>cI .u32 z 1 fun M=>lt (QG .u32 ((M:Int)+p8)) fun N=>cI .u32 z 2 fun O=>lt (QG .u32 ((O:Int)+p9)) fun P=>cI .u32 z 3 fun Q=>lt (QG .u32 ((Q:Int)+D)) fun R=>cI .u32 z 4 fun S=>lt (QG .u32 ((S:Int)+E)) fun T=>cI .u32 z 5 fun U=>lt (QG .u32 ((U:Int)+F)) fun W=>cI .u32 z 6 fun X=>lt (QG .u32 ((X:Int)+G)) fun Y=>cI .u32 z 7 fun Z=>lt (QG .u32 ((Z:Int)+H)) fun aa=>lt [(Qc J),(Qc N),(Qc P),(Qc R),(Qc T),(Qc W),(Qc Y),(Qc aa)] fun C=>chk (0=0∧(XK C)=8∧8≠0) (A C)
theorem zr5(L:Nat)(P Q R I J M N O:Int)(S:List V)(z A C D E F G H:Int)(k:KK β):(zi 0 (yr (xd za2 (za6 zw zt zh L) 0 L zoI) (zy 0 (CF.res cf_ref03_Compress) k))) (.exit 0) (ziA P Q R I J M N O S z A C D E F G H)=zdt L P Q R I J M N O S z A C D E F G H (fun T=>k (V.agg T) []):=by kernel_rfl
def zbw(L:Nat)(I:zhk β):Nat→Int→Int→Int→Int→Int→Int→Int→Int→Int→List V→Int→Int→Int→Int→Int→Int→Int→Int→List V→List V→Ob β
 | 0,_,_,_,_,_,_,_,_,_,_,_,_,_,_,_,_,_,_,_,_=>none
 | n+1,R,S,T,J,M,N,O,P,Q,U,z,A,C,D,E,F,G,H,W,X=>zcE zh L R S T J M N O P Q U z A C D E F G H W X (fun R S T J M N O P Q U z A C D E F G H W X=>zbw L I n R S T J M N O P Q U z A C D E F G H W X) I
theorem zkl(L:Nat)(K:KT β):∀ (n:Nat) (P Q R I J M N O T:Int) (S:List V) (z A C D E F G H:Int) (U W:List V),yt (xd za2 (za6 zw zt zh L) 0 L zgI) zhr n (zc8 P Q R I J M N O T S z A C D E F G H U W) K=zbw zh L (fun P Q R I J M N O S z A C D E F G H=>K (.exit 0) (ziA P Q R I J M N O S z A C D E F G H)) n P Q R I J M N O T S z A C D E F G H U W:=by
 intro n; induction n <;> intros
 ·rfl
 ·exact (ztx ..).trans (by simp only [*]; rfl)
end
def ziE{β:Type}(zw:zes)(zt:zdL)(zh:zcH)(L:Nat)(W X:List V)(P:List V→Ob β):Ob β:=znY zw zt L W X (fun Q R S I J M N O U T z A C D E F G H Y Z=>zbw zh L (fun Q R S I J M N O T z A C D E F G H=>zdt L Q R S I J M N O T z A C D E F G H P) L Q R S I J M N O U T z A C D E F G H Y Z)
theorem zBd{β:Type}(zw:zes)(zt:zdL)(zh:zcH)(L:Nat)(z A:List V)(k:KK β):zj za2 (za6 zw zt zh L) L cf_ref03_Compress [(V.agg z),(V.agg A)] [] k=ziE zw zt zh L z A (fun z=>k (V.agg z) []):=by
 refine (zA3 zw zt zh L z A k).trans ?_
 unfold ziE
 first
  | (simp only [zkl,zr5]; done)
  | (simp only [zkl]; rfl)
abbrev zep:=∀ (β:Type),Nat→List V→List V→(List V→Ob β)→Ob β
def ym:zep:=fun β=>@ziE β zw zt zh
def znU(ym:zep)(L:Nat):Dk:=dA AG fun z=>dA AG fun A=>d0 fun β k=>ym β L z A (fun z=>k (V.agg z) [])
theorem zBk(L:Nat):DK (znU ym L) (fun _=>zj za2 (za6 zw zt zh L) L cf_ref03_Compress):=xo zbR fun z=>xo zbR fun A=>zK fun _ k=>zBd zw zt zh L z A k
def zyX:Hint:=⟨[(1,7)],[],[none,some ((bl 60 66),(bl 73786976290004270911 66)),none,some ((bl 20 66),(bl 73786976290004270879 66)),none,none,some ((bl 25769803908 66),(bl 73786976294838205615 66)),none,some ((bl 132 66),(bl 73786976294838205615 66)),none,none],[],[],false,false,[]⟩
def cf_ref03_Sum:CF:=cfD zyX 94
def ziH:CC:=yy [1,1,1,1,1,0,1,0,0] cf_ref03_Sum.body
def zlv:CC:=yy [1,1,1,0,1,0,0] cf_ref03_Sum.body
def zs9:CC:=yy [1,1,1,1,1,1] cf_ref03_Sum.body
def zpW:CC:=yy [1,1,1,1] cf_ref03_Sum.body
def zaA:Nat→Sh:=xC [(37,(.int .u32))]
def zaB(zC:zjt)(zq:ze2)(ym:zep)(L:Nat):CBC:=(xp 533 (znU ym L) (xp 532 (zoQ zq L) (xp 531 (zxs zC L) noC)))
def zmt:St→St:=zM 0 (bl 60 66) (bl 73786976290004270911 66)
def zjV:St→St:=zM 0 (bl 25769803908 66) (bl 73786976294838205615 66)
def zfu(z:Ls)(A:Int)(C D:List V):St:=⟨(jn 2 ((V.ptr 2 0)::((V.gs 1 z)::((V.ptr 4 0)::((Qe A)::(jn 60 [])))))),(gn 2 ((.live true C)::(gn 1 ((.live true D)::(gn 61 [])))))⟩
def zkm(z A:List V):St:=⟨(jn 2 ((V.ptr 2 0)::(jn 1 ((V.ptr 4 0)::(jn 61 []))))),(gn 2 ((.live true z)::(gn 1 ((.live true A)::(gn 61 [])))))⟩
def zeF(z:List V)(A:Int)(C D:List V):St:=⟨(jn 2 ((V.ptr 2 0)::(jn 4 ((V.ptr 7 0)::(jn 25 ((V.agg z)::((Qe A)::(jn 31 [])))))))),(gn 2 ((.live true C)::(gn 4 ((.live true D)::(gn 58 [])))))⟩
def zoX(z A:List V):St:=⟨(jn 2 ((V.ptr 2 0)::(jn 4 ((V.ptr 7 0)::(jn 58 []))))),(gn 2 ((.live true z)::(gn 4 ((.live true A)::(gn 58 [])))))⟩
section
variable {β:Type} (zC:zjt) (zq:ze2) (ym:zep)
def zw2(L:Nat)(A:Ls)(z:Ls→Int→List V→List V→Ob β):Ob β:=chk ((XK ([]:Ls)+XK A)*1≤xf∧XK ([]:Ls)+XK A≤xf) (lt (([]:Ls)++A) fun C=>lt (QG .u64 ((XK A:Nat):Int)) fun F=>zC β L F (fun D=>chk ((XK C+XK D)*1≤xf∧XK C+XK D≤xf) (lt (C++D) fun G=>zq β L  (fun E=>chk ((XK E)=8∧0+8≤8) (lt (yd [(Qc (0:Int)),(Qc (0:Int)),(Qc (0:Int)),(Qc (0:Int)),(Qc (0:Int)),(Qc (0:Int)),(Qc (0:Int)),(Qc (0:Int))] 0 E) fun H=>z G (0:Int) (We 32 (Qa (0:Int))) H)))))
theorem zI3(L:Nat)(z:Ls)(k:KK β):zj zaA (zaB zC zq ym L) L cf_ref03_Sum [(V.sl 1 z)] [] k=zw2 zC zq L z (fun A C D E=>yt (xd zaA (zaB zC zq ym L) 0 L zlv) zmt L (zfu A C D E) (zi 0 (yr (xd zaA (zaB zC zq ym L) 0 L zpW) (zy 0 (CF.res cf_ref03_Sum) k)))):=by kernel_rfl
def zfq(L:Nat)(C:Ls)(z:Int)(F D:List V)(A:Ls→Int→List V→List V→Ob β)(E:List V→List V→Ob β):Ob β:=lt (QG .i64 ((z:Int)+(64:Int))) fun J=>ifb (decide (J≤((XK C:Nat):Int))) (chk (0≤z∧z≤(((XK C):Nat):Int)) (lt (yd (We 64 (Qa (0:Int))) 0 (XP (XM (min (XK (XM ((XK C)-(XL z)) (XN (XL z) C))) 64) (XM ((XK C)-(XL z)) (XN (XL z) C))))) fun G=>chk (0+8≤(XK D)) (chk (0+64≤(XK G)) (ym β L (XM 8 D) (XM 64 G) (fun H=>chk ((XK H)=8∧0+8≤(XK D)) (lt (yd D 0 H) fun M=>lt (QG .i64 ((z:Int)+(64:Int))) fun I=>A C I F M)))))) (E F D)
theorem zzy(L:Nat)(C:Ls)(D:Int)(z A:List V)(X:St→Ob β)(K:KT β):xd zaA (zaB zC zq ym L) 0 L zlv (zfu C D z A) (zI zmt X K)=zfq ym L C D z A (fun C D z A=>X (zfu C D z A)) (fun z A=>K (.exit 0) (zkm z A)):=by kernel_rfl
def zjK(L:Nat)(C A:List V)(z:List V→Int→List V→List V→Ob β):Ob β:=chk (0+8≤(XK A)) (z (XM 8 A) (0:Int) C (We 32 (Qa (0:Int))))
theorem zwv(L:Nat)(z A:List V)(k:KK β):(zi 0 (yr (xd zaA (zaB zC zq ym L) 0 L zpW) (zy 0 (CF.res cf_ref03_Sum) k))) (.exit 0) (zkm z A)=zjK L z A (fun C D z E=>yt (xd zaA (zaB zC zq ym L) 0 L ziH) zjV L (zeF C D z E) (zi 2 (yr (xd zaA (zaB zC zq ym L) 0 L zs9) (zy 0 (CF.res cf_ref03_Sum) k)))):=by kernel_rfl
def zd6(L:Nat)(H:List V)(z:Int)(P N:List V)(A:List V→Int→List V→List V→Ob β)(O:List V→List V→Ob β):Ob β:=ifb (decide (z<(8:Int))) (chk (0≤z∧z<((8:Nat):Int)) (cI .u32 H ((XL z)*1) fun C=>lt (QG .i64 (((4:Int):Int)*z)) fun D=>lt (QG .i64 (((4:Int):Int)*z)) fun Q=>lt (QG .i64 ((Q:Int)+(1:Int))) fun E=>lt (QG .i64 (((4:Int):Int)*z)) fun R=>lt (QG .i64 ((R:Int)+(2:Int))) fun F=>lt (QG .i64 (((4:Int):Int)*z)) fun S=>lt (QG .i64 ((S:Int)+(3:Int))) fun G=>lt (zb1 .u32 C (24:Int)) fun T=>lt (QG .u8 T) fun U=>lt (zb1 .u32 C (16:Int)) fun W=>lt (QG .u8 W) fun X=>lt (zb1 .u32 C (8:Int)) fun Y=>lt (QG .u8 Y) fun Z=>lt (QG .u8 C) fun aa=>chk (0≤D∧D<((32:Nat):Int)) (chk (1=1∧(0+((XL D)*1))+1≤(XK N)) (lt (yd N (0+((XL D)*1)) [(Qa U)]) fun I=>chk (0≤E∧E<((32:Nat):Int)) (chk (1=1∧(0+((XL E)*1))+1≤(XK I)) (lt (yd I (0+((XL E)*1)) [(Qa X)]) fun J=>chk (0≤F∧F<((32:Nat):Int)) (chk (1=1∧(0+((XL F)*1))+1≤(XK J)) (lt (yd J (0+((XL F)*1)) [(Qa Z)]) fun M=>chk (0≤G∧G<((32:Nat):Int)) (chk (1=1∧(0+((XL G)*1))+1≤(XK M)) (lt (yd M (0+((XL G)*1)) [(Qa aa)]) fun ab=>lt (QG .i64 ((z:Int)+(1:Int))) fun ac=>A H ac P ab)))))))))) (O P N)
theorem zwH(L:Nat)(z:List V)(A:Int)(C D:List V)(X:St→Ob β)(K:KT β):xd zaA (zaB zC zq ym L) 0 L ziH (zeF z A C D) (zI zjV X K)=zd6 L z A C D (fun z A C D=>X (zeF z A C D)) (fun C D=>K (.exit 2) (zoX C D)):=by kernel_rfl
def ziq(L:Nat)(D C:List V)(z:List V→Ob β):Ob β:=chk (0+32≤(XK C)) (chk ((XK (XM 32 C))=32∧0+32≤(XK D)) (lt (yd D 0 (XM 32 C)) fun A=>chk (0=0∧(XK A)=32∧32≠0) (z A)))
theorem zuI(L:Nat)(z A:List V)(k:KK β):(zi 2 (yr (xd zaA (zaB zC zq ym L) 0 L zs9) (zy 0 (CF.res cf_ref03_Sum) k))) (.exit 2) (zoX z A)=ziq L z A (fun C=>k (V.agg C) []):=by kernel_rfl
def zdH(L:Nat)(z:List V→List V→Ob β):Nat→Ls→Int→List V→List V→Ob β
 | 0,_,_,_,_=>none
 | n+1,A,C,D,E=>zfq ym L A C D E (fun A C D E=>zdH L z n A C D E) z
theorem zoN(L:Nat)(K:KT β):∀ (n:Nat) (C:Ls) (D:Int) (z A:List V),yt (xd zaA (zaB zC zq ym L) 0 L zlv) zmt n (zfu C D z A) K=zdH ym L (fun z A=>K (.exit 0) (zkm z A)) n C D z A:=by
 intro n; induction n <;> intros
 ·rfl
 ·exact (zzy ..).trans (by simp only [*]; rfl)
def zcx(L:Nat)(z:List V→List V→Ob β):Nat→List V→Int→List V→List V→Ob β
 | 0,_,_,_,_=>none
 | n+1,A,C,D,E=>zd6 L A C D E (fun A C D E=>zcx L z n A C D E) z
theorem znp(L:Nat)(K:KT β):∀ (n:Nat) (C:List V) (D:Int) (z A:List V),yt (xd zaA (zaB zC zq ym L) 0 L ziH) zjV n (zeF C D z A) K=zcx L (fun z A=>K (.exit 2) (zoX z A)) n C D z A:=by
 intro n; induction n <;> intros
 ·rfl
 ·exact (zwH ..).trans (by simp only [*]; rfl)
def zfw(L:Nat)(z F:List V)(A:List V→Ob β):Ob β:=zjK L z F (fun D E z C=>zcx L (fun z C=>ziq L z C A) L D E z C)
theorem zvA(L:Nat)(z A:List V)(k:KK β):(zi 0 (yr (xd zaA (zaB zC zq ym L) 0 L zpW) (zy 0 (CF.res cf_ref03_Sum) k))) (.exit 0) (zkm z A)=zfw L z A (fun C=>k (V.agg C) []):=by
 refine (zwv ..).trans ?_
 unfold zfw
 first
  | (simp only [znp,zuI]; done)
  | (simp only [znp]; rfl)
end
def zry{β:Type}(zC:zjt)(zq:ze2)(ym:zep)(L:Nat)(D:Ls)(z:List V→Ob β):Ob β:=zw2 zC zq L D (fun E F A C=>zdH ym L (fun A C=>zfw L A C z) L E F A C)
theorem zJN{β:Type}(zC:zjt)(zq:ze2)(ym:zep)(L:Nat)(z:Ls)(k:KK β):zj zaA (zaB zC zq ym L) L cf_ref03_Sum [(V.sl 1 z)] [] k=zry zC zq ym L z (fun z=>k (V.agg z) []):=by
 refine (zI3 zC zq ym L z k).trans ?_
 unfold zry
 first
  | (simp only [zoN,zvA]; done)
  | (simp only [zoN]; rfl)
abbrev zm9:=∀ (β:Type),Nat→Ls→(List V→Ob β)→Ob β
def zW:zm9:=fun β=>@zry β zC zq ym
def zrt(zW:zm9)(L:Nat):Dk:=dA (AL 1) fun z=>d0 fun β k=>zW β L z (fun z=>k (V.agg z) [])
theorem zJF(L:Nat):DK (zrt zW L) (fun _=>zj zaA (zaB zC zq ym L) L cf_ref03_Sum):=xo zaV fun z=>zK fun _ k=>zJN zC zq ym L z k
def ztn:Hint:=⟨[],[],[none],[],[],false,false,[]⟩
def zv5:CF:=cfD ztn 54
def zpC:Nat→Sh:=xC []
def zoO(zW:zm9)(L:Nat):CBC:=(xp 494 (zrt zW L) noC)
def zqI{β:Type}(zW:zm9)(L:Nat)(H:Ls)(z:List V→Ob β):Ob β:=zW β L H (fun C=>chk ((XK C)=32∧0+32≤32) (lt (yd (We 32 (Qa (0:Int))) 0 C) fun A=>chk (0+32*1≤(XK A)) (ifb (List.isEmpty A) (zW β L (zf 1 32 A) (fun D=>chk ((XK D)=32∧0+32≤32) (lt (yd (We 32 (Qa (0:Int))) 0 D) fun E=>chk (0=0∧(XK E)=32∧32≠0) (z E)))) (zW β L (zf 1 32 A) (fun F=>chk ((XK F)=32∧0+32≤32) (lt (yd (We 32 (Qa (0:Int))) 0 F) fun G=>chk (0=0∧(XK G)=32∧32≠0) (z G)))))))
theorem zEK{β:Type}(zW:zm9)(L:Nat)(z:Ls)(k:KK β):zj zpC (zoO zW L) L zv5 [(V.sl 1 z)] [] k=zqI zW L z (fun z=>k (V.agg z) []):=by kernel_rfl
abbrev zy0:=∀ (β:Type),Nat→Ls→(List V→Ob β)→Ob β
def zc5:zy0:=fun β=>@zqI β zW
def zqZ(zc5:zy0)(L:Nat):Dk:=dA (AL 1) fun z=>d0 fun β k=>zc5 β L z (fun z=>k (V.agg z) [])
theorem zE0(L:Nat):DK (zqZ zc5 L) (fun _=>zj zpC (zoO zW L) L zv5):=xo zaV fun z=>zK fun _ k=>zEK zW L z k
def zCh:Hint:=⟨[(0,0),(2,5),(7,10),(9,0),(9,1)],[(2,4)],[none,some ((bl 262161 33),(bl 6979321823 33)),none,some ((bl 16 33),(bl 6979321823 33)),none,none],[],[(7,0,[0])],false,false,[]⟩
def cf_sha_Pad:CF:=cfD zCh 155
def zfi:CC:=yy [1,1,1,1,0,1,0,0] cf_sha_Pad.body
def zq5:CC:=yy [1,1,1,1,1] cf_sha_Pad.body
def zcP:Nat→Sh:=xC []
def zcQ(L:Nat):CBC:=noC
def zgd:St→St:=zM 0 (bl 262161 33) (bl 6979321823 33)
def zjx(D:Int)(z:Nat)(A:Int)(C:List V):St:=⟨((Qd D)::(jn 3 ((V.own 15 0 z 1)::(jn 13 ((Qe A)::(jn 14 [])))))),(gn 15 ((.live true C)::(gn 17 [])))⟩
def ze0(C:Int)(D:Ls)(z:Int)(A:Nat):St:=⟨((Qd C)::(jn 3 ((V.gs 1 D)::(jn 13 ((Qe z)::(jn 14 [])))))),(gn 15 ((.dead A)::(gn 17 [])))⟩
def zsA(z:Nat)(A:List V):St:=⟨(jn 4 ((V.own 15 0 z 1)::(jn 28 []))),(gn 15 ((.live true A)::(gn 17 [])))⟩
def zkp(A:Ls)(z:Nat):St:=⟨(jn 4 ((V.gs 1 A)::(jn 28 []))),(gn 15 ((.dead z)::(gn 17 [])))⟩
section
variable {β:Type}
def zBN(L:Nat)(D:Int)(z:Int→Nat→Int→List V→Ob β):Ob β:=lt (QG .u64 ((D:Int)+(9:Int))) fun F=>lt (XQ F (64:Int)) fun G=>lt (QG .u64 (((64:Int):Int)-G)) fun H=>lt (XQ H (64:Int)) fun E=>lt (QG .u64 (((1:Int):Int)+E)) fun C=>lt (QG .u64 (((9:Int):Int)+E)) fun A=>chk (0≤C∧C≤A∧(XL A)*1≤xf∧A≤xf) (chk (0≤(0:Int)∧(0:Int)<(((XL C):Nat):Int)) (chk (1=1∧0+1≤(XK (XP (We (XL A) [(Qa (0:Int))])))) (lt (yd (XP (We (XL A) [(Qa (0:Int))])) 0 [(Qa (128:Int))]) fun I=>z D (XL C) (0:Int) I)))
theorem zNR(L:Nat)(z:Int)(k:KK β):zj zcP (zcQ L) L cf_sha_Pad [(Qd z)] [] k=zBN L z (fun z A C D=>yt (xd zcP (zcQ L) 0 L zfi) zgd L (zjx z A C D) (zi 0 (yr (xd zcP (zcQ L) 0 L zq5) (zy 0 (CF.res cf_sha_Pad) k)))):=by kernel_rfl
def ziT(L:Nat)(G:Int)(C:Nat)(D:Int)(z:List V)(A:Int→Ls→Int→Nat→Ob β)(F:Nat→List V→Ob β):Ob β:=ifb (decide (D<(8:Int))) (chk (0=0∧C*1≤(XK z)∧(XK z)≠0) (lt (QG .u64 (((8:Int):Int)*G)) fun N=>lt (QG .i64 (((8:Int):Int)*D)) fun O=>lt (QG .i64 (((56:Int):Int)-O)) fun H=>chk (0≤H) (lt (zb1 .u64 N H) fun I=>lt (QG .u8 I) fun E=>chk ((XK (zf 1 C z)+XK (zf 1 1 [(Qa E)]))*1≤xf∧XK (zf 1 C z)+XK (zf 1 1 [(Qa E)])≤xf) (lt ((zf 1 C z)++(zf 1 1 [(Qa E)])) fun J=>lt (QG .i64 ((D:Int)+(1:Int))) fun M=>A G J M (XK z))))) (F C z)
theorem zBb(L:Nat)(D:Int)(A:Nat)(C:Int)(z:List V)(X:St→Ob β)(K:KT β):xd zcP (zcQ L) 0 L zfi (zjx D A C z) (zI zgd X K)=ziT L D A C z (fun D E C z=>X (ze0 D E C z)) (fun A z=>K (.exit 0) (zsA A z)):=by kernel_rfl
def zkF(L:Nat)(A:Nat)(C:List V)(z:Ls→Ob β):Ob β:=chk (A≠0∨(XK C)=0) (z (zf 1 A C))
theorem zyw(L:Nat)(z:Nat)(A:List V)(k:KK β):(zi 0 (yr (xd zcP (zcQ L) 0 L zq5) (zy 0 (CF.res cf_sha_Pad) k))) (.exit 0) (zsA z A)=zkF L z A (fun C=>k (V.fr 1 C) []):=by kernel_rfl
def zeU(L:Nat)(H:Int)(E:Ls)(A:Int)(F:Nat)(z:Int→Ls→Int→Nat→Ob β)(C:Ls→Nat→Ob β):Ob β:=ifb (decide (A<(8:Int))) (lt (QG .u64 (((8:Int):Int)*H)) fun I=>lt (QG .i64 (((8:Int):Int)*A)) fun J=>lt (QG .i64 (((56:Int):Int)-J)) fun G=>chk (0≤G) (lt (zb1 .u64 I G) fun M=>lt (QG .u8 M) fun D=>chk ((XK E+XK (zf 1 1 [(Qa D)]))*1≤xf∧XK E+XK (zf 1 1 [(Qa D)])≤xf) (lt (E++(zf 1 1 [(Qa D)])) fun N=>lt (QG .i64 ((A:Int)+(1:Int))) fun O=>z H N O F))) (C E F)
theorem zy7(L:Nat)(D:Int)(C:Ls)(A:Int)(z:Nat)(X:St→Ob β)(K:KT β):xd zcP (zcQ L) 0 L zfi (ze0 D C A z) (zI zgd X K)=zeU L D C A z (fun D C A z=>X (ze0 D C A z)) (fun C z=>K (.exit 0) (zkp C z)):=by kernel_rfl
def zex(L:Nat)(A:Ls)(C:Nat)(z:Ls→Ob β):Ob β:=z A
theorem ztO(L:Nat)(A:Ls)(z:Nat)(k:KK β):(zi 0 (yr (xd zcP (zcQ L) 0 L zq5) (zy 0 (CF.res cf_sha_Pad) k))) (.exit 0) (zkp A z)=zex L A z (fun C=>k (V.gs 1 C) []):=by kernel_rfl
def zbY(L:Nat)(z:Ls→Nat→Ob β):Nat→Int→Ls→Int→Nat→Ob β
 | 0,_,_,_,_=>none
 | n+1,D,E,A,C=>zeU L D E A C (fun D E A C=>zbY L z n D E A C) z
theorem zxZ(L:Nat)(K:KT β):∀ (n:Nat) (D:Int) (A:Ls) (C:Int) (z:Nat),yt (xd zcP (zcQ L) 0 L zfi) zgd n (ze0 D A C z) K=zbY L (fun A z=>K (.exit 0) (zkp A z)) n D A C z:=by
 intro n; induction n <;> intros
 ·rfl
 ·exact (zy7 ..).trans (by simp only [*]; rfl)
def zuy(L:Nat)(D:Nat→List V→Ob β)(z:Ls→Nat→Ob β):Nat→Int→Nat→Int→List V→Ob β
 | 0,_,_,_,_=>none
 | n+1,E,F,A,C=>ziT L E F A C (fun E G A C=>zbY L z n E G A C) D
theorem zqx(L:Nat)(K:KT β):∀ (n:Nat) (D:Int) (A:Nat) (C:Int) (z:List V),yt (xd zcP (zcQ L) 0 L zfi) zgd n (zjx D A C z) K=zuy L (fun A z=>K (.exit 0) (zsA A z)) (fun E z=>K (.exit 0) (zkp E z)) n D A C z:=by
 intro n; induction n <;> intros
 ·rfl
 ·exact (zBb ..).trans (by simp only [zxZ]; rfl)
end
def zvS{β:Type}(L:Nat)(E:Int)(D:Ls→Ob β)(A:Ls→Ob β):Ob β:=zBN L E (fun E C F z=>zuy L (fun C z=>zkF L C z D) (fun G z=>zex L G z A) L E C F z)
theorem zMY{β:Type}(L:Nat)(z:Int)(k:KK β):zj zcP (zcQ L) L cf_sha_Pad [(Qd z)] [] k=zvS L z (fun z=>k (V.fr 1 z) []) (fun z=>k (V.gs 1 z) []):=by
 refine (zNR L z k).trans ?_
 unfold zvS
 first
  | (simp only [zqx,zyw,ztO]; done)
  | (simp only [zqx]; rfl)
abbrev zou:=∀ (β:Type),Nat→Int→(Ls→Ob β)→(Ls→Ob β)→Ob β
def yL:zou:=fun β=>@zvS β
def zCn(yL:zou)(L:Nat):Dk:=dA (AI .u64) fun z=>d0 fun β k=>yL β L z (fun z=>k (V.fr 1 z) []) (fun z=>k (V.gs 1 z) [])
theorem zMV(L:Nat):DK (zCn yL L) (fun _=>zj zcP (zcQ L) L cf_sha_Pad):=xo z8 fun z=>zK fun _ k=>zMY L z k
def zBL:Hint:=⟨[(0,0),(1,0),(5,0),(5,3),(7,0),(7,1)],[],[none,some ((bl 456 17),(bl 114655 17)),none,some ((bl 8 17),(bl 114655 17)),none,none],[],[],false,false,[]⟩
def cf_sha_row:CF:=cfD zBL 154
def zpf:CC:=yy [1,1,0,1,0,0] cf_sha_row.body
def zCk:CC:=yy [1,1,1] cf_sha_row.body
def zfL:Nat→Sh:=xC [(11,(.sl 1))]
def zfv(L:Nat):CBC:=noC
def zqG:St→St:=zM 0 (bl 456 17) (bl 114655 17)
def zhM(z A:Ls)(C D:Int):St:=⟨(jn 3 ((V.gs 1 z)::(jn 2 ((V.sl 1 A)::((Qe C)::((Qe D)::(jn 8 []))))))),(gn 17 [])⟩
def zsL(z:Ls):St:=⟨(jn 3 ((V.gs 1 z)::(jn 13 []))),(gn 17 [])⟩
section
variable {β:Type}
def zDC(L:Nat)(A:Ls)(z:Ls→Ls→Int→Int→Ob β):Ob β:=z ([]:Ls) A ((XK A:Nat):Int) (0:Int)
theorem zND(L:Nat)(z:Ls)(k:KK β):zj zfL (zfv L) L cf_sha_row [(V.sl 1 z)] [] k=zDC L z (fun A C D E=>yt (xd zfL (zfv L) 0 L zpf) zqG L (zhM A C D E) (zi 0 (yr (xd zfL (zfv L) 0 L zCk) (zy 0 (CF.res cf_sha_row) k)))):=by kernel_rfl
def zc2(L:Nat)(A F:Ls)(G C:Int)(z:Ls→Ls→Int→Int→Ob β)(D:Ls→Ob β):Ob β:=ifb (decide (C<G)) (idx F C fun H=>cL 1 H 0 fun E=>chk ((XK A+XK E)*1≤xf∧XK A+XK E≤xf) (lt (A++E) fun I=>lt (QG .i64 ((C:Int)+(1:Int))) fun J=>z I F G J)) (D A)
theorem zEf(L:Nat)(z A:Ls)(C D:Int)(X:St→Ob β)(K:KT β):xd zfL (zfv L) 0 L zpf (zhM z A C D) (zI zqG X K)=zc2 L z A C D (fun z A C D=>X (zhM z A C D)) (fun z=>K (.exit 0) (zsL z)):=by kernel_rfl
def zeg(L:Nat)(A:Ls)(z:Ls→Ob β):Ob β:=z A
theorem zBv(L:Nat)(z:Ls)(k:KK β):(zi 0 (yr (xd zfL (zfv L) 0 L zCk) (zy 0 (CF.res cf_sha_row) k))) (.exit 0) (zsL z)=zeg L z (fun A=>k (V.gs 1 A) []):=by kernel_rfl
def zf4(L:Nat)(z:Ls→Ob β):Nat→Ls→Ls→Int→Int→Ob β
 | 0,_,_,_,_=>none
 | n+1,A,C,D,E=>zc2 L A C D E (fun A C D E=>zf4 L z n A C D E) z
theorem ztw(L:Nat)(K:KT β):∀ (n:Nat) (z A:Ls) (C D:Int),yt (xd zfL (zfv L) 0 L zpf) zqG n (zhM z A C D) K=zf4 L (fun z=>K (.exit 0) (zsL z)) n z A C D:=by
 intro n; induction n <;> intros
 ·rfl
 ·exact (zEf ..).trans (by simp only [*]; rfl)
end
def zvZ{β:Type}(L:Nat)(C:Ls)(z:Ls→Ob β):Ob β:=zDC L C (fun A D E F=>zf4 L (fun A=>zeg L A z) L A D E F)
theorem zNB{β:Type}(L:Nat)(z:Ls)(k:KK β):zj zfL (zfv L) L cf_sha_row [(V.sl 1 z)] [] k=zvZ L z (fun z=>k (V.gs 1 z) []):=by
 refine (zND L z k).trans ?_
 unfold zvZ
 first
  | (simp only [ztw,zBv]; done)
  | (simp only [ztw]; rfl)
abbrev zom:=∀ (β:Type),Nat→Ls→(Ls→Ob β)→Ob β
def xJ:zom:=fun β=>@zvZ β
def zBE(xJ:zom)(L:Nat):Dk:=dA (AL 1) fun z=>d0 fun β k=>xJ β L z (fun z=>k (V.gs 1 z) [])
theorem zOb(L:Nat):DK (zBE xJ L) (fun _=>zj zfL (zfv L) L cf_sha_row):=xo zaV fun z=>zK fun _ k=>zNB L z k
def zAR:Hint:=⟨[],[],[none],[],[],false,false,[]⟩
def zFa:CF:=cfD zAR 180
def zw5:Nat→Sh:=xC []
def zxm(yj:zae)(L:Nat):CBC:=(xp 572 (zdx yj L) noC)
def zzA{β:Type}(yj:zae)(L:Nat)(A C:Int)(z:Int→Ob β):Ob β:=lt (QG .i64 (0-C)) fun D=>yj β L A D (fun E=>z E)
theorem zL8{β:Type}(yj:zae)(L:Nat)(z A:Int)(k:KK β):zj zw5 (zxm yj L) L zFa [(Qc z),(Qe A)] [] k=zzA yj L z A (fun z=>k (Qc z) []):=by kernel_rfl
abbrev zeA:=∀ (β:Type),Nat→Int→Int→(Int→Ob β)→Ob β
def xh:zeA:=fun β=>@zzA β yj
def ztG(xh:zeA)(L:Nat):Dk:=dA (AI .u32) fun z=>dA (AI .i64) fun A=>d0 fun β k=>xh β L z A (fun z=>k (Qc z) [])
theorem zLJ(L:Nat):DK (ztG xh L) (fun _=>zj zw5 (zxm yj L) L zFa):=xo z8 fun z=>xo z8 fun A=>zK fun _ k=>zL8 yj L z A k
def ztj:Hint:=⟨[],[],[none,some ((bl 526 85),(bl 38685626227668133590597583 85)),none,some ((bl 12 85),(bl 38685626227668133590597581 85)),none,none,some ((bl 4638 85),(bl 38685626227668133590597599 85)),none,some ((bl 526 85),(bl 38685626227668133590597599 85)),none,none,some ((bl 76 85),(bl 38685623849749388397117053 85)),none,some ((bl 12 85),(bl 38685623849749388397116989 85)),none,none],[],[],false,false,[]⟩
def cf_sha_schedule:CF:=cfD ztj 179
def zet:CC:=yy [1,1,0,1,0,0,1,1,0,0,1,1,0,0] cf_sha_schedule.body
def zl9:CC:=yy [1,1,0,1,0,0,1,1,1] cf_sha_schedule.body
def zit:CC:=yy [1,1,1,0,1,0,0] cf_sha_schedule.body
def zfG:CC:=yy [1,1,0,1,0,0] cf_sha_schedule.body
def zso:CC:=yy [1,1,1,1] cf_sha_schedule.body
def zmH:CC:=yy [1,1,1] cf_sha_schedule.body
def zH:Nat→Sh:=xC [(18,(.int .u32)),(25,(.int .u8)),(38,(.int .u32)),(43,(.int .u32)),(49,(.int .u32)),(55,(.int .u32)),(60,(.int .u32)),(66,(.int .u32)),(73,(.int .u32)),(79,(.int .u32))]
def yH(xh:zeA)(L:Nat):CBC:=(xp 535 (ztG xh L) noC)
def zcD:St→St:=zM 0 (bl 526 85) (bl 38685626227668133590597583 85)
def zeZ:St→St:=zM 0 (bl 4638 85) (bl 38685626227668133590597599 85)
def zi8:St→St:=zM 0 (bl 76 85) (bl 38685623849749388397117053 85)
def zby(z:Int)(A C D:List V):St:=⟨(jn 1 ((V.ptr 1 0)::((V.ptr 2 0)::((V.ptr 3 0)::(jn 5 ((Qe z)::(jn 75 []))))))),(gn 1 ((.live true A)::((.live true C)::((.live true D)::(gn 81 [])))))⟩
def zbQ(A C z:Int)(D E F:List V):St:=⟨(jn 1 ((V.ptr 1 0)::((V.ptr 2 0)::((V.ptr 3 0)::((Qe A)::(jn 4 ((Qe C)::(jn 2 ((Qe z)::(jn 72 [])))))))))),(gn 1 ((.live true D)::((.live true E)::((.live true F)::(gn 81 [])))))⟩
def zeJ(z A:List V):St:=⟨(jn 2 ((V.ptr 2 0)::((V.ptr 3 0)::(jn 81 [])))),(gn 2 ((.live true z)::((.live true A)::(gn 81 []))))⟩
def zd1(z:Int)(A C:List V):St:=⟨(jn 2 ((V.ptr 2 0)::((V.ptr 3 0)::(jn 2 ((Qe z)::(jn 78 [])))))),(gn 2 ((.live true A)::((.live true C)::(gn 81 []))))⟩
def zld(z:Int)(A C D:List V):St:=⟨(jn 1 ((V.ptr 1 0)::((V.ptr 2 0)::((V.ptr 3 0)::(jn 5 ((Qe z)::(jn 75 []))))))),(gn 1 ((.live true A)::((.live true C)::((.live true D)::(gn 81 [])))))⟩
def zk6(z A:List V):St:=⟨(jn 2 ((V.ptr 2 0)::((V.ptr 3 0)::(jn 81 [])))),(gn 2 ((.live true z)::((.live true A)::(gn 81 []))))⟩
section
variable {β:Type} (xh:zeA)
def zra(L:Nat)(A:List V)(z:Int→List V→List V→List V→Ob β):Ob β:=z (0:Int) A (We 64 (Qc (0:Int))) (We 64 (Qc (0:Int)))
theorem zEU(L:Nat)(z:List V)(k:KK β):zj zH (yH xh L) L cf_sha_schedule [(V.agg z)] [] k=zra L z (fun A C D E=>yt (xd zH (yH xh L) 0 L zfG) zcD L (zby A C D E) (zi 0 (yr (xd zH (yH xh L) 0 L zmH) (zy 0 (CF.res cf_sha_schedule) k)))):=by kernel_rfl
def zgC(L:Nat)(A:Int)(F D E:List V)(z:Int→Int→Int→List V→List V→List V→Ob β)(C:List V→List V→Ob β):Ob β:=ifb (decide (A<(16:Int))) (z A A (0:Int) F D E) (C D E)
theorem zwA(L:Nat)(C:Int)(D z A:List V)(X:St→Ob β)(K:KT β):xd zH (yH xh L) 0 L zfG (zby C D z A) (zI zcD X K)=zgC L C D z A (fun F C E D z A=>yt (xd zH (yH xh L) 0 L zet) zeZ L (zbQ F C E D z A) (zi 2 (zi 1 (yr (xd zH (yH xh L) 0 L zl9) (zI zcD X K))))) (fun z A=>K (.exit 0) (zeJ z A)):=by kernel_rfl
def zin(L:Nat)(A C:List V)(z:Int→List V→List V→Ob β):Ob β:=z (16:Int) A C
theorem zuE(L:Nat)(z A:List V)(k:KK β):(zi 0 (yr (xd zH (yH xh L) 0 L zmH) (zy 0 (CF.res cf_sha_schedule) k))) (.exit 0) (zeJ z A)=zin L z A (fun C z A=>yt (xd zH (yH xh L) 0 L zit) zi8 L (zd1 C z A) (zi 4 (yr (xd zH (yH xh L) 0 L zso) (zy 0 (CF.res cf_sha_schedule) k)))):=by kernel_rfl
def zad(L:Nat)(A H C:Int)(E I D:List V)(z:Int→Int→Int→List V→List V→List V→Ob β)(F:Int→List V→List V→List V→Ob β):Ob β:=ifb (decide (C<(4:Int))) (chk (0≤A∧A<((64:Nat):Int)) (cI .u32 D (0+((XL A)*1)) fun J=>lt (zde .u32 J (8:Int)) fun M=>lt (QG .i64 (((4:Int):Int)*A)) fun N=>lt (QG .i64 ((N:Int)+C)) fun G=>chk (0≤G∧G<((64:Nat):Int)) (cI .u8 E (0+((XL G)*1)) fun O=>lt (QG .u32 O) fun P=>lt (ior .u32 M P) fun Q=>chk (0≤A∧A<((64:Nat):Int)) (chk (1=1∧(0+((XL A)*1))+1≤(XK D)) (lt (yd D (0+((XL A)*1)) [(Qc Q)]) fun R=>lt (QG .i64 ((C:Int)+(1:Int))) fun S=>z A H S E I R))))) (F H E I D)
theorem zpU(L:Nat)(F A z:Int)(C D E:List V)(X:St→Ob β)(K:KT β):xd zH (yH xh L) 0 L zet (zbQ F A z C D E) (zI zeZ X K)=zad L F A z C D E (fun F A z C D E=>X (zbQ F A z C D E)) (fun A C D E=>K (.exit 2) (zld A C D E)):=by kernel_rfl
def zch(L:Nat)(z:Int)(O A:List V)(C:Int→List V→List V→Ob β)(M:List V→List V→Ob β):Ob β:=ifb (decide (z<(64:Int))) (lt (QG .i64 ((z:Int)-(15:Int))) fun N=>chk (0≤N∧N<((64:Nat):Int)) (cI .u32 A (0+((XL N)*1)) fun P=>xh β L P (7:Int) (fun Q=>lt (QG .i64 ((z:Int)-(15:Int))) fun D=>chk (0≤D∧D<((64:Nat):Int)) (cI .u32 A (0+((XL D)*1)) fun R=>xh β L R (18:Int) (fun S=>lt (zb3 .u32 Q S) fun T=>lt (QG .i64 ((z:Int)-(15:Int))) fun E=>chk (0≤E∧E<((64:Nat):Int)) (cI .u32 A (0+((XL E)*1)) fun U=>lt (zb1 .u32 U (3:Int)) fun W=>lt (zb3 .u32 T W) fun X=>lt (QG .i64 ((z:Int)-(2:Int))) fun F=>chk (0≤F∧F<((64:Nat):Int)) (cI .u32 A (0+((XL F)*1)) fun Y=>xh β L Y (17:Int) (fun Z=>lt (QG .i64 ((z:Int)-(2:Int))) fun G=>chk (0≤G∧G<((64:Nat):Int)) (cI .u32 A (0+((XL G)*1)) fun aa=>xh β L aa (19:Int) (fun ab=>lt (zb3 .u32 Z ab) fun ac=>lt (QG .i64 ((z:Int)-(2:Int))) fun H=>chk (0≤H∧H<((64:Nat):Int)) (cI .u32 A (0+((XL H)*1)) fun ad=>lt (zb1 .u32 ad (10:Int)) fun ae=>lt (zb3 .u32 ac ae) fun af=>lt (QG .i64 ((z:Int)-(16:Int))) fun I=>chk (0≤I∧I<((64:Nat):Int)) (cI .u32 A (0+((XL I)*1)) fun ag=>lt (QG .u32 ((ag:Int)+X)) fun ah=>lt (QG .i64 ((z:Int)-(7:Int))) fun J=>chk (0≤J∧J<((64:Nat):Int)) (cI .u32 A (0+((XL J)*1)) fun ai=>lt (QG .u32 ((ah:Int)+ai)) fun aj=>lt (QG .u32 ((aj:Int)+af)) fun ak=>chk (0≤z∧z<((64:Nat):Int)) (chk (1=1∧(0+((XL z)*1))+1≤(XK A)) (lt (yd A (0+((XL z)*1)) [(Qc ak)]) fun al=>lt (QG .i64 ((z:Int)+(1:Int))) fun am=>C am O al))))))))))))))) (M O A)
theorem zvn(L:Nat)(C:Int)(z A:List V)(X:St→Ob β)(K:KT β):xd zH (yH xh L) 0 L zit (zd1 C z A) (zI zi8 X K)=zch xh L C z A (fun C z A=>X (zd1 C z A)) (fun z A=>K (.exit 4) (zk6 z A)):=by kernel_rfl
def zdV(L:Nat)(C:Int)(D E F:List V)(z:Int→List V→List V→List V→Ob β):Ob β:=lt (QG .i64 ((C:Int)+(1:Int))) fun A=>z A D E F
theorem znM(L:Nat)(z:Int)(A C D:List V)(X:St→Ob β)(K:KT β):(zi 2 (zi 1 (yr (xd zH (yH xh L) 0 L zl9) (zI zcD X K)))) (.exit 2) (zld z A C D)=zdV L z A C D (fun z A C D=>X (zby z A C D)):=by kernel_rfl
def zhu(L:Nat)(D C:List V)(z:List V→Ob β):Ob β:=chk (0+64≤(XK C)) (chk ((XK (XM 64 C))=64∧0+64≤(XK D)) (lt (yd D 0 (XM 64 C)) fun A=>chk (0=0∧(XK A)=64∧64≠0) (z A)))
theorem ztT(L:Nat)(z A:List V)(k:KK β):(zi 4 (yr (xd zH (yH xh L) 0 L zso) (zy 0 (CF.res cf_sha_schedule) k))) (.exit 4) (zk6 z A)=zhu L z A (fun C=>k (V.agg C) []):=by kernel_rfl
def zR(L:Nat)(z:Int→List V→List V→List V→Ob β):Nat→Int→Int→Int→List V→List V→List V→Ob β
 | 0,_,_,_,_,_,_=>none
 | n+1,C,D,A,E,F,G=>zad L C D A E F G (fun C D A E F G=>zR L z n C D A E F G) z
theorem zgS(L:Nat)(K:KT β):∀ (n:Nat) (F z E:Int) (A C D:List V),yt (xd zH (yH xh L) 0 L zet) zeZ n (zbQ F z E A C D) K=zR L (fun z A C D=>K (.exit 2) (zld z A C D)) n F z E A C D:=by
 intro n; induction n <;> intros
 ·rfl
 ·exact (zpU ..).trans (by simp only [*]; rfl)
def zcc(L:Nat)(A:Int)(C D E:List V)(F:List V→List V→Ob β)(z:Int→List V→List V→List V→Ob β):Ob β:=zgC L A C D E (fun H A G C D E=>zR L (fun A C D E=>zdV L A C D E z) L H A G C D E) F
theorem zvo(L:Nat)(C:Int)(D z A:List V)(X:St→Ob β)(K:KT β):xd zH (yH xh L) 0 L zfG (zby C D z A) (zI zcD X K)=zcc L C D z A (fun z A=>K (.exit 0) (zeJ z A)) (fun C D z A=>X (zby C D z A)):=by
 refine (zwA ..).trans ?_
 unfold zcc
 first
  | (simp only [zgS,znM]; done)
  | (simp only [zgS]; rfl)
def zcA(L:Nat)(z:List V→List V→Ob β):Nat→Int→List V→List V→List V→Ob β
 | 0,_,_,_,_=>none
 | n+1,A,C,D,E=>zcc L A C D E z (fun A C D E=>zcA L z n A C D E)
theorem zm5(L:Nat)(K:KT β):∀ (n:Nat) (C:Int) (D z A:List V),yt (xd zH (yH xh L) 0 L zfG) zcD n (zby C D z A) K=zcA L (fun z A=>K (.exit 0) (zeJ z A)) n C D z A:=by
 intro n; induction n <;> intros
 ·rfl
 ·exact (zvo ..).trans (by simp only [*]; rfl)
def zce(L:Nat)(z:List V→List V→Ob β):Nat→Int→List V→List V→Ob β
 | 0,_,_,_=>none
 | n+1,A,C,D=>zch xh L A C D (fun A C D=>zce L z n A C D) z
theorem zl8(L:Nat)(K:KT β):∀ (n:Nat) (C:Int) (z A:List V),yt (xd zH (yH xh L) 0 L zit) zi8 n (zd1 C z A) K=zce xh L (fun z A=>K (.exit 4) (zk6 z A)) n C z A:=by
 intro n; induction n <;> intros
 ·rfl
 ·exact (zvn ..).trans (by simp only [*]; rfl)
def zeB(L:Nat)(z A:List V)(C:List V→Ob β):Ob β:=zin L z A (fun D z A=>zce xh L (fun z A=>zhu L z A C) L D z A)
theorem ztA(L:Nat)(z A:List V)(k:KK β):(zi 0 (yr (xd zH (yH xh L) 0 L zmH) (zy 0 (CF.res cf_sha_schedule) k))) (.exit 0) (zeJ z A)=zeB xh L z A (fun C=>k (V.agg C) []):=by
 refine (zuE ..).trans ?_
 unfold zeB
 first
  | (simp only [zl8,ztT]; done)
  | (simp only [zl8]; rfl)
end
def zlK{β:Type}(xh:zeA)(L:Nat)(D:List V)(z:List V→Ob β):Ob β:=zra L D (fun E F A C=>zcA L (fun A C=>zeB xh L A C z) L E F A C)
theorem zE2{β:Type}(xh:zeA)(L:Nat)(z:List V)(k:KK β):zj zH (yH xh L) L cf_sha_schedule [(V.agg z)] [] k=zlK xh L z (fun z=>k (V.agg z) []):=by
 refine (zEU xh L z k).trans ?_
 unfold zlK
 first
  | (simp only [zm5,ztA]; done)
  | (simp only [zm5]; rfl)
abbrev zf0:=∀ (β:Type),Nat→List V→(List V→Ob β)→Ob β
def yz:zf0:=fun β=>@zlK β xh
def zqz(yz:zf0)(L:Nat):Dk:=dA AG fun z=>d0 fun β k=>yz β L z (fun z=>k (V.agg z) [])
theorem zEG(L:Nat):DK (zqz yz L) (fun _=>zj zH (yH xh L) L cf_sha_schedule):=xo zbR fun z=>zK fun _ k=>zE2 xh L z k
def ztr:Hint:=⟨[],[],[none,some ((bl 34359754740 131),(bl 2722258935367507704976878695863201710071 131)),none,some ((bl 16340 131),(bl 2722258935367507704976878695863201710039 131)),none,none],[],[],false,false,[]⟩
def cf_sha_Compress:CF:=cfD ztr 156
def zhn:CC:=yy [1,1,1,1,0,1,0,0] cf_sha_Compress.body
def zqk:CC:=yy [1,1,1,1,1] cf_sha_Compress.body
def zbM:Nat→Sh:=xC [(20,(.int .u32)),(22,(.int .u32)),(24,(.int .u32)),(26,(.int .u32)),(28,(.int .u32)),(30,(.int .u32)),(32,(.int .u32)),(34,(.int .u32)),(59,(.int .u32)),(63,(.int .u32)),(99,(.int .u32)),(103,(.int .u32)),(107,(.int .u32)),(111,(.int .u32)),(115,(.int .u32)),(119,(.int .u32)),(123,(.int .u32)),(127,(.int .u32))]
def zbL(yz:zf0)(xh:zeA)(L:Nat):CBC:=(xp 535 (ztG xh L) (xp 534 (zqz yz L) noC))
def zim:St→St:=zM 0 (bl 34359754740 131) (bl 2722258935367507704976878695863201710071 131)
def zdk(P Q R S I J M N O:Int)(T:List V)(z A C D E F G H:Int)(U:List V):St:=⟨(jn 2 ((V.ptr 2 0)::(jn 1 ((V.ptr 4 0)::((V.ptr 5 0)::((Qc P)::((Qc Q)::((Qc R)::((Qc S)::((Qc I)::((Qc J)::((Qc M)::((Qc N)::(jn 21 ((Qe O)::(jn 95 [])))))))))))))))),(gn 2 ((.live true T)::(gn 1 ((.live true [(Qc z),(Qc A),(Qc C),(Qc D),(Qc E),(Qc F),(Qc G),(Qc H)])::((.live true U)::(gn 125 []))))))⟩
def zkI(O P Q R I J M N:Int)(S:List V)(z A C D E F G H:Int):St:=⟨(jn 2 ((V.ptr 2 0)::(jn 1 ((V.ptr 4 0)::(jn 1 ((Qc O)::((Qc P)::((Qc Q)::((Qc R)::((Qc I)::((Qc J)::((Qc M)::((Qc N)::(jn 117 [])))))))))))))),(gn 2 ((.live true S)::(gn 1 ((.live true [(Qc z),(Qc A),(Qc C),(Qc D),(Qc E),(Qc F),(Qc G),(Qc H)])::(gn 126 [])))))⟩
abbrev zhG(β:Type):Type:=Int→Int→Int→Int→Int→Int→Int→Int→Int→List V→Int→Int→Int→Int→Int→Int→Int→Int→List V→Ob β
abbrev zjb(β:Type):Type:=Int→Int→Int→Int→Int→Int→Int→Int→List V→Int→Int→Int→Int→Int→Int→Int→Int→Ob β
section
variable {β:Type} (yz:zf0) (xh:zeA)
def zq1(L:Nat)(z C:List V)(A:zhG β):Ob β:=chk (0+64≤(XK C)) (yz β L (XM 64 C) (fun D=>chk ((XK D)=64∧0+64≤64) (lt (yd (We 64 (Qc (0:Int))) 0 D) fun E=>cI .u32 z 0 fun F=>cI .u32 z 1 fun G=>cI .u32 z 2 fun H=>cI .u32 z 3 fun I=>cI .u32 z 4 fun J=>cI .u32 z 5 fun M=>cI .u32 z 6 fun N=>cI .u32 z 7 fun O=>A F G H I J M N O (0:Int) z (0:Int) (0:Int) (0:Int) (0:Int) (0:Int) (0:Int) (0:Int) (0:Int) E)))
theorem zEi(L:Nat)(I J:List V)(k:KK β):zj zbM (zbL yz xh L) L cf_sha_Compress [(V.agg I),(V.agg J)] [] k=zq1 yz L I J (fun R S T U M N O P Q W z A C D E F G H X=>yt (xd zbM (zbL yz xh L) 0 L zhn) zim L (zdk R S T U M N O P Q W z A C D E F G H X) (zi 0 (yr (xd zbM (zbL yz xh L) 0 L zqk) (zy 0 (CF.res cf_sha_Compress) k)))):=by kernel_rfl
def zcW(L:Nat)(D Q R W A E F S z:Int)(X:List V)(G H I J M N O P:Int)(Y:List V)(C:zhG β)(U:zjb β):Ob β:=ifb (decide (z<(64:Int))) (xh β L A (6:Int) (fun Z=>xh β L A (11:Int) (fun aa=>lt (zb3 .u32 Z aa) fun ab=>xh β L A (25:Int) (fun ac=>lt (zb3 .u32 ab ac) fun ad=>lt (QG .u32 ((S:Int)+ad)) fun ae=>lt (zee .u32 A E) fun af=>lt (zMO .u32 A) fun ag=>lt (zee .u32 ag F) fun ah=>lt (zb3 .u32 af ah) fun ai=>lt (QG .u32 ((ae:Int)+ai)) fun aj=>chk (0≤z∧z<((64:Nat):Int)) (cI .u32 (XN ((XL z)*1) gk_sha_k) 0 fun ak=>lt (QG .u32 ((aj:Int)+ak)) fun al=>chk (0≤z∧z<((64:Nat):Int)) (cI .u32 Y (0+((XL z)*1)) fun am=>lt (QG .u32 ((al:Int)+am)) fun T=>xh β L D (2:Int) (fun an=>xh β L D (13:Int) (fun ao=>lt (zb3 .u32 an ao) fun ap=>xh β L D (22:Int) (fun aq=>lt (zb3 .u32 ap aq) fun ar=>lt (zee .u32 D Q) fun au=>lt (zee .u32 D R) fun av=>lt (zb3 .u32 au av) fun aw=>lt (zee .u32 Q R) fun ax=>lt (zb3 .u32 aw ax) fun ay=>lt (QG .u32 ((ar:Int)+ay)) fun az=>lt (QG .u32 ((T:Int)+az)) fun aC=>lt (QG .u32 ((W:Int)+T)) fun aD=>lt (QG .i64 ((z:Int)+(1:Int))) fun aE=>C aC D Q R aD A E F aE X G H I J M N O P Y))))))))) (U D Q R W A E F S X G H I J M N O P)
theorem zvk(L:Nat)(P Q R S I J M N O:Int)(T:List V)(z A C D E F G H:Int)(U:List V)(X:St→Ob β)(K:KT β):xd zbM (zbL yz xh L) 0 L zhn (zdk P Q R S I J M N O T z A C D E F G H U) (zI zim X K)=zcW xh L P Q R S I J M N O T z A C D E F G H U (fun P Q R S I J M N O T z A C D E F G H U=>X (zdk P Q R S I J M N O T z A C D E F G H U)) (fun P Q R S I J M N T z A C D E F G H=>K (.exit 0) (zkI P Q R S I J M N T z A C D E F G H)):=by kernel_rfl
def zdY(L:Nat)(p6 p7 p8 p9 D E F G:Int)(z:List V)(ae af ag ah ai aj ak al:Int)(A:List V→Ob β):Ob β:=cI .u32 z 0 fun H=>lt (QG .u32 ((H:Int)+p6)) fun I=>cI .u32 z 1 fun J=>lt (QG .u32 ((J:Int)+p7)) fun M=>cI .u32 z 2 fun N=>lt (QG .u32 ((N:Int)+p8)) fun O=>cI .u32 z 3 fun P=>lt (QG .u32 ((P:Int)+p9)) fun Q=>cI .u32 z 4 fun R=>lt (QG .u32 ((R:Int)+D)) fun S=>cI .u32 z 5 fun T=>lt (QG .u32 ((T:Int)+E)) fun U=>cI .u32 z 6 fun W=>lt (QG .u32 ((W:Int)+F)) fun X=>cI .u32 z 7 fun Y=>lt (QG .u32 ((Y:Int)+G)) fun Z=>lt [(Qc I),(Qc M),(Qc O),(Qc Q),(Qc S),(Qc U),(Qc X),(Qc Z)] fun C=>chk (0=0∧(XK C)=8∧8≠0) (A C)
theorem zsW(L:Nat)(O P Q R I J M N:Int)(S:List V)(z A C D E F G H:Int)(k:KK β):(zi 0 (yr (xd zbM (zbL yz xh L) 0 L zqk) (zy 0 (CF.res cf_sha_Compress) k))) (.exit 0) (zkI O P Q R I J M N S z A C D E F G H)=zdY L O P Q R I J M N S z A C D E F G H (fun T=>k (V.agg T) []):=by kernel_rfl
def zbW(L:Nat)(I:zjb β):Nat→Int→Int→Int→Int→Int→Int→Int→Int→Int→List V→Int→Int→Int→Int→Int→Int→Int→Int→List V→Ob β
 | 0,_,_,_,_,_,_,_,_,_,_,_,_,_,_,_,_,_,_,_=>none
 | n+1,Q,R,S,T,J,M,N,O,P,U,z,A,C,D,E,F,G,H,W=>zcW xh L Q R S T J M N O P U z A C D E F G H W (fun Q R S T J M N O P U z A C D E F G H W=>zbW L I n Q R S T J M N O P U z A C D E F G H W) I
theorem zlw(L:Nat)(K:KT β):∀ (n:Nat) (O P Q R I J M N T:Int) (S:List V) (z A C D E F G H:Int) (U:List V),yt (xd zbM (zbL yz xh L) 0 L zhn) zim n (zdk O P Q R I J M N T S z A C D E F G H U) K=zbW xh L (fun O P Q R I J M N S z A C D E F G H=>K (.exit 0) (zkI O P Q R I J M N S z A C D E F G H)) n O P Q R I J M N T S z A C D E F G H U:=by
 intro n; induction n <;> intros
 ·rfl
 ·exact (zvk ..).trans (by simp only [*]; rfl)
end
def zlN{β:Type}(yz:zf0)(xh:zeA)(L:Nat)(W X:List V)(O:List V→Ob β):Ob β:=zq1 yz L W X (fun P Q R S I J M N U T z A C D E F G H Y=>zbW xh L (fun P Q R S I J M N T z A C D E F G H=>zdY L P Q R S I J M N T z A C D E F G H O) L P Q R S I J M N U T z A C D E F G H Y)
theorem zEl{β:Type}(yz:zf0)(xh:zeA)(L:Nat)(z A:List V)(k:KK β):zj zbM (zbL yz xh L) L cf_sha_Compress [(V.agg z),(V.agg A)] [] k=zlN yz xh L z A (fun z=>k (V.agg z) []):=by
 refine (zEi yz xh L z A k).trans ?_
 unfold zlN
 first
  | (simp only [zlw,zsW]; done)
  | (simp only [zlw]; rfl)
abbrev zf1:=∀ (β:Type),Nat→List V→List V→(List V→Ob β)→Ob β
def yp:zf1:=fun β=>@zlN β yz xh
def zqJ(yp:zf1)(L:Nat):Dk:=dA AG fun z=>dA AG fun A=>d0 fun β k=>yp β L z A (fun z=>k (V.agg z) [])
theorem zEn(L:Nat):DK (zqJ yp L) (fun _=>zj zbM (zbL yz xh L) L cf_sha_Compress):=xo zbR fun z=>xo zbR fun A=>zK fun _ k=>zEl yz xh L z A k
def zCF:Hint:=⟨[(1,7)],[],[none,some ((bl 786460 48),(bl 281474439839647 48)),none,some ((bl 20 48),(bl 281474439839647 48)),none,none,some ((bl 2147483732 48),(bl 281474976710527 48)),none,some ((bl 68 48),(bl 281474976710511 48)),none,none],[],[],false,false,[]⟩
def cf_sha_Sum:CF:=cfD zCF 104
def zkw:CC:=yy [1,1,1,1,1,0,1,0,0] cf_sha_Sum.body
def zn8:CC:=yy [1,1,1,0,1,0,0] cf_sha_Sum.body
def zwp:CC:=yy [1,1,1,1,1,1] cf_sha_Sum.body
def zs6:CC:=yy [1,1,1,1] cf_sha_Sum.body
def zbp:Nat→Sh:=xC [(38,(.int .u32))]
def zbr(yL:zou)(xJ:zom)(yp:zf1)(L:Nat):CBC:=(xp 498 (zqJ yp L) (xp 496 (zBE xJ L) (xp 497 (zCn yL L) noC)))
def zoK:St→St:=zM 0 (bl 786460 48) (bl 281474439839647 48)
def zmi:St→St:=zM 0 (bl 2147483732 48) (bl 281474976710527 48)
def zgZ(C:Ls)(z A:Int)(D E:List V):St:=⟨(jn 2 ((V.ptr 2 0)::((V.gs 1 C)::((V.ptr 4 0)::(jn 13 ((Qe z)::((Qe A)::(jn 28 [])))))))),(gn 2 ((.live true D)::(gn 1 ((.live true E)::(gn 43 [])))))⟩
def znw(z A:List V):St:=⟨(jn 2 ((V.ptr 2 0)::(jn 1 ((V.ptr 4 0)::(jn 43 []))))),(gn 2 ((.live true z)::(gn 1 ((.live true A)::(gn 43 [])))))⟩
def zfR(z:Int)(A C D:List V):St:=⟨(jn 2 ((V.ptr 2 0)::(jn 1 ((V.ptr 4 0)::(jn 1 ((V.ptr 6 0)::(jn 24 ((Qe z)::(jn 16 []))))))))),(gn 2 ((.live true A)::(gn 1 ((.live true C)::(gn 1 ((.live true D)::(gn 41 [])))))))⟩
def zsV(z A:List V):St:=⟨(jn 2 ((V.ptr 2 0)::(jn 3 ((V.ptr 6 0)::(jn 41 []))))),(gn 2 ((.live true z)::(gn 3 ((.live true A)::(gn 41 [])))))⟩
section
variable {β:Type} (yL:zou) (xJ:zom) (yp:zf1)
def zC3(L:Nat)(A:Ls)(z:Ls→Int→Int→List V→List V→Ob β):Ob β:=lt (QG .u64 ((XK A:Nat):Int)) fun E=>yL β L E (fun F=>xJ β L (zf 1 2 [(V.sl 1 A),(V.sl 1 F)]) (fun C=>chk ((XK (XM 8 gk_sha_initial))=8∧0+8≤8) (lt (yd [(Qc (0:Int)),(Qc (0:Int)),(Qc (0:Int)),(Qc (0:Int)),(Qc (0:Int)),(Qc (0:Int)),(Qc (0:Int)),(Qc (0:Int))] 0 (XM 8 gk_sha_initial)) fun G=>lt (QG .i64 (Int.tdiv ((XK C:Nat):Int) (64:Int))) fun H=>z C H (0:Int) (We 32 (Qa (0:Int))) G))) (fun I=>xJ β L (zf 1 2 [(V.sl 1 A),(V.sl 1 I)]) (fun D=>chk ((XK (XM 8 gk_sha_initial))=8∧0+8≤8) (lt (yd [(Qc (0:Int)),(Qc (0:Int)),(Qc (0:Int)),(Qc (0:Int)),(Qc (0:Int)),(Qc (0:Int)),(Qc (0:Int)),(Qc (0:Int))] 0 (XM 8 gk_sha_initial)) fun J=>lt (QG .i64 (Int.tdiv ((XK D:Nat):Int) (64:Int))) fun M=>z D M (0:Int) (We 32 (Qa (0:Int))) J)))
theorem zOj(L:Nat)(z:Ls)(k:KK β):zj zbp (zbr yL xJ yp L) L cf_sha_Sum [(V.sl 1 z)] [] k=zC3 yL xJ L z (fun D A C E F=>yt (xd zbp (zbr yL xJ yp L) 0 L zn8) zoK L (zgZ D A C E F) (zi 0 (yr (xd zbp (zbr yL xJ yp L) 0 L zs6) (zy 0 (CF.res cf_sha_Sum) k)))):=by kernel_rfl
def zg0(L:Nat)(A:Ls)(F D:Int)(I E:List V)(z:Ls→Int→Int→List V→List V→Ob β)(H:List V→List V→Ob β):Ob β:=ifb (decide (D<F)) (chk (0+8≤(XK E)) (lt (QG .i64 (((64:Int):Int)*D)) fun C=>chk (0≤C∧C≤(((XK A):Nat):Int)) (chk (64≤(XK (XM ((XK A)-(XL C)) (XN (XL C) A)))) (yp β L (XM 8 E) (XM 64 (XP (XM 64 (XM ((XK A)-(XL C)) (XN (XL C) A))))) (fun G=>chk ((XK G)=8∧0+8≤(XK E)) (lt (yd E 0 G) fun J=>lt (QG .i64 ((D:Int)+(1:Int))) fun M=>z A F M I J)))))) (H I E)
theorem zDd(L:Nat)(E:Ls)(z A:Int)(C D:List V)(X:St→Ob β)(K:KT β):xd zbp (zbr yL xJ yp L) 0 L zn8 (zgZ E z A C D) (zI zoK X K)=zg0 yp L E z A C D (fun E z A C D=>X (zgZ E z A C D)) (fun C D=>K (.exit 0) (znw C D)):=by kernel_rfl
def zms(L:Nat)(A C:List V)(z:Int→List V→List V→List V→Ob β):Ob β:=z (0:Int) A C (We 32 (Qa (0:Int)))
theorem zAm(L:Nat)(z A:List V)(k:KK β):(zi 0 (yr (xd zbp (zbr yL xJ yp L) 0 L zs6) (zy 0 (CF.res cf_sha_Sum) k))) (.exit 0) (znw z A)=zms L z A (fun C z A D=>yt (xd zbp (zbr yL xJ yp L) 0 L zkw) zmi L (zfR C z A D) (zi 2 (yr (xd zbp (zbr yL xJ yp L) 0 L zwp) (zy 0 (CF.res cf_sha_Sum) k)))):=by kernel_rfl
def zfk(L:Nat)(z:Int)(G H E:List V)(A:Int→List V→List V→List V→Ob β)(F:List V→List V→Ob β):Ob β:=ifb (decide (z<(32:Int))) (lt (QG .i64 (Int.tdiv z (4:Int))) fun C=>chk (0≤C∧C<((8:Nat):Int)) (cI .u32 H (0+((XL C)*1)) fun I=>lt (XQ z (4:Int)) fun J=>lt (QG .i64 ((J:Int)*(8:Int))) fun M=>lt (QG .i64 (((24:Int):Int)-M)) fun D=>chk (0≤D) (lt (zb1 .u32 I D) fun N=>lt (QG .u8 N) fun O=>chk (0≤z∧z<((32:Nat):Int)) (chk (1=1∧(0+((XL z)*1))+1≤(XK E)) (lt (yd E (0+((XL z)*1)) [(Qa O)]) fun P=>lt (QG .i64 ((z:Int)+(1:Int))) fun Q=>A Q G H P))))) (F G E)
theorem zzj(L:Nat)(z:Int)(A D C:List V)(X:St→Ob β)(K:KT β):xd zbp (zbr yL xJ yp L) 0 L zkw (zfR z A D C) (zI zmi X K)=zfk L z A D C (fun z A D C=>X (zfR z A D C)) (fun A C=>K (.exit 2) (zsV A C)):=by kernel_rfl
def zjT(L:Nat)(D C:List V)(z:List V→Ob β):Ob β:=chk (0+32≤(XK C)) (chk ((XK (XM 32 C))=32∧0+32≤(XK D)) (lt (yd D 0 (XM 32 C)) fun A=>chk (0=0∧(XK A)=32∧32≠0) (z A)))
theorem zxx(L:Nat)(z A:List V)(k:KK β):(zi 2 (yr (xd zbp (zbr yL xJ yp L) 0 L zwp) (zy 0 (CF.res cf_sha_Sum) k))) (.exit 2) (zsV z A)=zjT L z A (fun C=>k (V.agg C) []):=by kernel_rfl
def ze7(L:Nat)(z:List V→List V→Ob β):Nat→Ls→Int→Int→List V→List V→Ob β
 | 0,_,_,_,_,_=>none
 | n+1,D,A,C,E,F=>zg0 yp L D A C E F (fun D A C E F=>ze7 L z n D A C E F) z
theorem zrQ(L:Nat)(K:KT β):∀ (n:Nat) (E:Ls) (C D:Int) (z A:List V),yt (xd zbp (zbr yL xJ yp L) 0 L zn8) zoK n (zgZ E C D z A) K=ze7 yp L (fun z A=>K (.exit 0) (znw z A)) n E C D z A:=by
 intro n; induction n <;> intros
 ·rfl
 ·exact (zDd ..).trans (by simp only [*]; rfl)
def zdJ(L:Nat)(z:List V→List V→Ob β):Nat→Int→List V→List V→List V→Ob β
 | 0,_,_,_,_=>none
 | n+1,A,C,D,E=>zfk L A C D E (fun A C D E=>zdJ L z n A C D E) z
theorem zpk(L:Nat)(K:KT β):∀ (n:Nat) (C:Int) (z D A:List V),yt (xd zbp (zbr yL xJ yp L) 0 L zkw) zmi n (zfR C z D A) K=zdJ L (fun z A=>K (.exit 2) (zsV z A)) n C z D A:=by
 intro n; induction n <;> intros
 ·rfl
 ·exact (zzj ..).trans (by simp only [*]; rfl)
def zhb(L:Nat)(z C:List V)(A:List V→Ob β):Ob β:=zms L z C (fun E z C D=>zdJ L (fun z D=>zjT L z D A) L E z C D)
theorem zxC(L:Nat)(z A:List V)(k:KK β):(zi 0 (yr (xd zbp (zbr yL xJ yp L) 0 L zs6) (zy 0 (CF.res cf_sha_Sum) k))) (.exit 0) (znw z A)=zhb L z A (fun C=>k (V.agg C) []):=by
 refine (zAm ..).trans ?_
 unfold zhb
 first
  | (simp only [zpk,zxx]; done)
  | (simp only [zpk]; rfl)
end
def zvV{β:Type}(yL:zou)(xJ:zom)(yp:zf1)(L:Nat)(F:Ls)(z:List V→Ob β):Ob β:=zC3 yL xJ L F (fun G D E A C=>ze7 yp L (fun A C=>zhb L A C z) L G D E A C)
theorem zNK{β:Type}(yL:zou)(xJ:zom)(yp:zf1)(L:Nat)(z:Ls)(k:KK β):zj zbp (zbr yL xJ yp L) L cf_sha_Sum [(V.sl 1 z)] [] k=zvV yL xJ yp L z (fun z=>k (V.agg z) []):=by
 refine (zOj yL xJ yp L z k).trans ?_
 unfold zvV
 first
  | (simp only [zrQ,zxC]; done)
  | (simp only [zrQ]; rfl)
abbrev zsa:=∀ (β:Type),Nat→Ls→(List V→Ob β)→Ob β
def zaw:zsa:=fun β=>@zvV β yL xJ yp
def zvW(zaw:zsa)(L:Nat):Dk:=dA (AL 1) fun z=>d0 fun β k=>zaw β L z (fun z=>k (V.agg z) [])
theorem zNJ(L:Nat):DK (zvW zaw L) (fun _=>zj zbp (zbr yL xJ yp L) L cf_sha_Sum):=xo zaV fun z=>zK fun _ k=>zNK yL xJ yp L z k
def zvJ:Hint:=⟨[],[],[none],[],[],false,false,[]⟩
def zAB:CF:=cfD zvJ 63
def zs4:Nat→Sh:=xC []
def zsF(zaw:zsa)(L:Nat):CBC:=(xp 458 (zvW zaw L) noC)
def zuL{β:Type}(zaw:zsa)(L:Nat)(H:Ls)(z:List V→Ob β):Ob β:=zaw β L H (fun C=>chk ((XK C)=32∧0+32≤32) (lt (yd (We 32 (Qa (0:Int))) 0 C) fun A=>chk (0+32*1≤(XK A)) (ifb (List.isEmpty A) (zaw β L (zf 1 32 A) (fun D=>chk ((XK D)=32∧0+32≤32) (lt (yd (We 32 (Qa (0:Int))) 0 D) fun E=>chk (0=0∧(XK E)=32∧32≠0) (z E)))) (zaw β L (zf 1 32 A) (fun F=>chk ((XK F)=32∧0+32≤32) (lt (yd (We 32 (Qa (0:Int))) 0 F) fun G=>chk (0=0∧(XK G)=32∧32≠0) (z G)))))))
theorem zId{β:Type}(zaw:zsa)(L:Nat)(z:Ls)(k:KK β):zj zs4 (zsF zaw L) L zAB [(V.sl 1 z)] [] k=zuL zaw L z (fun z=>k (V.agg z) []):=by kernel_rfl
abbrev zCr:=∀ (β:Type),Nat→Ls→(List V→Ob β)→Ob β
def zeR:zCr:=fun β=>@zuL β zaw
def zu9(zeR:zCr)(L:Nat):Dk:=dA (AL 1) fun z=>d0 fun β k=>zeR β L z (fun z=>k (V.agg z) [])
theorem zIr(L:Nat):DK (zu9 zeR L) (fun _=>zj zs4 (zsF zaw L) L zAB):=xo zaV fun z=>zK fun _ k=>zId zaw L z k
def zvE:Hint:=⟨[],[],[none,none,none,none,none],[],[],false,false,[]⟩
def zAE:CF:=cfD zvE 100
def zsD:Nat→Sh:=xC []
def zs3(L:Nat):CBC:=noC
def zt9{β:Type}(L:Nat)(C:Ls)(A D:Int)(z:Int→Ob β):Ob β:=ifb (decide (A<(0:Int))) (z (5:Int)) (ifb (decide (A>((XK C:Nat):Int))) (z (5:Int)) (lt (QG .i64 ((((XK C:Nat):Int):Int)-A)) fun E=>ifb (decide (E<D)) (z (1:Int)) (z (0:Int))))
theorem zHe{β:Type}(L:Nat)(z:Ls)(A C:Int)(k:KK β):zj zsD (zs3 L) L zAE [(V.sl 1 z),(Qe A),(Qe C)] [] k=zt9 L z A C (fun z=>k (Qe z) []):=by kernel_rfl
abbrev yS:=∀ (β:Type),Nat→Ls→Int→Int→(Int→Ob β)→Ob β
def zc:yS:=fun β=>@zt9 β
def zgb(zc:yS)(L:Nat):Dk:=dA (AL 1) fun z=>dA (AI .i64) fun A=>dA (AI .i64) fun C=>d0 fun β k=>zc β L z A C (fun z=>k (Qe z) [])
theorem zHR(L:Nat):DK (zgb zc L) (fun _=>zj zsD (zs3 L) L zAE):=xo zaV fun z=>xo z8 fun A=>xo z8 fun C=>zK fun _ k=>zHe L z A C k
def zm1:Hint:=⟨[],[],[none,none,none,some ((bl 1573895 40),(bl 1099511625727 40)),none,some ((bl 1030 40),(bl 1099511625727 40)),none,none],[],[],false,false,[]⟩
def cf_codec_read_uint32:CF:=cfD zm1 99
def zfh:CC:=yy [1,1,1,0,1,0,0] cf_codec_read_uint32.body
def zma:CC:=yy [1,1,1,1] cf_codec_read_uint32.body
def zaq:Nat→Sh:=xC [(29,(.int .u8))]
def zam(zc:yS)(L:Nat):CBC:=(xp 198 (zgb zc L) noC)
def zfI:St→St:=zM 0 (bl 1573895 40) (bl 1099511625727 40)
def zck(D:Ls)(E F z A C:Int):St:=⟨((V.sl 1 D)::((Qe E)::((Qe F)::(jn 7 ((Qc z)::(jn 8 ((Qe A)::((Qe C)::(jn 19 []))))))))),(gn 40 [])⟩
def zgN(A C z:Int):St:=⟨(jn 1 ((Qe A)::((Qe C)::(jn 7 ((Qc z)::(jn 29 [])))))),(gn 40 [])⟩
section
variable {β:Type} (zc:yS)
def zjM(L:Nat)(D:Ls)(E C:Int)(A:Int→Int→Int→Ob β)(z:Ls→Int→Int→Int→Int→Int→Ob β):Ob β:=zc β L D E C (fun F=>ifb ((F:Int) != (0:Int)) (A (0:Int) (0:Int) F) (z D E C (0:Int) C (0:Int)))
theorem zwY(L:Nat)(z:Ls)(A C:Int)(k:KK β):zj zaq (zam zc L) L cf_codec_read_uint32 [(V.sl 1 z),(Qe A),(Qe C)] [] k=zjM zc L z A C (fun D E F=>k (V.tup [(Qc D),(Qe E),(Qe F)]) []) (fun z A C G H I=>yt (xd zaq (zam zc L) 0 L zfh) zfI L (zck z A C G H I) (zi 0 (yr (xd zaq (zam zc L) 0 L zma) (zy 0 (CF.res cf_codec_read_uint32) k)))):=by kernel_rfl
def zfJ(L:Nat)(G:Ls)(E H C D A:Int)(z:Ls→Int→Int→Int→Int→Int→Ob β)(F:Int→Int→Int→Ob β):Ob β:=ifb (decide (A<D)) (lt (QG .i64 ((E:Int)+A)) fun J=>idx G J fun M=>cI .u8 M 0 fun N=>lt (QG .u32 N) fun O=>lt (QG .i64 (((8:Int):Int)*A)) fun I=>chk (0≤I) (lt (zde .u32 O I) fun P=>lt (ior .u32 C P) fun Q=>lt (QG .i64 ((A:Int)+(1:Int))) fun R=>z G E H Q D R)) (F E H C)
theorem zqT(L:Nat)(F:Ls)(D E z A C:Int)(X:St→Ob β)(K:KT β):xd zaq (zam zc L) 0 L zfh (zck F D E z A C) (zI zfI X K)=zfJ L F D E z A C (fun F D E z A C=>X (zck F D E z A C)) (fun D E z=>K (.exit 0) (zgN D E z)):=by kernel_rfl
def zeS(L:Nat)(C D A:Int)(z:Int→Int→Int→Ob β):Ob β:=lt (QG .i64 ((C:Int)+D)) fun E=>z A E (0:Int)
theorem zpz(L:Nat)(E F z:Int)(k:KK β):(zi 0 (yr (xd zaq (zam zc L) 0 L zma) (zy 0 (CF.res cf_codec_read_uint32) k))) (.exit 0) (zgN E F z)=zeS L E F z (fun A C D=>k (V.tup [(Qc A),(Qe C),(Qe D)]) []):=by kernel_rfl
def zbI(L:Nat)(z:Int→Int→Int→Ob β):Nat→Ls→Int→Int→Int→Int→Int→Ob β
 | 0,_,_,_,_,_,_=>none
 | n+1,E,F,G,A,C,D=>zfJ L E F G A C D (fun E F G A C D=>zbI L z n E F G A C D) z
theorem zir(L:Nat)(K:KT β):∀ (n:Nat) (F:Ls) (A C z D E:Int),yt (xd zaq (zam zc L) 0 L zfh) zfI n (zck F A C z D E) K=zbI L (fun A C z=>K (.exit 0) (zgN A C z)) n F A C z D E:=by
 intro n; induction n <;> intros
 ·rfl
 ·exact (zqT ..).trans (by simp only [*]; rfl)
end
def zgy{β:Type}(zc:yS)(L:Nat)(E:Ls)(A C:Int)(z:Int→Int→Int→Ob β):Ob β:=zjM zc L E A C z (fun E A C D F G=>zbI L (fun A C D=>zeS L A C D z) L E A C D F G)
theorem zw9{β:Type}(zc:yS)(L:Nat)(z:Ls)(A C:Int)(k:KK β):zj zaq (zam zc L) L cf_codec_read_uint32 [(V.sl 1 z),(Qe A),(Qe C)] [] k=zgy zc L z A C (fun D E F=>k (V.tup [(Qc D),(Qe E),(Qe F)]) []):=by
 refine (zwY zc L z A C k).trans ?_
 unfold zgy
 first
  | (simp only [zir,zpz]; done)
  | (simp only [zir]; rfl)
abbrev zd8:=∀ (β:Type),Nat→Ls→Int→Int→(Int→Int→Int→Ob β)→Ob β
def xI:zd8:=fun β=>@zgy β zc
def zjD(xI:zd8)(L:Nat):Dk:=dA (AL 1) fun D=>dA (AI .i64) fun E=>dA (AI .i64) fun F=>d0 fun β k=>xI β L D E F (fun z A C=>k (V.tup [(Qc z),(Qe A),(Qe C)]) [])
theorem zxc(L:Nat):DK (zjD xI L) (fun _=>zj zaq (zam zc L) L cf_codec_read_uint32):=xo zaV fun z=>xo z8 fun A=>xo z8 fun C=>zK fun _ k=>zw9 zc L z A C k
def zyL:Hint:=⟨[],[],[none],[],[],false,false,[]⟩
def zBI:CF:=cfD zyL 58
def zvh:Nat→Sh:=xC []
def zuM(xI:zd8)(L:Nat):CBC:=(xp 197 (zjD xI L) noC)
def zwO{β:Type}(xI:zd8)(L:Nat)(A:Ls)(C:Int)(z:Int→Int→Int→Ob β):Ob β:=xI β L A C (4:Int) (fun D E F=>z D E F)
theorem zKe{β:Type}(xI:zd8)(L:Nat)(D:Ls)(E:Int)(k:KK β):zj zvh (zuM xI L) L zBI [(V.sl 1 D),(Qe E)] [] k=zwO xI L D E (fun z A C=>k (V.tup [(Qc z),(Qe A),(Qe C)]) []):=by kernel_rfl
abbrev zcF:=∀ (β:Type),Nat→Ls→Int→(Int→Int→Int→Ob β)→Ob β
def xt:zcF:=fun β=>@zwO β xI
def znb(xt:zcF)(L:Nat):Dk:=dA (AL 1) fun D=>dA (AI .i64) fun E=>d0 fun β k=>xt β L D E (fun z A C=>k (V.tup [(Qc z),(Qe A),(Qe C)]) [])
theorem zJ5(L:Nat):DK (znb xt L) (fun _=>zj zvh (zuM xI L) L zBI):=xo zaV fun z=>xo z8 fun A=>zK fun _ k=>zKe xI L z A k
def zv7:Hint:=⟨[(5,1)],[],[none,none,none],[],[],false,false,[]⟩
def zAS:CF:=cfD zv7 59
def zsP:Nat→Sh:=xC []
def zsR(zc:yS)(L:Nat):CBC:=(xp 198 (zgb zc L) noC)
def zuc{β:Type}(zc:yS)(L:Nat)(C:Ls)(z:Int)(A:List V→Int→Int→Ob β):Ob β:=zc β L C z (32:Int) (fun E=>ifb ((E:Int) != (0:Int)) (lt (We 32 (Qa (0:Int))) fun F=>chk (0=0∧(XK F)=32∧32≠0) (A F (0:Int) E)) (chk (0≤z∧z≤(((XK C):Nat):Int)) (lt (yd (We 32 (Qa (0:Int))) 0 (XP (XM (min (XK (XM ((XK C)-(XL z)) (XN (XL z) C))) 32) (XM ((XK C)-(XL z)) (XN (XL z) C))))) fun D=>chk (0+32≤(XK D)) (lt (QG .i64 ((z:Int)+(32:Int))) fun H=>chk ((XK (XM 32 D))=32∧0+32≤32) (lt (yd (We 32 (Qa (0:Int))) 0 (XM 32 D)) fun G=>chk (0=0∧(XK G)=32∧32≠0) (A G H (0:Int)))))))
theorem zH6{β:Type}(zc:yS)(L:Nat)(D:Ls)(E:Int)(k:KK β):zj zsP (zsR zc L) L zAS [(V.sl 1 D),(Qe E)] [] k=zuc zc L D E (fun z A C=>k (V.tup [(V.agg z),(Qe A),(Qe C)]) []):=by kernel_rfl
abbrev zeX:=∀ (β:Type),Nat→Ls→Int→(List V→Int→Int→Ob β)→Ob β
def yD:zeX:=fun β=>@zuc β zc
def zoH(yD:zeX)(L:Nat):Dk:=dA (AL 1) fun D=>dA (AI .i64) fun E=>d0 fun β k=>yD β L D E (fun z A C=>k (V.tup [(V.agg z),(Qe A),(Qe C)]) [])
theorem zIJ(L:Nat):DK (zoH yD L) (fun _=>zj zsP (zsR zc L) L zAS):=xo zaV fun z=>xo z8 fun A=>zK fun _ k=>zH6 zc L z A k
def zl7:Hint:=⟨[(5,3),(6,3),(7,3),(8,3),(9,3),(10,3)],[],[none,none,none],[],[],false,false,[]⟩
def zoB:CF:=cfD zl7 26
def zij:Nat→Sh:=xC []
def zih(xt:zcF)(yD:zeX)(L:Nat):CBC:=(xp 172 (zoH yD L) (xp 170 (znb xt L) noC))
def ziL{β:Type}(xt:zcF)(yD:zeX)(L:Nat)(z:Ls)(A:List V→Int→Ob β):Ob β:=ifb ((((XK z:Nat):Int):Int) != (80:Int)) (lt ([(Qc (0:Int))]++We 64 (Qa (0:Int))++[(Qc (0:Int)),(Qc (0:Int)),(Qc (0:Int))]) fun H=>chk (0=0∧(XK H)=68∧68≠0) (A H (8:Int))) (xt β L z (0:Int) (fun U W v3=>lt ([(Qc U)]++We 64 (Qa (0:Int))++[(Qc (0:Int)),(Qc (0:Int)),(Qc (0:Int))]) fun I=>yD β L z W (fun J X v7=>chk ((XK J)=32∧1+32≤(XK I)) (lt (yd I 1 J) fun M=>yD β L z X (fun N O Y=>chk ((XK N)=32∧33+32≤(XK M)) (lt (yd M 33 N) fun D=>xt β L z O (fun P Q Z=>chk (1=1∧65+1≤(XK D)) (lt (yd D 65 [(Qc P)]) fun E=>xt β L z Q (fun R S aa=>chk (1=1∧66+1≤(XK E)) (lt (yd E 66 [(Qc R)]) fun F=>xt β L z S (fun T ab ac=>chk (1=1∧67+1≤(XK F)) (lt (yd F 67 [(Qc T)]) fun C=>chk (0+68≤(XK C)) (chk ((XK (XM 68 C))=68∧0+68≤68) (lt (yd ([(Qc (0:Int))]++We 64 (Qa (0:Int))++[(Qc (0:Int)),(Qc (0:Int)),(Qc (0:Int))]) 0 (XM 68 C)) fun G=>chk (0=0∧(XK G)=68∧68≠0) (A G (0:Int))))))))))))))))
theorem zvm{β:Type}(xt:zcF)(yD:zeX)(L:Nat)(C:Ls)(k:KK β):zj zij (zih xt yD L) L zoB [(V.sl 1 C)] [] k=ziL xt yD L C (fun z A=>k (V.tup [(V.agg z),(Qe A)]) []):=by kernel_rfl
abbrev zcg:=∀ (β:Type),Nat→Ls→(List V→Int→Ob β)→Ob β
def zn:zcg:=fun β=>@ziL β xt yD
def zjd(zn:zcg)(L:Nat):Dk:=dA (AL 1) fun C=>d0 fun β k=>zn β L C (fun z A=>k (V.tup [(V.agg z),(Qe A)]) [])
theorem zvx(L:Nat):DK (zjd zn L) (fun _=>zj zij (zih xt yD L) L zoB):=xo zaV fun z=>zK fun _ k=>zvm xt yD L z k
def zot:Hint:=⟨[],[],[none,none,none,some ((bl 1573895 39),(bl 549755811839 39)),none,some ((bl 1030 39),(bl 549755811839 39)),none,none],[],[],false,false,[]⟩
def cf_codec_read_uint8:CF:=cfD zot 157
def zfE:CC:=yy [1,1,1,0,1,0,0] cf_codec_read_uint8.body
def zng:CC:=yy [1,1,1,1] cf_codec_read_uint8.body
def zaE:Nat→Sh:=xC [(29,(.int .u8))]
def zaF(zc:yS)(L:Nat):CBC:=(xp 198 (zgb zc L) noC)
def zgr:St→St:=zM 0 (bl 1573895 39) (bl 549755811839 39)
def zct(D:Ls)(E F z A C:Int):St:=⟨((V.sl 1 D)::((Qe E)::((Qe F)::(jn 7 ((Qa z)::(jn 8 ((Qe A)::((Qe C)::(jn 18 []))))))))),(gn 39 [])⟩
def zhD(A C z:Int):St:=⟨(jn 1 ((Qe A)::((Qe C)::(jn 7 ((Qa z)::(jn 28 [])))))),(gn 39 [])⟩
section
variable {β:Type} (zc:yS)
def zkH(L:Nat)(D:Ls)(E C:Int)(A:Int→Int→Int→Ob β)(z:Ls→Int→Int→Int→Int→Int→Ob β):Ob β:=zc β L D E C (fun F=>ifb ((F:Int) != (0:Int)) (A (0:Int) (0:Int) F) (z D E C (0:Int) C (0:Int)))
theorem zx9(L:Nat)(z:Ls)(A C:Int)(k:KK β):zj zaE (zaF zc L) L cf_codec_read_uint8 [(V.sl 1 z),(Qe A),(Qe C)] [] k=zkH zc L z A C (fun D E F=>k (V.tup [(Qa D),(Qe E),(Qe F)]) []) (fun z A C G H I=>yt (xd zaE (zaF zc L) 0 L zfE) zgr L (zct z A C G H I) (zi 0 (yr (xd zaE (zaF zc L) 0 L zng) (zy 0 (CF.res cf_codec_read_uint8) k)))):=by kernel_rfl
def zgc(L:Nat)(G:Ls)(E H C D A:Int)(z:Ls→Int→Int→Int→Int→Int→Ob β)(F:Int→Int→Int→Ob β):Ob β:=ifb (decide (A<D)) (lt (QG .i64 ((E:Int)+A)) fun J=>idx G J fun M=>cI .u8 M 0 fun N=>lt (QG .i64 (((8:Int):Int)*A)) fun I=>chk (0≤I) (lt (zde .u8 N I) fun O=>lt (ior .u8 C O) fun P=>lt (QG .i64 ((A:Int)+(1:Int))) fun Q=>z G E H P D Q)) (F E H C)
theorem zrX(L:Nat)(F:Ls)(D E z A C:Int)(X:St→Ob β)(K:KT β):xd zaE (zaF zc L) 0 L zfE (zct F D E z A C) (zI zgr X K)=zgc L F D E z A C (fun F D E z A C=>X (zct F D E z A C)) (fun D E z=>K (.exit 0) (zhD D E z)):=by kernel_rfl
def zfg(L:Nat)(C D A:Int)(z:Int→Int→Int→Ob β):Ob β:=lt (QG .i64 ((C:Int)+D)) fun E=>z A E (0:Int)
theorem zqi(L:Nat)(E F z:Int)(k:KK β):(zi 0 (yr (xd zaE (zaF zc L) 0 L zng) (zy 0 (CF.res cf_codec_read_uint8) k))) (.exit 0) (zhD E F z)=zfg L E F z (fun A C D=>k (V.tup [(Qa A),(Qe C),(Qe D)]) []):=by kernel_rfl
def zbX(L:Nat)(z:Int→Int→Int→Ob β):Nat→Ls→Int→Int→Int→Int→Int→Ob β
 | 0,_,_,_,_,_,_=>none
 | n+1,E,F,G,A,C,D=>zgc L E F G A C D (fun E F G A C D=>zbX L z n E F G A C D) z
theorem ziv(L:Nat)(K:KT β):∀ (n:Nat) (F:Ls) (A C z D E:Int),yt (xd zaE (zaF zc L) 0 L zfE) zgr n (zct F A C z D E) K=zbX L (fun A C z=>K (.exit 0) (zhD A C z)) n F A C z D E:=by
 intro n; induction n <;> intros
 ·rfl
 ·exact (zrX ..).trans (by simp only [*]; rfl)
end
def zgY{β:Type}(zc:yS)(L:Nat)(E:Ls)(A C:Int)(z:Int→Int→Int→Ob β):Ob β:=zkH zc L E A C z (fun E A C D F G=>zbX L (fun A C D=>zfg L A C D z) L E A C D F G)
theorem zxE{β:Type}(zc:yS)(L:Nat)(z:Ls)(A C:Int)(k:KK β):zj zaE (zaF zc L) L cf_codec_read_uint8 [(V.sl 1 z),(Qe A),(Qe C)] [] k=zgY zc L z A C (fun D E F=>k (V.tup [(Qa D),(Qe E),(Qe F)]) []):=by
 refine (zx9 zc L z A C k).trans ?_
 unfold zgY
 first
  | (simp only [ziv,zqi]; done)
  | (simp only [ziv]; rfl)
abbrev zeP:=∀ (β:Type),Nat→Ls→Int→Int→(Int→Int→Int→Ob β)→Ob β
def xL:zeP:=fun β=>@zgY β zc
def zlr(xL:zeP)(L:Nat):Dk:=dA (AL 1) fun D=>dA (AI .i64) fun E=>dA (AI .i64) fun F=>d0 fun β k=>xL β L D E F (fun z A C=>k (V.tup [(Qa z),(Qe A),(Qe C)]) [])
theorem zyA(L:Nat):DK (zlr xL L) (fun _=>zj zaE (zaF zc L) L cf_codec_read_uint8):=xo zaV fun z=>xo z8 fun A=>xo z8 fun C=>zK fun _ k=>zxE zc L z A C k
def zAK:Hint:=⟨[],[],[none],[],[],false,false,[]⟩
def zFC:CF:=cfD zAK 107
def zwG:Nat→Sh:=xC []
def zw1(xL:zeP)(L:Nat):CBC:=(xp 207 (zlr xL L) noC)
def zAc{β:Type}(xL:zeP)(L:Nat)(A:Ls)(C:Int)(z:Int→Int→Int→Ob β):Ob β:=xL β L A C (1:Int) (fun D E F=>z D E F)
theorem zLF{β:Type}(xL:zeP)(L:Nat)(D:Ls)(E:Int)(k:KK β):zj zwG (zw1 xL L) L zFC [(V.sl 1 D),(Qe E)] [] k=zAc xL L D E (fun z A C=>k (V.tup [(Qa z),(Qe A),(Qe C)]) []):=by kernel_rfl
abbrev zoV:=∀ (β:Type),Nat→Ls→Int→(Int→Int→Int→Ob β)→Ob β
def zaN:zoV:=fun β=>@zAc β xL
def zzd(zaN:zoV)(L:Nat):Dk:=dA (AL 1) fun D=>dA (AI .i64) fun E=>d0 fun β k=>zaN β L D E (fun z A C=>k (V.tup [(Qa z),(Qe A),(Qe C)]) [])
theorem zLR(L:Nat):DK (zzd zaN L) (fun _=>zj zwG (zw1 xL L) L zFC):=xo zaV fun z=>xo z8 fun A=>zK fun _ k=>zLF xL L z A k
def zm8:Hint:=⟨[],[],[none,none,none,some ((bl 1573895 40),(bl 1099511625727 40)),none,some ((bl 1030 40),(bl 1099511625727 40)),none,none],[],[],false,false,[]⟩
def cf_codec_read_uint16:CF:=cfD zm8 158
def zfd:CC:=yy [1,1,1,0,1,0,0] cf_codec_read_uint16.body
def zl4:CC:=yy [1,1,1,1] cf_codec_read_uint16.body
def zan:Nat→Sh:=xC [(29,(.int .u8))]
def zao(zc:yS)(L:Nat):CBC:=(xp 198 (zgb zc L) noC)
def zfH:St→St:=zM 0 (bl 1573895 40) (bl 1099511625727 40)
def zcf(D:Ls)(E F z A C:Int):St:=⟨((V.sl 1 D)::((Qe E)::((Qe F)::(jn 7 ((Qb z)::(jn 8 ((Qe A)::((Qe C)::(jn 19 []))))))))),(gn 40 [])⟩
def zgL(A C z:Int):St:=⟨(jn 1 ((Qe A)::((Qe C)::(jn 7 ((Qb z)::(jn 29 [])))))),(gn 40 [])⟩
section
variable {β:Type} (zc:yS)
def zj5(L:Nat)(D:Ls)(E C:Int)(A:Int→Int→Int→Ob β)(z:Ls→Int→Int→Int→Int→Int→Ob β):Ob β:=zc β L D E C (fun F=>ifb ((F:Int) != (0:Int)) (A (0:Int) (0:Int) F) (z D E C (0:Int) C (0:Int)))
theorem zxu(L:Nat)(z:Ls)(A C:Int)(k:KK β):zj zan (zao zc L) L cf_codec_read_uint16 [(V.sl 1 z),(Qe A),(Qe C)] [] k=zj5 zc L z A C (fun D E F=>k (V.tup [(Qb D),(Qe E),(Qe F)]) []) (fun z A C G H I=>yt (xd zan (zao zc L) 0 L zfd) zfH L (zcf z A C G H I) (zi 0 (yr (xd zan (zao zc L) 0 L zl4) (zy 0 (CF.res cf_codec_read_uint16) k)))):=by kernel_rfl
def zft(L:Nat)(G:Ls)(E H C D A:Int)(z:Ls→Int→Int→Int→Int→Int→Ob β)(F:Int→Int→Int→Ob β):Ob β:=ifb (decide (A<D)) (lt (QG .i64 ((E:Int)+A)) fun J=>idx G J fun M=>cI .u8 M 0 fun N=>lt (QG .u16 N) fun O=>lt (QG .i64 (((8:Int):Int)*A)) fun I=>chk (0≤I) (lt (zde .u16 O I) fun P=>lt (ior .u16 C P) fun Q=>lt (QG .i64 ((A:Int)+(1:Int))) fun R=>z G E H Q D R)) (F E H C)
theorem zq2(L:Nat)(F:Ls)(D E z A C:Int)(X:St→Ob β)(K:KT β):xd zan (zao zc L) 0 L zfd (zcf F D E z A C) (zI zfH X K)=zft L F D E z A C (fun F D E z A C=>X (zcf F D E z A C)) (fun D E z=>K (.exit 0) (zgL D E z)):=by kernel_rfl
def zeM(L:Nat)(C D A:Int)(z:Int→Int→Int→Ob β):Ob β:=lt (QG .i64 ((C:Int)+D)) fun E=>z A E (0:Int)
theorem zpv(L:Nat)(E F z:Int)(k:KK β):(zi 0 (yr (xd zan (zao zc L) 0 L zl4) (zy 0 (CF.res cf_codec_read_uint16) k))) (.exit 0) (zgL E F z)=zeM L E F z (fun A C D=>k (V.tup [(Qb A),(Qe C),(Qe D)]) []):=by kernel_rfl
def zbK(L:Nat)(z:Int→Int→Int→Ob β):Nat→Ls→Int→Int→Int→Int→Int→Ob β
 | 0,_,_,_,_,_,_=>none
 | n+1,E,F,G,A,C,D=>zft L E F G A C D (fun E F G A C D=>zbK L z n E F G A C D) z
theorem zhW(L:Nat)(K:KT β):∀ (n:Nat) (F:Ls) (A C z D E:Int),yt (xd zan (zao zc L) 0 L zfd) zfH n (zcf F A C z D E) K=zbK L (fun A C z=>K (.exit 0) (zgL A C z)) n F A C z D E:=by
 intro n; induction n <;> intros
 ·rfl
 ·exact (zq2 ..).trans (by simp only [*]; rfl)
end
def zgw{β:Type}(zc:yS)(L:Nat)(E:Ls)(A C:Int)(z:Int→Int→Int→Ob β):Ob β:=zj5 zc L E A C z (fun E A C D F G=>zbK L (fun A C D=>zeM L A C D z) L E A C D F G)
theorem zwL{β:Type}(zc:yS)(L:Nat)(z:Ls)(A C:Int)(k:KK β):zj zan (zao zc L) L cf_codec_read_uint16 [(V.sl 1 z),(Qe A),(Qe C)] [] k=zgw zc L z A C (fun D E F=>k (V.tup [(Qb D),(Qe E),(Qe F)]) []):=by
 refine (zxu zc L z A C k).trans ?_
 unfold zgw
 first
  | (simp only [zhW,zpv]; done)
  | (simp only [zhW]; rfl)
abbrev zeb:=∀ (β:Type),Nat→Ls→Int→Int→(Int→Int→Int→Ob β)→Ob β
def yI:zeb:=fun β=>@zgw β zc
def zj8(yI:zeb)(L:Nat):Dk:=dA (AL 1) fun D=>dA (AI .i64) fun E=>dA (AI .i64) fun F=>d0 fun β k=>yI β L D E F (fun z A C=>k (V.tup [(Qb z),(Qe A),(Qe C)]) [])
theorem zxq(L:Nat):DK (zj8 yI L) (fun _=>zj zan (zao zc L) L cf_codec_read_uint16):=xo zaV fun z=>xo z8 fun A=>xo z8 fun C=>zK fun _ k=>zwL zc L z A C k
def zyd:Hint:=⟨[],[],[none],[],[],false,false,[]⟩
def zBY:CF:=cfD zyd 108
def zub:Nat→Sh:=xC []
def zuY(yI:zeb)(L:Nat):CBC:=(xp 208 (zj8 yI L) noC)
def zxa{β:Type}(yI:zeb)(L:Nat)(A:Ls)(C:Int)(z:Int→Int→Int→Ob β):Ob β:=yI β L A C (2:Int) (fun D E F=>z D E F)
theorem zI7{β:Type}(yI:zeb)(L:Nat)(D:Ls)(E:Int)(k:KK β):zj zub (zuY yI L) L zBY [(V.sl 1 D),(Qe E)] [] k=zxa yI L D E (fun z A C=>k (V.tup [(Qb z),(Qe A),(Qe C)]) []):=by kernel_rfl
abbrev zm0:=∀ (β:Type),Nat→Ls→Int→(Int→Int→Int→Ob β)→Ob β
def zau:zm0:=fun β=>@zxa β yI
def zwF(zau:zm0)(L:Nat):Dk:=dA (AL 1) fun D=>dA (AI .i64) fun E=>d0 fun β k=>zau β L D E (fun z A C=>k (V.tup [(Qb z),(Qe A),(Qe C)]) [])
theorem zJm(L:Nat):DK (zwF zau L) (fun _=>zj zub (zuY yI L) L zBY):=xo zaV fun z=>xo z8 fun A=>zK fun _ k=>zI7 yI L z A k
def znj:Hint:=⟨[],[],[none,none,none,some ((bl 1573895 40),(bl 1099511625727 40)),none,some ((bl 1030 40),(bl 1099511625727 40)),none,none],[],[],false,false,[]⟩
def cf_codec_read_uint64:CF:=cfD znj 159
def zff:CC:=yy [1,1,1,0,1,0,0] cf_codec_read_uint64.body
def zl3:CC:=yy [1,1,1,1] cf_codec_read_uint64.body
def zap:Nat→Sh:=xC [(29,(.int .u8))]
def zal(zc:yS)(L:Nat):CBC:=(xp 198 (zgb zc L) noC)
def zfU:St→St:=zM 0 (bl 1573895 40) (bl 1099511625727 40)
def zcn(D:Ls)(E F z A C:Int):St:=⟨((V.sl 1 D)::((Qe E)::((Qe F)::(jn 7 ((Qd z)::(jn 8 ((Qe A)::((Qe C)::(jn 19 []))))))))),(gn 40 [])⟩
def zgK(A C z:Int):St:=⟨(jn 1 ((Qe A)::((Qe C)::(jn 7 ((Qd z)::(jn 29 [])))))),(gn 40 [])⟩
section
variable {β:Type} (zc:yS)
def zjW(L:Nat)(D:Ls)(E C:Int)(A:Int→Int→Int→Ob β)(z:Ls→Int→Int→Int→Int→Int→Ob β):Ob β:=zc β L D E C (fun F=>ifb ((F:Int) != (0:Int)) (A (0:Int) (0:Int) F) (z D E C (0:Int) C (0:Int)))
theorem zxw(L:Nat)(z:Ls)(A C:Int)(k:KK β):zj zap (zal zc L) L cf_codec_read_uint64 [(V.sl 1 z),(Qe A),(Qe C)] [] k=zjW zc L z A C (fun D E F=>k (V.tup [(Qd D),(Qe E),(Qe F)]) []) (fun z A C G H I=>yt (xd zap (zal zc L) 0 L zff) zfU L (zcn z A C G H I) (zi 0 (yr (xd zap (zal zc L) 0 L zl3) (zy 0 (CF.res cf_codec_read_uint64) k)))):=by kernel_rfl
def zfA(L:Nat)(G:Ls)(E H C D A:Int)(z:Ls→Int→Int→Int→Int→Int→Ob β)(F:Int→Int→Int→Ob β):Ob β:=ifb (decide (A<D)) (lt (QG .i64 ((E:Int)+A)) fun J=>idx G J fun M=>cI .u8 M 0 fun N=>lt (QG .u64 N) fun O=>lt (QG .i64 (((8:Int):Int)*A)) fun I=>chk (0≤I) (lt (zde .u64 O I) fun P=>lt (ior .u64 C P) fun Q=>lt (QG .i64 ((A:Int)+(1:Int))) fun R=>z G E H Q D R)) (F E H C)
theorem zrd(L:Nat)(F:Ls)(D E z A C:Int)(X:St→Ob β)(K:KT β):xd zap (zal zc L) 0 L zff (zcn F D E z A C) (zI zfU X K)=zfA L F D E z A C (fun F D E z A C=>X (zcn F D E z A C)) (fun D E z=>K (.exit 0) (zgK D E z)):=by kernel_rfl
def zeW(L:Nat)(C D A:Int)(z:Int→Int→Int→Ob β):Ob β:=lt (QG .i64 ((C:Int)+D)) fun E=>z A E (0:Int)
theorem zo5(L:Nat)(E F z:Int)(k:KK β):(zi 0 (yr (xd zap (zal zc L) 0 L zl3) (zy 0 (CF.res cf_codec_read_uint64) k))) (.exit 0) (zgK E F z)=zeW L E F z (fun A C D=>k (V.tup [(Qd A),(Qe C),(Qe D)]) []):=by kernel_rfl
def zbJ(L:Nat)(z:Int→Int→Int→Ob β):Nat→Ls→Int→Int→Int→Int→Int→Ob β
 | 0,_,_,_,_,_,_=>none
 | n+1,E,F,G,A,C,D=>zfA L E F G A C D (fun E F G A C D=>zbJ L z n E F G A C D) z
theorem zh9(L:Nat)(K:KT β):∀ (n:Nat) (F:Ls) (A C z D E:Int),yt (xd zap (zal zc L) 0 L zff) zfU n (zcn F A C z D E) K=zbJ L (fun A C z=>K (.exit 0) (zgK A C z)) n F A C z D E:=by
 intro n; induction n <;> intros
 ·rfl
 ·exact (zrd ..).trans (by simp only [*]; rfl)
end
def zgz{β:Type}(zc:yS)(L:Nat)(E:Ls)(A C:Int)(z:Int→Int→Int→Ob β):Ob β:=zjW zc L E A C z (fun E A C D F G=>zbJ L (fun A C D=>zeW L A C D z) L E A C D F G)
theorem zw3{β:Type}(zc:yS)(L:Nat)(z:Ls)(A C:Int)(k:KK β):zj zap (zal zc L) L cf_codec_read_uint64 [(V.sl 1 z),(Qe A),(Qe C)] [] k=zgz zc L z A C (fun D E F=>k (V.tup [(Qd D),(Qe E),(Qe F)]) []):=by
 refine (zxw zc L z A C k).trans ?_
 unfold zgz
 first
  | (simp only [zh9,zo5]; done)
  | (simp only [zh9]; rfl)
abbrev zec:=∀ (β:Type),Nat→Ls→Int→Int→(Int→Int→Int→Ob β)→Ob β
def zJ:zec:=fun β=>@zgz β zc
def zjz(zJ:zec)(L:Nat):Dk:=dA (AL 1) fun D=>dA (AI .i64) fun E=>dA (AI .i64) fun F=>d0 fun β k=>zJ β L D E F (fun z A C=>k (V.tup [(Qd z),(Qe A),(Qe C)]) [])
theorem zwN(L:Nat):DK (zjz zJ L) (fun _=>zj zap (zal zc L) L cf_codec_read_uint64):=xo zaV fun z=>xo z8 fun A=>xo z8 fun C=>zK fun _ k=>zw3 zc L z A C k
def zyT:Hint:=⟨[],[],[none],[],[],false,false,[]⟩
def zCw:CF:=cfD zyT 109
def zu3:Nat→Sh:=xC []
def zuN(zJ:zec)(L:Nat):CBC:=(xp 199 (zjz zJ L) noC)
def zwz{β:Type}(zJ:zec)(L:Nat)(A:Ls)(C:Int)(z:Int→Int→Int→Ob β):Ob β:=zJ β L A C (8:Int) (fun D E F=>z D E F)
theorem zJV{β:Type}(zJ:zec)(L:Nat)(D:Ls)(E:Int)(k:KK β):zj zu3 (zuN zJ L) L zCw [(V.sl 1 D),(Qe E)] [] k=zwz zJ L D E (fun z A C=>k (V.tup [(Qd z),(Qe A),(Qe C)]) []):=by kernel_rfl
abbrev zhB:=∀ (β:Type),Nat→Ls→Int→(Int→Int→Int→Ob β)→Ob β
def yK:zhB:=fun β=>@zwz β zJ
def zrG(yK:zhB)(L:Nat):Dk:=dA (AL 1) fun D=>dA (AI .i64) fun E=>d0 fun β k=>yK β L D E (fun z A C=>k (V.tup [(Qd z),(Qe A),(Qe C)]) [])
theorem zJp(L:Nat):DK (zrG yK L) (fun _=>zj zu3 (zuN zJ L) L zCw):=xo zaV fun z=>xo z8 fun A=>zK fun _ k=>zJV zJ L z A k
def zwc:Hint:=⟨[(1,3),(8,3),(12,3),(15,3)],[],[none,none,none,none,none,none,none,none,none,none,none,none,none,none],[],[],false,false,[]⟩
def zAM:CF:=cfD zwc 66
def zsZ:Nat→Sh:=xC []
def zsE(zaN:zoV)(zau:zm0)(xt:zcF)(yK:zhB)(L:Nat):CBC:=(xp 173 (zrG yK L) (xp 170 (znb xt L) (xp 196 (zwF zau L) (xp 195 (zzd zaN L) noC))))
def zut{β:Type}(zaN:zoV)(zau:zm0)(xt:zcF)(yK:zhB)(L:Nat)(D:Ls)(Q E:Int)(z:Int→Int→Int→Ob β):Ob β:=zaN β L D Q (fun F G H=>ifb ((H:Int) != (0:Int)) (z (0:Int) (0:Int) H) (lt (QG .u64 F) fun M=>ifb ((F:Int)==(253:Int)) (zau β L D G (fun R S O=>lt (QG .u64 R) fun N=>ifb ((O:Int) != (0:Int)) (z (0:Int) (0:Int) O) (ifb (decide (N<(253:Int))) (z (0:Int) (0:Int) (3:Int)) (ifb (decide (N>E)) (z (0:Int) (0:Int) (4:Int)) (z N S (0:Int)))))) (ifb ((F:Int)==(254:Int)) (xt β L D G (fun T U I=>lt (QG .u64 T) fun A=>ifb ((I:Int) != (0:Int)) (z (0:Int) (0:Int) I) (ifb (decide (A<(65536:Int))) (z (0:Int) (0:Int) (3:Int)) (ifb (decide (A>E)) (z (0:Int) (0:Int) (4:Int)) (z A U (0:Int)))))) (ifb ((F:Int)==(255:Int)) (yK β L D G (fun C P J=>ifb ((J:Int) != (0:Int)) (z (0:Int) (0:Int) J) (ifb (decide (C<(4294967296:Int))) (z (0:Int) (0:Int) (3:Int)) (ifb (decide (C>E)) (z (0:Int) (0:Int) (4:Int)) (z C P (0:Int)))))) (ifb ((H:Int) != (0:Int)) (z (0:Int) (0:Int) H) (ifb (decide (M<(0:Int))) (z (0:Int) (0:Int) (3:Int)) (ifb (decide (M>E)) (z (0:Int) (0:Int) (4:Int)) (z M G (0:Int)))))))))
theorem zHI{β:Type}(zaN:zoV)(zau:zm0)(xt:zcF)(yK:zhB)(L:Nat)(D:Ls)(E F:Int)(k:KK β):zj zsZ (zsE zaN zau xt yK L) L zAM [(V.sl 1 D),(Qe E),(Qd F)] [] k=zut zaN zau xt yK L D E F (fun z A C=>k (V.tup [(Qd z),(Qe A),(Qe C)]) []):=by kernel_rfl
abbrev zbt:=∀ (β:Type),Nat→Ls→Int→Int→(Int→Int→Int→Ob β)→Ob β
def zm:zbt:=fun β=>@zut β zaN zau xt yK
def zkO(zm:zbt)(L:Nat):Dk:=dA (AL 1) fun D=>dA (AI .i64) fun E=>dA (AI .u64) fun F=>d0 fun β k=>zm β L D E F (fun z A C=>k (V.tup [(Qd z),(Qe A),(Qe C)]) [])
theorem zG9(L:Nat):DK (zkO zm L) (fun _=>zj zsZ (zsE zaN zau xt yK L) L zAM):=xo zaV fun z=>xo z8 fun A=>xo z8 fun C=>zK fun _ k=>zHI zaN zau xt yK L z A C k
def zqw:Hint:=⟨[(4,10)],[],[none,none,none,none,none],[],[],false,false,[]⟩
def ztk:CF:=cfD zqw 117
def zmJ:Nat→Sh:=xC []
def zmO(xt:zcF)(L:Nat):CBC:=(xp 170 (znb xt L) noC)
def ziX{β:Type}(xt:zcF)(L:Nat)(z:Ls)(C D:Int)(A:Int→Ls→Int→Int→Ob β):Ob β:=ifb ((D:Int) != (0:Int)) (A (0:Int) z C D) (xt β L z C (fun F G E=>ifb ((E:Int) != (0:Int)) (A (0:Int) z C E) (A F z G D)))
theorem zBc{β:Type}(xt:zcF)(L:Nat)(z:Ls)(A C:Int)(k:KK β):zj zmJ (zmO xt L) L ztk [(V.ptr 0 0),(V.fn 170 [])] [(.live false [(V.sl 1 z),(Qe A),(Qe C)])] k=ziX xt L z A C (fun D z A C=>k (Qc D) [(.live false [(V.sl 1 z),(Qe A),(Qe C)])]):=by kernel_rfl
abbrev zek:=∀ (β:Type),Nat→Ls→Int→Int→(Int→Ls→Int→Int→Ob β)→Ob β
def xb:zek:=fun β=>@ziX β xt
def ziY(xb:zek)(L:Nat)(β:Type)(args:List V)(bor:Bor)(k:KK β):Ob β:=match args,bor with
 | [a0,a1],[(.live false [w0_0,w0_1,w0_2])]=>aP 0 0 a0 (aF 170 [] a1 (aL 1 w0_0 fun z=>aI .i64 w0_1 fun A=>aI .i64 w0_2 fun C=>xb β L z A C (fun D z A C=>k (Qc D) [(.live false [(V.sl 1 z),(Qe A),(Qe C)])])))
 | _,_=>none
theorem zBi(L:Nat)(β:Type)(args:List V)(bor:Bor)(k:KK β)(r:β)(h:ziY xb L β args bor k=some r):zj zmJ (zmO xt L) L ztk args bor k=some r:=by
 unfold ziY at h
 split at h
 ·have q:=zkP h; clear h; obtain ⟨rfl,h⟩:=q
  have q:=zCl h; clear h; obtain ⟨rfl,h⟩:=q
  have q:=zlA h; clear h; obtain ⟨z,rfl,h⟩:=q
  have q:=zbv h; clear h; obtain ⟨A,rfl,h⟩:=q
  have q:=zbv h; clear h; obtain ⟨C,rfl,h⟩:=q
  exact (zBc xt L z A C k).trans h
 ·cases h
def zve:Hint:=⟨[],[],[none],[],[],false,false,[]⟩
def zyQ:CF:=cfD zve 112
def zrf:Nat→Sh:=xC []
def zqD(zm:zbt)(L:Nat):CBC:=(xp 164 (zkO zm L) noC)
def zsy{β:Type}(zm:zbt)(L:Nat)(C:Ls)(D z:Int)(A:Int→Int→Int→Int→Ob β):Ob β:=zm β L C D z (fun E F G=>A E F G z)
theorem zFW{β:Type}(zm:zbt)(L:Nat)(E:Ls)(F z:Int)(k:KK β):zj zrf (zqD zm L) L zyQ [(V.sl 1 E),(Qe F),(V.ptr 0 0)] [(.live true [(Qd z)])] k=zsy zm L E F z (fun A C D z=>k (V.tup [(Qd A),(Qe C),(Qe D)]) [(.live true [(Qd z)])]):=by kernel_rfl
abbrev zjj:=∀ (β:Type),Nat→Ls→Int→Int→(Int→Int→Int→Int→Ob β)→Ob β
def y4:zjj:=fun β=>@zsy β zm
def znB(y4:zjj)(L:Nat)(β:Type)(args:List V)(bor:Bor)(k:KK β):Ob β:=match args,bor with
 | [a0,a1,a2],[(.live true [w0_0])]=>aL 1 a0 fun E=>aI .i64 a1 fun F=>aP 0 0 a2 (aI .u64 w0_0 fun z=>y4 β L E F z (fun A C D z=>k (V.tup [(Qd A),(Qe C),(Qe D)]) [(.live true [(Qd z)])]))
 | _,_=>none
theorem zFR(L:Nat)(β:Type)(args:List V)(bor:Bor)(k:KK β)(r:β)(h:znB y4 L β args bor k=some r):zj zrf (zqD zm L) L zyQ args bor k=some r:=by
 unfold znB at h
 split at h
 ·have q:=zlA h; clear h; obtain ⟨A,rfl,h⟩:=q
  have q:=zbv h; clear h; obtain ⟨C,rfl,h⟩:=q
  have q:=zkP h; clear h; obtain ⟨rfl,h⟩:=q
  have q:=zbv h; clear h; obtain ⟨z,rfl,h⟩:=q
  exact (zFW zm L A C z k).trans h
 ·cases h
def zqr:Hint:=⟨[(4,10)],[],[none,none,none,none,none],[],[],false,false,[]⟩
def zhV:CF:=cfD zqr 111
def zmo:Nat→Sh:=xC []
def zmN(y4:zjj)(L:Nat):CBC:=(xp 163 (znB y4 L) noC)
def ziQ{β:Type}(y4:zjj)(L:Nat)(z:Ls)(C D E:Int)(A:Int→Ls→Int→Int→Int→Ob β):Ob β:=ifb ((D:Int) != (0:Int)) (A (0:Int) z C D E) (y4 β L z C E (fun H I F G=>ifb ((F:Int) != (0:Int)) (A (0:Int) z C F G) (A H z I D G)))
theorem zA2{β:Type}(y4:zjj)(L:Nat)(z:Ls)(A C D:Int)(k:KK β):zj zmo (zmN y4 L) L zhV [(V.ptr 0 0),(V.fn 163 [(V.ptr 1 0)])] [(.live false [(V.sl 1 z),(Qe A),(Qe C)]),(.live true [(Qd D)])] k=ziQ y4 L z A C D (fun E z A C D=>k (Qd E) [(.live false [(V.sl 1 z),(Qe A),(Qe C)]),(.live true [(Qd D)])]):=by kernel_rfl
abbrev zgj:=∀ (β:Type),Nat→Ls→Int→Int→Int→(Int→Ls→Int→Int→Int→Ob β)→Ob β
def xO:zgj:=fun β=>@ziQ β y4
def zi9(xO:zgj)(L:Nat)(β:Type)(args:List V)(bor:Bor)(k:KK β):Ob β:=match args,bor with
 | [a0,a1],[(.live false [w0_0,w0_1,w0_2]),(.live true [w1_0])]=>aP 0 0 a0 (aF 163 [(1,0)] a1 (aL 1 w0_0 fun z=>aI .i64 w0_1 fun A=>aI .i64 w0_2 fun C=>aI .u64 w1_0 fun D=>xO β L z A C D (fun E z A C D=>k (Qd E) [(.live false [(V.sl 1 z),(Qe A),(Qe C)]),(.live true [(Qd D)])])))
 | _,_=>none
theorem zA5(L:Nat)(β:Type)(args:List V)(bor:Bor)(k:KK β)(r:β)(h:zi9 xO L β args bor k=some r):zj zmo (zmN y4 L) L zhV args bor k=some r:=by
 unfold zi9 at h
 split at h
 ·have q:=zkP h; clear h; obtain ⟨rfl,h⟩:=q
  have q:=zCl h; clear h; obtain ⟨rfl,h⟩:=q
  have q:=zlA h; clear h; obtain ⟨z,rfl,h⟩:=q
  have q:=zbv h; clear h; obtain ⟨A,rfl,h⟩:=q
  have q:=zbv h; clear h; obtain ⟨C,rfl,h⟩:=q
  have q:=zbv h; clear h; obtain ⟨D,rfl,h⟩:=q
  exact (zA2 y4 L z A C D k).trans h
 ·cases h
def zyU:Hint:=⟨[],[],[none],[],[],false,false,[]⟩
def zDK:CF:=cfD zyU 110
def zvg:Nat→Sh:=xC []
def zuP(xO:zgj)(L:Nat):CBC:=(xp 162 (zi9 xO L) noC)
def zrx{β:Type}(xO:zgj)(L:Nat)(E:Int)(A:Ls)(C D:Int)(z:Int→Ls→Int→Int→Ob β):Ob β:=xO β L A C D E (fun F G H I M=>lt (QG .i64 F) fun J=>z J G H I)
theorem zI9{β:Type}(xO:zgj)(L:Nat)(D:Int)(z:Ls)(A C:Int)(k:KK β):zj zvg (zuP xO L) L zDK [(Qd D),(V.ptr 0 0)] [(.live false [(V.ptr 1 0)]),(.live false [(V.sl 1 z),(Qe A),(Qe C)])] k=zrx xO L D z A C (fun D z A C=>k (Qe D) [(.live false [(V.ptr 1 0)]),(.live false [(V.sl 1 z),(Qe A),(Qe C)])]):=by kernel_rfl
abbrev zjn:=∀ (β:Type),Nat→Int→Ls→Int→Int→(Int→Ls→Int→Int→Ob β)→Ob β
def xg:zjn:=fun β=>@zrx β xO
def zru(xg:zjn)(L:Nat)(β:Type)(args:List V)(bor:Bor)(k:KK β):Ob β:=match args,bor with
 | [a0,a1],[(.live false [w0_0]),(.live false [w1_0,w1_1,w1_2])]=>aI .u64 a0 fun D=>aP 0 0 a1 (aP 1 0 w0_0 (aL 1 w1_0 fun z=>aI .i64 w1_1 fun A=>aI .i64 w1_2 fun C=>xg β L D z A C (fun D z A C=>k (Qe D) [(.live false [(V.ptr 1 0)]),(.live false [(V.sl 1 z),(Qe A),(Qe C)])])))
 | _,_=>none
theorem zI4(L:Nat)(β:Type)(args:List V)(bor:Bor)(k:KK β)(r:β)(h:zru xg L β args bor k=some r):zj zvg (zuP xO L) L zDK args bor k=some r:=by
 unfold zru at h
 split at h
 ·have q:=zbv h; clear h; obtain ⟨D,rfl,h⟩:=q
  have q:=zkP h; clear h; obtain ⟨rfl,h⟩:=q
  have q:=zkP h; clear h; obtain ⟨rfl,h⟩:=q
  have q:=zlA h; clear h; obtain ⟨z,rfl,h⟩:=q
  have q:=zbv h; clear h; obtain ⟨A,rfl,h⟩:=q
  have q:=zbv h; clear h; obtain ⟨C,rfl,h⟩:=q
  exact (zI9 xO L D z A C k).trans h
 ·cases h
def zow:Hint:=⟨[(4,10)],[],[none,none,none,none,none],[],[],false,false,[]⟩
def zqt:CF:=cfD zow 118
def zjP:Nat→Sh:=xC []
def zj7(yD:zeX)(L:Nat):CBC:=(xp 172 (zoH yD L) noC)
def zg9{β:Type}(yD:zeX)(L:Nat)(z:Ls)(C D:Int)(A:List V→Ls→Int→Int→Ob β):Ob β:=ifb ((D:Int) != (0:Int)) (lt (We 32 (Qa (0:Int))) fun F=>chk (0=0∧(XK F)=32∧32≠0) (A F z C D)) (yD β L z C (fun G M H=>chk ((XK G)=32∧0+32≤32) (lt (yd (We 32 (Qa (0:Int))) 0 G) fun E=>ifb ((H:Int) != (0:Int)) (lt (We 32 (Qa (0:Int))) fun I=>chk (0=0∧(XK I)=32∧32≠0) (A I z C H)) (chk (0+32≤(XK E)) (chk ((XK (XM 32 E))=32∧0+32≤32) (lt (yd (We 32 (Qa (0:Int))) 0 (XM 32 E)) fun J=>chk (0=0∧(XK J)=32∧32≠0) (A J z M D)))))))
theorem zy6{β:Type}(yD:zeX)(L:Nat)(z:Ls)(A C:Int)(k:KK β):zj zjP (zj7 yD L) L zqt [(V.ptr 0 0),(V.fn 172 [])] [(.live false [(V.sl 1 z),(Qe A),(Qe C)])] k=zg9 yD L z A C (fun D z A C=>k (V.agg D) [(.live false [(V.sl 1 z),(Qe A),(Qe C)])]):=by kernel_rfl
abbrev zcZ:=∀ (β:Type),Nat→Ls→Int→Int→(List V→Ls→Int→Int→Ob β)→Ob β
def xe:zcZ:=fun β=>@zg9 β yD
def zhi(xe:zcZ)(L:Nat)(β:Type)(args:List V)(bor:Bor)(k:KK β):Ob β:=match args,bor with
 | [a0,a1],[(.live false [w0_0,w0_1,w0_2])]=>aP 0 0 a0 (aF 172 [] a1 (aL 1 w0_0 fun z=>aI .i64 w0_1 fun A=>aI .i64 w0_2 fun C=>xe β L z A C (fun D z A C=>k (V.agg D) [(.live false [(V.sl 1 z),(Qe A),(Qe C)])])))
 | _,_=>none
theorem zyO(L:Nat)(β:Type)(args:List V)(bor:Bor)(k:KK β)(r:β)(h:zhi xe L β args bor k=some r):zj zjP (zj7 yD L) L zqt args bor k=some r:=by
 unfold zhi at h
 split at h
 ·have q:=zkP h; clear h; obtain ⟨rfl,h⟩:=q
  have q:=zCl h; clear h; obtain ⟨rfl,h⟩:=q
  have q:=zlA h; clear h; obtain ⟨z,rfl,h⟩:=q
  have q:=zbv h; clear h; obtain ⟨A,rfl,h⟩:=q
  have q:=zbv h; clear h; obtain ⟨C,rfl,h⟩:=q
  exact (zy6 yD L z A C k).trans h
 ·cases h
def ziW:Nat→Sh:=xC []
def zja(yK:zhB)(L:Nat):CBC:=(xp 173 (zrG yK L) noC)
section
variable {β:Type} (yK:zhB)
def zgx(L:Nat)(z:Ls)(C D:Int)(A:Int→Ls→Int→Int→Ob β):Ob β:=ifb ((D:Int) != (0:Int)) (A (0:Int) z C D) (yK β L z C (fun F G E=>ifb ((E:Int) != (0:Int)) (A (0:Int) z C E) (A F z G D)))
theorem zw6(L:Nat)(z:Ls)(A C:Int)(k:KK β):zj ziW (zja yK L) L zhV [(V.ptr 0 0),(V.fn 173 [])] [(.live false [(V.sl 1 z),(Qe A),(Qe C)])] k=zgx yK L z A C (fun D z A C=>k (Qd D) [(.live false [(V.sl 1 z),(Qe A),(Qe C)])]):=by kernel_rfl
end
abbrev zcC:=∀ (β:Type),Nat→Ls→Int→Int→(Int→Ls→Int→Int→Ob β)→Ob β
def xc:zcC:=fun β=>@zgx β yK
def zgv(xc:zcC)(L:Nat)(β:Type)(args:List V)(bor:Bor)(k:KK β):Ob β:=match args,bor with
 | [a0,a1],[(.live false [w0_0,w0_1,w0_2])]=>aP 0 0 a0 (aF 173 [] a1 (aL 1 w0_0 fun z=>aI .i64 w0_1 fun A=>aI .i64 w0_2 fun C=>xc β L z A C (fun D z A C=>k (Qd D) [(.live false [(V.sl 1 z),(Qe A),(Qe C)])])))
 | _,_=>none
theorem zwK(L:Nat)(β:Type)(args:List V)(bor:Bor)(k:KK β)(r:β)(h:zgv xc L β args bor k=some r):zj ziW (zja yK L) L zhV args bor k=some r:=by
 unfold zgv at h
 split at h
 ·have q:=zkP h; clear h; obtain ⟨rfl,h⟩:=q
  have q:=zCl h; clear h; obtain ⟨rfl,h⟩:=q
  have q:=zlA h; clear h; obtain ⟨z,rfl,h⟩:=q
  have q:=zbv h; clear h; obtain ⟨A,rfl,h⟩:=q
  have q:=zbv h; clear h; obtain ⟨C,rfl,h⟩:=q
  exact (zw6 yK L z A C k).trans h
 ·cases h
def zto:Hint:=⟨[(0,0),(1,6),(2,0),(2,3),(3,0),(3,3)],[],[none],[],[],false,false,[]⟩
def zvO:CF:=cfD zto 74
def zo0:Nat→Sh:=xC []
def zp0(L:Nat):CBC:=noC
def zlC{β:Type}(L:Nat)(z A:Ls)(C:Ls→Ob β):Ob β:=lt (QG .i64 ((((XK z:Nat):Int):Int)+((XK A:Nat):Int))) fun D=>chk (0≤(0:Int)∧(0:Int)≤D∧(XL D)*1≤xf∧D≤xf) (chk ((XK (We 0 [(Qa (0:Int))])+XK z)*1≤xf∧XK (We 0 [(Qa (0:Int))])+XK z≤xf) (lt ((We 0 [(Qa (0:Int))])++z) fun E=>chk ((XK E+XK A)*1≤xf∧XK E+XK A≤xf) (lt (E++A) fun F=>C F)))
theorem zEd{β:Type}(L:Nat)(z A:Ls)(k:KK β):zj zo0 (zp0 L) L zvO [(V.sl 1 z),(V.sl 1 A)] [] k=zlC L z A (fun z=>k (V.gs 1 z) []):=by kernel_rfl
abbrev yF:=∀ (β:Type),Nat→Ls→Ls→(Ls→Ob β)→Ob β
def yb:yF:=fun β=>@zlC β
def zco(yb:yF)(L:Nat):Dk:=dA (AL 1) fun z=>dA (AL 1) fun A=>d0 fun β k=>yb β L z A (fun z=>k (V.gs 1 z) [])
theorem zEc(L:Nat):DK (zco yb L) (fun _=>zj zo0 (zp0 L) L zvO):=xo zaV fun z=>xo zaV fun A=>zK fun _ k=>zEd L z A k
def zuW:Hint:=⟨[(0,0),(2,0),(3,5),(5,1),(7,0),(9,0),(9,6)],[],[none,none,none,none,none,none,none],[],[],false,false,[]⟩
def zyy:CF:=cfD zuW 116
def zq0:Nat→Sh:=xC []
def zq6(zm:zbt)(yb:yF)(L:Nat):CBC:=(xp 191 (zco yb L) (xp 164 (zkO zm L) noC))
def zsS{β:Type}(zm:zbt)(yb:yF)(L:Nat)(D:Ls)(H E:Int)(z:Ls→Int→Int→Ob β):Ob β:=ifb (decide (E<(0:Int))) (z ([]:Ls) (0:Int) (5:Int)) (lt (QG .u64 E) fun I=>zm β L D H I (fun F A G=>ifb ((G:Int) != (0:Int)) (z ([]:Ls) (0:Int) G) (lt (QG .i64 ((((XK D:Nat):Int):Int)-A)) fun J=>lt (QG .u64 J) fun M=>ifb (decide (F>M)) (z ([]:Ls) (0:Int) (1:Int)) (lt (QG .i64 F) fun N=>lt (QG .i64 ((A:Int)+N)) fun C=>chk (0≤C∧C≤(((XK D):Nat):Int)) (chk (0≤A∧A≤(((XL C):Nat):Int)) (yb β L (XM ((XL C)-(XL A)) (XN (XL A) D)) ([]:Ls) (fun O=>z O C (0:Int))))))))
theorem zGR{β:Type}(zm:zbt)(yb:yF)(L:Nat)(D:Ls)(E F:Int)(k:KK β):zj zq0 (zq6 zm yb L) L zyy [(V.sl 1 D),(Qe E),(Qe F)] [] k=zsS zm yb L D E F (fun z A C=>k (V.tup [(V.gs 1 z),(Qe A),(Qe C)]) []):=by kernel_rfl
abbrev zji:=∀ (β:Type),Nat→Ls→Int→Int→(Ls→Int→Int→Ob β)→Ob β
def yX:zji:=fun β=>@zsS β zm yb
def zsY(yX:zji)(L:Nat):Dk:=dA (AL 1) fun D=>dA (AI .i64) fun E=>dA (AI .i64) fun F=>d0 fun β k=>yX β L D E F (fun z A C=>k (V.tup [(V.gs 1 z),(Qe A),(Qe C)]) [])
theorem zGy(L:Nat):DK (zsY yX L) (fun _=>zj zq0 (zq6 zm yb L) L zyy):=xo zaV fun z=>xo z8 fun A=>xo z8 fun C=>zK fun _ k=>zGR zm yb L z A C k
def zuo:Hint:=⟨[(0,0),(1,4),(1,7)],[],[none],[],[],false,false,[]⟩
def zyF:CF:=cfD zuo 115
def zqR:Nat→Sh:=xC []
def zrm(yX:zji)(L:Nat):CBC:=(xp 168 (zsY yX L) noC)
def zsH{β:Type}(yX:zji)(L:Nat)(C:Ls)(D z:Int)(A:Ls→Int→Int→Int→Ob β):Ob β:=yX β L C D z (fun E F G=>A E F G z)
theorem zGj{β:Type}(yX:zji)(L:Nat)(E:Ls)(F z:Int)(k:KK β):zj zqR (zrm yX L) L zyF [(V.sl 1 E),(Qe F),(V.ptr 0 0)] [(.live true [(Qe z)])] k=zsH yX L E F z (fun A C D z=>k (V.tup [(V.gs 1 A),(Qe C),(Qe D)]) [(.live true [(Qe z)])]):=by kernel_rfl
abbrev zjf:=∀ (β:Type),Nat→Ls→Int→Int→(Ls→Int→Int→Int→Ob β)→Ob β
def y5:zjf:=fun β=>@zsH β yX
def znu(y5:zjf)(L:Nat)(β:Type)(args:List V)(bor:Bor)(k:KK β):Ob β:=match args,bor with
 | [a0,a1,a2],[(.live true [w0_0])]=>aL 1 a0 fun E=>aI .i64 a1 fun F=>aP 0 0 a2 (aI .i64 w0_0 fun z=>y5 β L E F z (fun A C D z=>k (V.tup [(V.gs 1 A),(Qe C),(Qe D)]) [(.live true [(Qe z)])]))
 | _,_=>none
theorem zGV(L:Nat)(β:Type)(args:List V)(bor:Bor)(k:KK β)(r:β)(h:znu y5 L β args bor k=some r):zj zqR (zrm yX L) L zyF args bor k=some r:=by
 unfold znu at h
 split at h
 ·have q:=zlA h; clear h; obtain ⟨A,rfl,h⟩:=q
  have q:=zbv h; clear h; obtain ⟨C,rfl,h⟩:=q
  have q:=zkP h; clear h; obtain ⟨rfl,h⟩:=q
  have q:=zbv h; clear h; obtain ⟨z,rfl,h⟩:=q
  exact (zGj yX L A C z k).trans h
 ·cases h
end
end
end Go.Proofs.YtgmhijonllockaaGreatDoor
