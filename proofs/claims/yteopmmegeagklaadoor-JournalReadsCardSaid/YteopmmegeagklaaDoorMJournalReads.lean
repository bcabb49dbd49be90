/- JournalReads: for every input the call returns true, and each argument reads afterwards as it read before. Condition: the package variables lightclient/sha.k and lightclient/sha.initial begin as the program text lays them (the card ties them to the pruned copy of the text); nothing else is asked. -/
import Derived.LaidMore
import Derived.OpenShut
import Derived.MakeChecks
import Derived.LaidLaws
import Derived.Test.YteopmmegeagklaaDoorCards
import Derived.Test.YteopmmegeagklaaDoorTie
import Derived.SevenTiedAt
import Derived.Stop.Joined
import Derived.Test.YteopmmegeagklaaDoorMJournalReads11
namespace Go.Proofs.YteopmmegeagklaaDoor
section
set_option linter.unusedVariables false
set_option linter.unusedSimpArgs false
set_option maxRecDepth 100000
variable {β:Type}
theorem zxE (k:List V→List (List V)→Int→Bool→Option β) :
  lt [(V.sc (.int .i64 (0:Int))),(V.sc (.int .i64 (0:Int))),(V.sl 1 ([]:List (List V)))] (fun r3=>chk (0=0∧(List.length r3)=3∧3≠0) (k r3 ([]:List (List V)) (0:Int) false))=k zRec.v [] 0 false:=by
 rw [xl,yg ⟨rfl,rfl,by decide⟩]; exact Eq.trans rfl rfl
noncomputable def frameK (j:List Int) (a:Nat) (last:List Int) (k:List V→List (List V)→Int→Bool→Option β):Option β:=match nextO j a last with
 | some (r,e,f)=>k r.v (yl .u8 f) (e:Int) true
 | none=>k zRec.v [] 0 false
theorem znP {j:List Int} {a:Nat} {last:List Int} (h:¬ Frm j a last) (k:List V→List (List V)→Int→Bool→Option β):frameK j a last k=k zRec.v [] 0 false:=by
 unfold frameK nextO; rw [if_neg h]
theorem zCG {j:List Int} {a:Nat} {last:List Int} (h:Frm j a last) (k:List V→List (List V)→Int→Bool→Option β):frameK j a last k=k (zkE j a).v (yl .u8 (crc last (slc j a (a+9+zW j a)))) ((a+13+zW j a:Nat):Int) true:=by
 unfold frameK nextO; rw [if_pos h]
theorem zED {L:Nat} (hL:20000≤L) {j last:List Int} (hb:Byt j) (hj:j.length≤1000000) (h4:last.length=4) (hlb:Byt last) {a:Nat} (ha:a≤j.length) (k:List V→List (List V)→Int→Bool→Option β):yv β L (yl .u8 j) (a:Int) (yl .u8 last) k=frameK j a last k:=by
 unfold yv zoa
 rw [zBN (by omega) hb (by omega) ha]
 have l0:=zxo hb a
 have l5:=zxo hb (a+5)
 rcases Classical.em (¬ (a+4≤j.length)) with c1 | c1'
 ·rw [if_neg c1,zce,if_neg (by decide),zxE,znP (fun h=>by have:=h.2.1; omega)]
 have c1:a+4≤j.length:=Classical.not_not.1 c1'
 rw [if_pos c1,zce,if_pos rfl]
 rcases Classical.em (¬ (le4 j a≤4096)) with c2 | c2'
 ·rw [yQ (by omega),zxE,znP (fun h=>c2 h.1)]
 have c2:le4 j a≤4096:=Classical.not_not.1 c2'
 have hN:le4 j a=((zW j a:Nat):Int):=by unfold zW; omega
 have hN2:zW j a≤4096:=by omega
 have w1:IntKind.wrap .i64 (le4 j a)=((zW j a:Nat):Int):=by rw [xz (by omega) (by omega)]; exact hN
 rw [zM (by omega),yx,xz (show -9223372036854775808≤((j.length:Nat):Int) - (a:Int) by omega) (by omega),xl,w1,xl,xz (show -9223372036854775808≤(13:Int)+((zW j a:Nat):Int) by omega) (by omega),xl]
 rcases Classical.em (¬ (a+13+zW j a≤j.length)) with c6 | c6'
 ·rw [yQ (by omega),zxE,znP (fun h=>c6 h.2.1)]
 have c6:a+13+zW j a≤j.length:=Classical.not_not.1 c6'
 have hk:=hb.getD (a+4)
 have w5:IntKind.wrap .i64 (((a+4:Nat):Int)+1)=((a+5:Nat):Int):=by rw [xz (by omega) (by omega)]; omega
 have w2:IntKind.wrap .i64 (((a+5+4:Nat):Int)+((zW j a:Nat):Int))=((a+9+zW j a:Nat):Int):=by rw [xz (by omega) (by omega)]; omega
 have w3:IntKind.wrap .i64 (((a+9+zW j a:Nat):Int)+4)=((a+13+zW j a:Nat):Int):=by rw [xz (by omega) (by omega)]; omega
 rw [zM (by omega),zcc (zuG (by omega)),cI8,xz (show -9223372036854775808≤j.getD (a+4) 0 by omega) (by omega),xl,w5,xl,zBN (by omega) hb (by omega) (by omega),if_pos (by omega),xz (show -9223372036854775808≤le4 j (a+5) by omega) (by omega),xl,xl,w2,xl,yg ⟨by omega,by omega⟩,Int.toNat_natCast,yg ⟨by omega,by omega⟩,Int.toNat_natCast,show a+5+4=a+9 by omega,zm8]
 have hD:(slc j (a+9) (a+9+zW j a)).length=zW j a:=by rw [zrY (by omega) (by omega)]; omega
 rw [yg (by rw [yx,hD]; unfold xj; simp; omega),List.nil_append,xl,xl]
 rw [show (((a+9:Nat):Int)+((zW j a:Nat):Int))=(((a+5+4:Nat):Int)+((zW j a:Nat):Int)) by omega,w2,xl,yg ⟨by omega,by omega⟩,Int.toNat_natCast,yg ⟨by omega,by omega⟩,Int.toNat_natCast,zm8,zBc hL h4 hlb (zBm hb _ _) (by rw [zrY (by omega) (by omega)]; omega),zAl,zqu]
 have eR:(Rec.mk (j.getD (a+4) 0) (le4 j (a+5)) (slc j (a+9) (a+9+zW j a)))=zkE j a:=rfl
 rw [eR]
 cases c7:(zkE j a).okB with
 | false=>rw [Bool.not_false,ziM,zxE,znP (fun h=>by rw [h.2.2.1] at c7; cases c7)]
 | true =>
  rw [Bool.not_true,zb8,w3,xl,yg ⟨by omega,by omega⟩,Int.toNat_natCast,yg ⟨by omega,by omega⟩,zm8,zGE L (zwG _ _) (zBm hb _ _)]
  by_cases c8:slc j (a+9+zW j a) (a+13+zW j a)=crc last (slc j a (a+9+zW j a))
  ·rw [decide_eq_true c8.symm,Bool.not_true,zb8,xl,xl,zyq,zCG ⟨c2,c6,c7,c8⟩]
  ·rw [decide_eq_false (fun h=>c8 h.symm),Bool.not_false,ziM,zxE,znP (fun h=>c8 h.2.2.2)]
noncomputable def scanO:Nat→List Int→Nat→List Int→List Rec→List Rec × Nat × List Int
 | 0,_,a,last,acc=>(acc,a,last)
 | n+1,j,a,last,acc=>match nextO j a last with
  | some (r,e,f)=>scanO n j e f (acc++[r])
  | none=>(acc,a,last)
theorem zoI {j:List Int} {a:Nat} {last:List Int} {r:Rec} {e:Nat} {f:List Int} (h:nextO j a last=some (r,e,f)):a+13≤e∧e≤j.length∧f.length=4∧Byt f∧Frm j a last∧r=zkE j a∧e=a+13+zW j a∧f=crc last (slc j a (a+9+zW j a)):=by
 unfold nextO at h
 split at h
 ·rename_i hF
  cases h
  have:=hF.2.1
  exact ⟨by omega,this,zk8 _ _,zwG _ _,hF,rfl,rfl,rfl⟩
 ·cases h
def zdo (l:List Rec):List (List V):=l.map Rec.v
theorem zvV (l:List Rec) (r:Rec):zdo l++[r.v]=zdo (l++[r]):=by simp [zdo]
theorem zph (l:List Rec):(zdo l).length=l.length:=by simp [zdo]
theorem zyL (r:Rec):zh 3 1 r.v=[r.v]:=by rw [zh,zh,zrS]
theorem zyW {L:Nat} (hL:20000≤L) {j:List Int} (hb:Byt j) (hj:j.length≤1000000) (kr:List (List V)→Int→List V→Option β) (b0 b1 b2 b3:Int):∀ (n a:Nat) (last:List Int) (acc:List Rec),a≤j.length→j.length - a < n→last.length=4→Byt last→acc.length≤a →
  zds yt L kr n (yl .u8 j) (zdo acc) (a:Int) b0 b1 b2 b3 (row .u8 last)=kr (zdo (scanO n j a last acc).1) (((scanO n j a last acc).2.1:Nat):Int) (zr [(V.sc (.int .u8 b0)),(V.sc (.int .u8 b1)),(V.sc (.int .u8 b2)),(V.sc (.int .u8 b3))] 0 (row .u8 (scanO n j a last acc).2.2))
 | 0,a,last,acc,h1,h2,h3,h4,h5=>by omega
 | n+1,a,last,acc,h1,h2,h3,h4,h5=>by
  rw [zds]
  unfold zhG
  rw [zm6 h3,zpa h3,zFN hL hb hj h3 h4 h1]
  unfold nextK
  rw [scanO]
  cases e:nextO j a last with
  | none =>
   show chk ((List.length zRec.v)=3∧0+3≤3) _=_
   have hz:z4.length=4:=rfl
   rw [zjd,zrN,xl,zkg hz,ztY hz,xl,Bool.not_false,ziM,zm6 h3,zkg h3,xl]
  | some x =>
   obtain ⟨r,en,f⟩:=x
   obtain ⟨q1,q2,q3,q4,q5,q6,q7,q8⟩:=zoI e
   show chk ((List.length r.v)=3∧0+3≤3) _=_
   rw [zjd,zrN,xl,zkg q3,ztY q3,xl,Bool.not_true,zb8,zfA,zrS,zjd,zyc,zyL,yg (by rw [zph]; unfold xj; simp; omega),zvV,xl,zm6 q3,zpa q3,yg ⟨by rw [xw,q3],by rw [xw,h3]; omega⟩,zbO (by rw [xw,xw,q3,h3]),xl]
   exact zyW hL hb hj kr b0 b1 b2 b3 n en f (acc++[r]) q2 (by omega) q3 q4 (by simp; omega)
theorem zAz (j:List Int) (hb:Byt j):∀ (n a:Nat) (last:List Int) (acc:List Rec),a≤j.length→last.length=4→Byt last→(scanO n j a last acc).2.1≤j.length∧(scanO n j a last acc).2.2.length=4∧Byt (scanO n j a last acc).2.2
 | 0,a,last,acc,h1,h2,h3=>⟨h1,h2,h3⟩
 | n+1,a,last,acc,h1,h2,h3=>by
  rw [scanO]
  cases e:nextO j a last with
  | none=>exact ⟨h1,h2,h3⟩
  | some x =>
   obtain ⟨r,en,f⟩:=x
   obtain ⟨q1,q2,q3,q4,_⟩:=zoI e
   exact zAz j hb n en f (acc++[r]) q2 q3 q4
theorem zAE:z4.length=4:=rfl
theorem zCM:Byt z4:=by intro x hx; simp [z4] at hx; omega
noncomputable def scn (L:Nat) (j:List Int):List Rec × Nat × List Int:=scanO L j 0 z4 []
theorem zpW (L:Nat) {j:List Int} (hb:Byt j):(scn L j).2.1≤j.length∧(scn L j).2.2.length=4∧Byt (scn L j).2.2:=zAz j hb L 0 z4 [] (by omega) zAE zCM
theorem zyh {L:Nat} (hL:20000≤L) {j:List Int} (hb:Byt j) (hj:j.length≤10000) (k:List (List V)→Int→List V→Option β):xu β L (yl .u8 j) k=k (zdo (scn L j).1) (((scn L j).2.1:Nat):Int) (row .u8 (scn L j).2.2):=by
 have h:=zpW L hb
 unfold xu zjn zm9
 refine (zyW hL hb (by omega) _ 0 0 0 0 L 0 z4 [] (by omega) (by omega) zAE zCM (by simp)).trans ?_
 show zdK yt L _ _ (zr _ 0 (row .u8 (scn L j).2.2)) k=_
 unfold zdK
 rw [ztY h.2.1,zyI h.2.1]
 rfl
theorem zyY {L:Nat} (hL:20000≤L) {j:List Int} (hb:Byt j) (hj:j.length≤1000000) (kr:List (List V)→Int→List (List V)→Option β):∀ (n a:Nat) (last:List Int) (acc:List Rec),a≤j.length→j.length - a < n→last.length=4→Byt last→acc.length≤a →
  zeE yv L kr n (yl .u8 j) (zdo acc) (yl .u8 last) (a:Int)=kr (zdo (scanO n j a last acc).1) (((scanO n j a last acc).2.1:Nat):Int) (yl .u8 (scanO n j a last acc).2.2)
 | 0,a,last,acc,h1,h2,h3,h4,h5=>by omega
 | n+1,a,last,acc,h1,h2,h3,h4,h5=>by
  rw [zeE]
  unfold zj2
  rw [zED hL hb hj h3 h4 h1]
  unfold frameK
  rw [scanO]
  cases e:nextO j a last with
  | none =>
   show chk ((List.length zRec.v)=3∧0+3≤3) _=_
   rw [zjd,zrN,xl,Bool.not_false,ziM]
  | some x =>
   obtain ⟨r,en,f⟩:=x
   obtain ⟨q1,q2,q3,q4,q5,q6,q7,q8⟩:=zoI e
   show chk ((List.length r.v)=3∧0+3≤3) _=_
   rw [zjd,zrN,xl,Bool.not_true,zb8,zfA,zrS,zjd,zyc,zyL,yg (by rw [zph]; unfold xj; simp; omega),zvV,xl]
   exact zyY hL hb hj kr n en f (acc++[r]) q2 (by omega) q3 q4 (by simp; omega)
theorem zwm {L:Nat} (hL:20000≤L) {j:List Int} (hb:Byt j) (hj:j.length≤10000) (k:List (List V)→Int→List (List V)→Option β):xy β L (yl .u8 j) k=k (zdo (scn L j).1) (((scn L j).2.1:Nat):Int) (yl .u8 (scn L j).2.2):=by
 unfold xy zlx zpX
 have e:zh 1 4 [(V.sc (.int .u8 (0:Int))),(V.sc (.int .u8 (0:Int))),(V.sc (.int .u8 (0:Int))),(V.sc (.int .u8 (0:Int)))]=yl .u8 z4:=rfl
 rw [e]
 refine (zyY hL hb (by omega) _ L 0 z4 [] (by omega) (by omega) zAE zCM (by simp)).trans ?_
 rfl
theorem zsf {L:Nat} (hL:20000≤L) {j:List Int} (hb:Byt j) (hj:j.length≤10000) (k:List (List V)→Int→Option β):yb β L (yl .u8 j) k=k (zdo (scn L j).1) (((scn L j).2.1:Nat):Int):=by
 have h:=zpW L hb
 unfold yb znd
 rw [zyh hL hb hj,zkg h.2.1,xl]
theorem zzt {L:Nat} (hL:20000≤L) {j:List Int} (hb:Byt j) (hj:j.length≤10000) (k:List (List V)→Option β):zb β L (yl .u8 j) k=k (yl .u8 (j.take (scn L j).2.1)):=by
 have h:=zpW L hb
 unfold zb zk1
 rw [zyh hL hb hj,zkg h.2.1,xl,yg ⟨by omega,by rw [yx]; omega⟩,Int.toNat_natCast,List.drop_zero,Nat.sub_zero,zd5,zDB L _ (by rw [List.length_take]; omega)]
def xT (r:Rec):List Int:=zkR ((r.d.length:Nat):Int)++[IntKind.wrap .u8 r.kd]++zkR r.ht++r.d
theorem ze9 (r:Rec):(xT r).length=9+r.d.length:=by simp [xT,ziy]; omega
theorem zuN {r:Rec} (h:Byt r.d):Byt (xT r):=by
 unfold xT
 refine Byt.app (Byt.app (Byt.app (zCg _) ?_) (zCg _)) h
 intro x hx
 rw [List.mem_singleton] at hx; subst hx; exact zsJ _
noncomputable def appK (L:Nat) (j:List Int) (r:Rec) (k:List (List V)→Int→Option β):Option β :=
 if r.okB=true then (if (scn L j).2.1+13+r.d.length≤1048576 then k (yl .u8 (j.take (scn L j).2.1++xT r++crc (scn L j).2.2 (xT r))) 0 else k [] 4) else k [] 6
theorem zEK (n:Int):zh 1 1 [V.sc (.int .u8 n)]=yl .u8 [n]:=rfl
theorem zru {r:Rec} (h:r.okB=true):r.d.length≤4096∧1≤r.kd∧r.kd≤5∧0≤r.ht∧r.ht≤16777216:=by
 unfold Rec.okB at h
 simp only [Bool.and_eq_true,decide_eq_true_eq] at h
 omega
theorem zDC {L:Nat} (hL:20000≤L) {j:List Int} (hb:Byt j) (hj:j.length≤10000) {r:Rec} (hr:Byt r.d) (k:List (List V)→Int→Option β):zd β L (yl .u8 j) r.v k=appK L j r k:=by
 have h:=zpW L hb
 unfold zd zkK appK
 rw [zfA,zrr,zsp]
 cases c1:r.okB with
 | false=>rw [Bool.not_false,ziM,if_neg (by decide)]
 | true =>
  have hl:=zru c1
  have w1:IntKind.wrap .i64 ((((scn L j).2.1:Nat):Int)+9)=(((scn L j).2.1+9:Nat):Int):=by rw [xz (by omega) (by omega)]; omega
  have w2:IntKind.wrap .i64 ((((scn L j).2.1+9:Nat):Int)+((r.d.length:Nat):Int))=(((scn L j).2.1+9+r.d.length:Nat):Int):=by rw [xz (by omega) (by omega)]; omega
  have w3:IntKind.wrap .i64 ((((scn L j).2.1+9+r.d.length:Nat):Int)+4)=(((scn L j).2.1+13+r.d.length:Nat):Int):=by rw [xz (by omega) (by omega)]; omega
  rw [Bool.not_true,zb8,if_pos rfl,zyh hL hb hj,zkg h.2.1,ztY h.2.1,xl,w1,xl,zoO,yx,w2,xl,w3,xl]
  by_cases c2:(scn L j).2.1+13+r.d.length≤1048576
  ·rw [zM (by omega),if_pos c2,zoO,yx,zdw (by omega) (by omega),xl,zvS .u8,zE7 (by omega) (by simp),List.nil_append,zqz,xl,zEK,yx,yx,yg (zpl (by simp [ziy])),zcS,xl,zuB,zdw (by omega) (by omega),xl,zE7 (by omega) (by simp [ziy]),zoO,yx,yx,yg (zpl (by simp [ziy]; omega)),zcS,xl,zm6 h.2.1,zpa h.2.1]
   have eE:zkR ((r.d.length:Nat):Int)++[IntKind.wrap .u8 r.kd]++zkR r.ht++r.d=xT r:=rfl
   have hc:=zk8 (scn L j).2.2 (xT r)
   have hT:(j.take (scn L j).2.1).length=(scn L j).2.1:=by rw [List.length_take]; omega
   obtain ⟨q0,t0,er⟩:=zyN (row .u8 (crc (scn L j).2.2 (xT r))) (by rw [xw,hc]; decide)
   rw [eE,zAd hL h.2.1 h.2.2 (zuN hr) (by rw [ze9]; omega),zkg hc,ztY hc,xl,er,zv4,← er,yg ⟨by omega,by rw [yx]; omega⟩,yg (by rw [xw,hc]; decide),Int.toNat_natCast,Nat.sub_zero,List.drop_zero,zd5,zyz (by omega),List.take_of_length_le (show (crc (scn L j).2.2 (xT r)).length≤4 by omega),zE9,zzr (by omega) _ (by simp) (by rw [zF9,ze9,hc,hT]; omega),zE4]
  ·rw [yQ (by omega),if_neg c2]
theorem zCS {L:Nat} (hL:20000≤L) {j:List Int} (hb:Byt j) (hj:j.length≤10000) {r:Rec} (hr:Byt r.d) (k:List (List V)→Int→Option β):zi β L (yl .u8 j) r.v k=appK L j r k:=by
 have h:=zpW L hb
 unfold zi zne appK
 rw [zfA,zrr,zqu]
 cases c1:r.okB with
 | false=>rw [Bool.not_false,ziM,if_neg (by decide)]
 | true =>
  have hl:=zru c1
  have w1:IntKind.wrap .i64 ((((scn L j).2.1:Nat):Int)+13)=(((scn L j).2.1+13:Nat):Int):=by rw [xz (by omega) (by omega)]; omega
  have w2:IntKind.wrap .i64 ((((scn L j).2.1+13:Nat):Int)+((r.d.length:Nat):Int))=(((scn L j).2.1+13+r.d.length:Nat):Int):=by rw [xz (by omega) (by omega)]; omega
  rw [Bool.not_true,zb8,if_pos rfl,zwm hL hb hj,w1,xl,zoO,yx,w2,xl]
  by_cases c2:(scn L j).2.1+13+r.d.length≤1048576
  ·rw [zM (by omega),if_pos c2,zoO,yx,zdw (by omega) (by omega),xl,zvS .u8,zDg (by omega) (by simp),List.nil_append,zqz,xl,zEK,yx,yx,yg (zpl (by simp [ziy])),zcS,xl,zuB,zdw (by omega) (by omega),xl,zDg (by omega) (by simp [ziy]),zoO,zwC,zry (by omega) _ (by simp) (by rw [zAN]; simp [ziy]; omega),zxR]
   have eE:zkR ((r.d.length:Nat):Int)++[IntKind.wrap .u8 r.kd]++zkR r.ht++r.d=xT r:=rfl
   have hc:=zk8 (scn L j).2.2 (xT r)
   have hT:(j.take (scn L j).2.1).length=(scn L j).2.1:=by rw [List.length_take]; omega
   rw [eE,yg ⟨by omega,by rw [yx]; omega⟩,zBc hL h.2.1 h.2.2 (zuN hr) (by rw [ze9]; omega),Int.toNat_natCast,Nat.sub_zero,List.drop_zero,zd5,zE9,zry (by omega) _ (by simp) (by rw [zF9,ze9,hc,hT]; omega),zE4]
  ·rw [yQ (by omega),if_neg c2]
end
section
set_option linter.unusedVariables false
set_option linter.unusedSimpArgs false
set_option maxRecDepth 100000
variable {β:Type}
theorem zxB (n:Int) (h0:0≤n) (h1:n≤4294967295) (i:Nat) (hi:i < 4):IntKind.wrap .u8 (zco .u64 n (8 * (i:Int)))=n / (256 ^ i:Nat) % 256:=by
 rw [ztI]
 unfold zco
 have e:min (8 * (i:Int)).toNat (IntKind.bits .u64)=8 * i:=by
  show min (8 * (i:Int)).toNat 64=8 * i
  omega
 rw [e]
 have e2:(2:Int) ^ (8 * i)=((256 ^ i:Nat):Int):=by
  rw [Int.pow_mul,Int.natCast_pow]; rfl
 rw [e2,Int.fdiv_eq_ediv_of_nonneg _ (Int.natCast_nonneg _)]
theorem zB4 {n:Int} (h0:0≤n) (h1:n≤4294967295):zkR n=[n % 256,n / 256 % 256,n / 65536 % 256,n / 16777216 % 256]:=by
 have q0:=zxB n h0 h1 0 (by omega)
 have q1:=zxB n h0 h1 1 (by omega)
 have q2:=zxB n h0 h1 2 (by omega)
 have q3:=zxB n h0 h1 3 (by omega)
 have e:zkR n=[IntKind.wrap .u8 (zco .u64 n (8 * ((0:Nat):Int))),IntKind.wrap .u8 (zco .u64 n (8 * ((1:Nat):Int))),IntKind.wrap .u8 (zco .u64 n (8 * ((2:Nat):Int))),IntKind.wrap .u8 (zco .u64 n (8 * ((3:Nat):Int)))]:=by
  unfold zkR; rw [zdx h0 (by omega)]; rfl
 rw [e,q0,q1,q2,q3]
 simp
def hd9 (r:Rec):List Int:=zkR ((r.d.length:Nat):Int)++[IntKind.wrap .u8 r.kd]++zkR r.ht
theorem zCb (r:Rec):xT r=hd9 r++r.d:=rfl
theorem zFn (r:Rec):(hd9 r).length=9:=by simp [hd9,ziy]
theorem zGn {r:Rec} (h:r.okB=true):hd9 r=[((r.d.length:Nat):Int) % 256,((r.d.length:Nat):Int) / 256 % 256,((r.d.length:Nat):Int) / 65536 % 256,((r.d.length:Nat):Int) / 16777216 % 256,r.kd,r.ht % 256,r.ht / 256 % 256,r.ht / 65536 % 256,r.ht / 16777216 % 256]:=by
 have hl:=zru h
 unfold hd9
 rw [zB4 (by omega) (by omega),zB4 (by omega) (by omega),zFQ (by omega) (by omega)]
 rfl
theorem zpw (pre X:List Int) (i:Nat):(pre++X).getD (pre.length+i) 0=X.getD i 0:=by
 simp [List.getD_eq_getElem?_getD,List.getElem?_append_right]
theorem zCi (pre X:List Int) (i:Nat):le4 (pre++X) (pre.length+i)=le4 X i:=by
 unfold le4
 rw [Nat.add_assoc,Nat.add_assoc,Nat.add_assoc,zpw,zpw,zpw,zpw]
theorem zx5 (pre X:List Int) (a b:Nat):slc (pre++X) (pre.length+a) (pre.length+b)=slc X a b:=by
 unfold slc
 rw [List.drop_append,show pre.length+b - (pre.length+a)=b - a by omega]
 have e1:List.drop (pre.length+a) pre=[]:=List.drop_of_length_le (by omega)
 rw [e1,List.nil_append,Nat.add_sub_cancel_left]
theorem zEF {r:Rec} (h:r.okB=true) (T:List Int):le4 (xT r++T) 0=((r.d.length:Nat):Int)∧(xT r++T).getD 4 0=r.kd∧le4 (xT r++T) 5=r.ht∧slc (xT r++T) 9 (9+r.d.length)=r.d∧slc (xT r++T) 0 (9+r.d.length)=xT r:=by
 have hl:=zru h
 have e:xT r++T=[((r.d.length:Nat):Int) % 256,((r.d.length:Nat):Int) / 256 % 256,((r.d.length:Nat):Int) / 65536 % 256,((r.d.length:Nat):Int) / 16777216 % 256,r.kd,r.ht % 256,r.ht / 256 % 256,r.ht / 65536 % 256,r.ht / 16777216 % 256]++(r.d++T):=by
  rw [zCb,zGn h,List.append_assoc]
 refine ⟨?_,?_,?_,?_,?_⟩
 ·rw [e]; unfold le4; simp only [List.cons_append,List.getD_cons_zero,List.getD_cons_succ]; omega
 ·rw [e]; rfl
 ·rw [e]
  unfold le4
  show r.ht % 256+256 * (r.ht / 256 % 256)+65536 * (r.ht / 65536 % 256)+16777216 * (r.ht / 16777216 % 256)=r.ht
  omega
 ·unfold slc
  have e9:List.drop 9 (xT r++T)=r.d++T:=by
   rw [zCb,List.append_assoc]
   have:=List.drop_left' (l₁:=hd9 r) (l₂:=r.d++T) (zFn r)
   exact this
  rw [e9,Nat.add_sub_cancel_left,List.take_append_of_le_length (Nat.le_refl _),List.take_length]
 ·unfold slc
  rw [List.drop_zero,Nat.sub_zero,List.take_append_of_le_length (by rw [ze9]; omega),List.take_of_length_le (by rw [ze9]; omega)]
theorem zET {pre rest last:List Int} {r:Rec} (h:r.okB=true):nextO (pre++(xT r++(crc last (xT r)++rest))) pre.length last=some (r,pre.length+13+r.d.length,crc last (xT r)):=by
 obtain ⟨v0,v1,v2,v3,v4⟩:=zEF h (crc last (xT r)++rest)
 have hl:=zru h
 have hc:=zk8 last (xT r)
 have p0:=zCi pre (xT r++(crc last (xT r)++rest)) 0
 have p5:=zCi pre (xT r++(crc last (xT r)++rest)) 5
 have p4:=zpw pre (xT r++(crc last (xT r)++rest)) 4
 rw [Nat.add_zero] at p0
 have ef:zW (pre++(xT r++(crc last (xT r)++rest))) pre.length=r.d.length:=by
  unfold zW; rw [p0,v0,Int.toNat_natCast]
 have er:zkE (pre++(xT r++(crc last (xT r)++rest))) pre.length=r:=by
  unfold zkE
  rw [ef,p4,v1,p5,v2,show pre.length+9+r.d.length=pre.length+(9+r.d.length) by omega,zx5,v3]
 have s1:slc (pre++(xT r++(crc last (xT r)++rest))) pre.length (pre.length+9+r.d.length)=xT r:=by
  have:=zx5 pre (xT r++(crc last (xT r)++rest)) 0 (9+r.d.length)
  rw [Nat.add_zero] at this
  rw [show pre.length+9+r.d.length=pre.length+(9+r.d.length) by omega,this,v4]
 have s2:slc (pre++(xT r++(crc last (xT r)++rest))) (pre.length+9+r.d.length) (pre.length+13+r.d.length)=crc last (xT r):=by
  rw [show pre.length+9+r.d.length=pre.length+(9+r.d.length) by omega,show pre.length+13+r.d.length=pre.length+(13+r.d.length) by omega,zx5]
  unfold slc
  rw [← ze9 r,List.drop_left,ze9,show 13+r.d.length - (9+r.d.length)=4 by omega,← hc,List.take_left]
 unfold nextO
 rw [if_pos ⟨by rw [p0,v0]; omega,by rw [ef]; simp only [List.length_append,ze9,hc]; omega,by rw [er]; exact h,by rw [ef,s1,s2]⟩,ef,er,s1]
theorem zsm {j last:List Int} {a:Nat} (h:j.length < a+13):nextO j a last=none:=by
 unfold nextO
 rw [if_neg (fun q=>by have:=q.2.1; omega)]
theorem zsv {j last:List Int} {a n:Nat} (acc:List Rec) (h:nextO j a last=none):scanO n j a last acc=(acc,a,last):=by
 cases n with
 | zero=>rfl
 | succ n=>rw [scanO,h]
theorem zC3 {j last f:List Int} {a n e:Nat} {r:Rec} (acc:List Rec) (h:nextO j a last=some (r,e,f)):scanO (n+1) j a last acc=scanO n j e f (acc++[r]):=by rw [scanO,h]
def rS:Rec:=⟨4,0,[]⟩
theorem zFe:rS.okB=true:=by decide
theorem zGq {L:Nat} (hL:20000≤L) (k:Bool→Option β):xb β L k=k true:=by
 obtain ⟨m,rfl⟩:∃ m,L=m+1:=⟨L - 1,by omega⟩
 unfold xb zpp
 have e0:scn (m+1) []=([],0,z4):=zsv _ (zsm (by simp))
 have hb0:Byt rS.d:=Byt.nil
 have er:[(V.sc (.int .i64 (4:Int))),(V.sc (.int .i64 (0:Int))),(V.sl 1 ([]:List (List V)))]=rS.v:=rfl
 have eA:∀ k':List (List V)→Int→Option β,appK (m+1) [] rS k'=k' (yl .u8 (xT rS++crc z4 (xT rS))) 0:=by
  intro k'
  unfold appK
  rw [if_pos zFe,e0]
  exact (if_pos (by decide)).trans rfl
 rw [er,zvS .u8,zDC hL Byt.nil (by simp) hb0,eA]
 have hlen:(xT rS++crc z4 (xT rS)).length=13:=by rw [List.length_append,ze9,zk8]; rfl
 have hby:Byt (xT rS++crc z4 (xT rS)):=(zuN hb0).app (zwG _ _)
 have e1:scn (m+1) (xT rS++crc z4 (xT rS))=([rS],13,crc z4 (xT rS)):=by
  have:=zET (pre:=[]) (rest:=[]) (last:=z4) zFe
  rw [List.nil_append,List.append_nil] at this
  unfold scn
  rw [show ([]:List Int).length=0 from rfl] at this
  rw [zC3 [] this]
  exact zsv _ (zsm (by rw [hlen]; decide))
 have e2:scn (m+1) ((xT rS++crc z4 (xT rS)).take 12)=([],0,z4):=zsv _ (zsm (by rw [List.length_take,hlen]; decide))
 rw [zsf hL hby (by omega),e1,yx,hlen]
 have ei:zGk (12:Int) ((13:Nat):Int)=((12:Nat):Int):=by decide
 rw [ei,xl,yg (by decide),Int.toNat_natCast,Nat.sub_zero,List.drop_zero,zd5,zsf hL (hby.take 12) (by rw [List.length_take]; omega),e2]
 rfl
theorem zwN (L:Nat) (v n:Int) (hn:1≤n) (hn2:n≤1000000000000):∃ r,0≤r∧r < n∧∀ (β:Type) (k:Int→Option β),zc β L v n k=k r:=by
 by_cases h:Int.tmod v n < 0
 ·have h1:=Int.lt_tmod_of_pos v (show 0 < n by omega)
  refine ⟨Int.tmod v n+n,by omega,by omega,fun β k=>?_⟩
  simp only [zc,zoT,xl]
  rw [yg (by omega),yQ h,xz (by omega) (by omega)]
 ·have h1:=Int.tmod_lt_of_pos v (show 0 < n by omega)
  refine ⟨Int.tmod v n,by omega,h1,fun β k=>?_⟩
  simp only [zc,zoT,xl]
  rw [yg (by omega),zM h]
structure Dk where
 l:List Int
 a:Int
 h0:0≤a
 h1:a≤l.length
 hl:l.length≤9223372036854775807
def Dk.es (d:Dk):List (List V):=yl .i64 d.l
theorem zrM (L:Nat) (d:Dk) (n:Int) (hn:1≤n) (hn2:n≤1000000000000):∃ (r:Int) (d':Dk),0≤r∧r < n∧∀ (β:Type) (k:Int→List (List V)→Int→Option β),ya β L n d.es d.a k=k r d'.es d'.a:=by
 obtain ⟨l,a,h0,h1,hl⟩:=d
 simp only [Dk.es]
 by_cases h:a < l.length
 ·obtain ⟨i,rfl⟩:∃ i:Nat,a=i:=⟨a.toNat,by omega⟩
  have hi:i < l.length:=by omega
  obtain ⟨r,q1,q2,q3⟩:=zwN L l[i] n hn hn2
  refine ⟨r,⟨l,i+1,by omega,by omega,hl⟩,q1,q2,fun β k=>?_⟩
  simp only [ya,zg2,yO,zg7,xl,yx]
  have w1:IntKind.wrap .i64 ((i:Int)+1)=(i:Int)+1:=xz (by omega) (by omega)
  have w2:IntKind.wrap .i64 ((i:Int)+1 - 1)=(i:Int):=by rw [xz (by omega) (by omega)]; omega
  rw [zAj,if_pos (by omega),w1,w2,zcc (zA6 _ hi),zpc (by rfl),q3]
 ·refine ⟨0,⟨l,a,h0,h1,hl⟩,by omega,by omega,fun β k=>?_⟩
  simp only [ya,zg2,yO,zg7,xl,yx]
  rw [zAj,if_neg (by omega)]
theorem zEO (L:Nat) (d:Dk):∃ (r:Int) (d':Dk),1≤r∧r≤5∧∀ (β:Type) (k:Int→List (List V)→Int→Option β),yn β L 1 5 d.es d.a k=k r d'.es d'.a:=by
 obtain ⟨x,d',h0,h1,q⟩:=zrM L d 5 (by decide) (by decide)
 refine ⟨1+x,d',by omega,by omega,fun β k=>?_⟩
 unfold yn zj3
 have w1:IntKind.wrap .i64 ((5:Int) - 1)=4:=by decide
 have w2:IntKind.wrap .i64 ((4:Int)+1)=5:=by decide
 rw [w1,xl,w2,xl,q,xz (by omega) (by omega),xl]
theorem zAT (L:Nat):∀ (n m:Nat) (d:Dk) (l:List Int),m < n→l.length+m≤20→Byt l→∃ (l':List Int) (d':Dk),l'.length≤l.length+m∧Byt l'∧∀ (β:Type) (kx:zlL β) (b30 b31:Int) (b32:List (List V)) (b40 b41:Int),
  zcE yn ya L kx n (m:Int) d.es d.a b30 b31 b32 b40 b41 (yl .u8 l)=kx d'.es d'.a b30 b31 b32 b40 b41 (yl .u8 l')
 | 0,m,d,l,h,_,_=>by omega
 | n+1,0,d,l,h,hm,hb=>by
  refine ⟨l,d,by omega,hb,fun β kx b30 b31 b32 b40 b41=>?_⟩
  rw [zcE]
  unfold zfO
  rw [zM (by omega)]
 | n+1,m+1,d,l,h,hm,hb=>by
  obtain ⟨x,d1,_,_,q⟩:=zrM L d 256 (by decide) (by decide)
  obtain ⟨l',d',e1,e2,e3⟩:=zAT L n m d1 (l++[IntKind.wrap .u8 x]) (by omega) (by simp; omega) (hb.app (by intro y hy; rw [List.mem_singleton] at hy; subst hy; exact zsJ _))
  refine ⟨l',d',by simp at e1; omega,e2,fun β kx b30 b31 b32 b40 b41=>?_⟩
  rw [zcE]
  unfold zfO
  rw [yQ (by omega),q,xl,zEK,yx,yx,yg (zpl (by simp; omega)),zcS,xl,show IntKind.wrap .i64 (((m+1:Nat):Int) - 1)=(m:Int) by rw [xz (by omega) (by omega)]; omega,xl]
  exact e3 β kx b30 b31 b32 b40 b41
structure Rec.Small (r:Rec):Prop where
 ok:r.okB=true
 len:r.d.length≤11
 by8:Byt r.d
theorem zDV {L:Nat} (hL:100≤L) (d:Dk):∃ (r:Rec) (d':Dk),r.Small∧∀ (β:Type) (k:List V→List (List V)→Int→Option β),xc β L d.es d.a k=k r.v d'.es d'.a:=by
 obtain ⟨x1,d1,h1,h2,y1⟩:=zEO L d
 obtain ⟨x2,d2,h3,h4,y2⟩:=zrM L d1 9 (by decide) (by decide)
 obtain ⟨x3,d3,h5,h6,y3⟩:=zrM L d2 12 (by decide) (by decide)
 obtain ⟨m,rfl⟩:∃ m:Nat,x3=m:=⟨x3.toNat,by omega⟩
 obtain ⟨l,d4,e1,e2,e3⟩:=zAT L L m d3 [] (by omega) (by simp; omega) Byt.nil
 simp only [List.length_nil,Nat.zero_add] at e1
 refine ⟨⟨x1,x2,l⟩,d4,⟨by unfold Rec.okB; simp only [Bool.and_eq_true,decide_eq_true_eq]; omega,by show l.length≤11; omega,e2⟩,fun β k=>?_⟩
 unfold xc zkF zn6
 rw [y1,y2,y3]
 refine (e3 β _ _ _ _ _ _).trans ?_
 unfold zha
 rw [zAl,xl,zyq]
end
section
set_option linter.unusedVariables false
set_option linter.unusedSimpArgs false
set_option maxRecDepth 100000
variable {β:Type}
theorem zFF (L:Nat) {j:List Int} (hb:Byt j) {r:Rec} (hr:Byt r.d):∃ (l:List Int) (e:Int),Byt l∧l.length≤j.length+13+r.d.length∧∀ (β:Type) (k:List (List V)→Int→Option β),appK L j r k=k (yl .u8 l) e:=by
 have h:=zpW L hb
 by_cases c1:r.okB=true
 ·by_cases c2:(scn L j).2.1+13+r.d.length≤1048576
  ·refine ⟨_,0,?_,?_,fun β k=>by unfold appK; rw [if_pos c1,if_pos c2]⟩
   ·exact ((hb.take _).app (zuN hr)).app (zwG _ _)
   ·simp only [List.length_append,List.length_take,ze9,zk8]; omega
  ·exact ⟨[],4,Byt.nil,by simp,fun β k=>by unfold appK; rw [if_pos c1,if_neg c2]; rfl⟩
 ·exact ⟨[],6,Byt.nil,by simp,fun β k=>by unfold appK; rw [if_neg c1]; rfl⟩
theorem zF2 (L:Nat) (es:List (List V)) (k:List (List V)→Int→Option β):yf β L es k=k es 0:=by
 unfold yf zsu; exact Eq.trans rfl rfl
theorem zGH (x:Int):zh 1 1 [V.sc (.int .i64 x)]=yl .i64 [x]:=rfl
theorem zwM {L:Nat} (hL:20000≤L):∀ (n m:Nat) (d:Dk) (j:List Int) (rs:List Rec) (en:List Int),m < n→j.length+24 * m≤1000→Byt j→rs.length+m≤100→en.length+m≤100→∃ (j':List Int) (rs':List Rec) (en':List Int) (d':Dk),j'.length≤j.length+24 * m∧Byt j'∧∀ (β:Type) (kx:zlr β),
  zbE yf ya xc zi L kx n (yl .u8 j) (zdo rs) (yl .i64 en) (m:Int) d.es d.a=kx (yl .u8 j') (zdo rs') (yl .i64 en') d'.es d'.a
 | 0,m,d,j,rs,en,h,_,_,_,_=>by omega
 | n+1,0,d,j,rs,en,h,hm,hb,_,_=>by
  refine ⟨j,rs,en,d,by omega,hb,fun β kx=>?_⟩
  rw [zbE]
  unfold zd8
  rw [zM (by omega)]
 | n+1,m+1,d,j,rs,en,h,hm,hb,hr,he=>by
  obtain ⟨r,d1,hs,q1⟩:=zDV (L:=L) (by omega) d
  obtain ⟨l,e,g1,g2,g3⟩:=zFF L hb hs.by8
  have hlen:=hs.len
  obtain ⟨j',rs',en',d',e1,e2,e3⟩:=zwM hL n m d1 l (rs++[r]) (en++[((l.length:Nat):Int)]) (by omega) (by omega) g1 (by simp; omega) (by simp; omega)
  refine ⟨j',rs',en',d',by omega,e2,fun β kx=>?_⟩
  rw [zbE]
  unfold zd8
  rw [yQ (by omega),q1,zjd,zrN,xl,zfA,zrr,zCS hL hb (by omega) hs.by8,g3,zfA,zrS,zjd,zyc,zyL,yg (by rw [zph]; unfold xj; simp; omega),zvV,xl,show (yl .u8 l).length=l.length from yx _ _,zGH,yg (by rw [yx,yx]; unfold xj; simp; omega),zcS,xl,show IntKind.wrap .i64 (((m+1:Nat):Int) - 1)=(m:Int) by rw [xz (by omega) (by omega)]; omega,xl]
  exact e3 β kx
theorem zE0 {L:Nat} (hL:20000≤L) (d:Dk) (hd:d.a=0):∃ (j:List Int) (rs:List Rec) (en:List Int),j.length≤200∧Byt j∧∀ (β:Type) (k:List (List V)→List (List V)→List (List V)→Option β),xe β L d.es k=k (yl .u8 j) (zdo rs) (yl .i64 en):=by
 obtain ⟨x,d1,h0,h1,q1⟩:=zrM L d 7 (by decide) (by decide)
 obtain ⟨m,rfl⟩:∃ m:Nat,x=m:=⟨x.toNat,by omega⟩
 obtain ⟨j,rs,en,d2,e1,e2,e3⟩:=zwM hL L m d1 [] [] [] (by omega) (by simp; omega) Byt.nil (by simp; omega) (by simp; omega)
 refine ⟨j,rs,en,by simp at e1; omega,e2,fun β k=>?_⟩
 unfold xe zku zor
 have q:=q1 β
 rw [hd] at q
 rw [zF2,q]
 refine (e3 β _).trans ?_
 rfl
def z9:List V:=[(V.sc (.int .i64 (0:Int))),(V.sc (.int .i64 (0:Int))),(V.sl 1 ([]:List (List V))),(V.sc (.int .i64 (0:Int))),(V.sc (.int .i64 (0:Int))),(V.sl 1 ([]:List (List V))),(V.sc (.int .i64 (0:Int))),(V.sc (.int .i64 (0:Int))),(V.sl 1 ([]:List (List V)))]
theorem zGl {a:List V} (h:HasRow (List.replicate 2 (.int .i64)++[.sl ([.int .u8])]) a):∃ r:Rec,a=r.v∧Byt r.d:=by
 obtain ⟨hl,hc⟩:=h
 match a,hl with
 | [x,y,z],_ =>
  obtain ⟨n,rfl,_⟩:=(hc 0 x (.int .i64) rfl rfl).int_inv
  obtain ⟨m,rfl,_⟩:=(hc 1 y (.int .i64) rfl rfl).int_inv
  obtain ⟨es,rfl,_,he⟩:=(hc 2 z (.sl [.int .u8]) rfl rfl).sl_inv
  obtain ⟨l,rfl,hw⟩:=zuC he
  exact ⟨⟨n,m,l⟩,rfl,zDd hw⟩
theorem zGs {l:List Int} (hl:l.length≤maxLen):∃ d:Dk,d.es=yl .i64 l∧d.a=0:=⟨⟨l,0,by omega,by omega,by unfold maxLen at hl; omega⟩,rfl,rfl⟩
end
section
set_option linter.unusedVariables false
set_option linter.unusedSimpArgs false
set_option maxRecDepth 100000
variable {β:Type}
def fr1 (last:List Int) (r:Rec):List Int:=xT r++crc last (xT r)
def zGY:List Int→List Rec→List Int
 | _,[]=>[]
 | last,r::rs=>fr1 last r++zGY (crc last (xT r)) rs
def zGu:List Int→List Rec→List Int
 | last,[]=>last
 | last,r::rs=>zGu (crc last (xT r)) rs
def AllOk (rs:List Rec):Prop:=∀ r ∈ rs,r.Small
theorem AllOk.tail {r:Rec} {rs:List Rec} (h:AllOk (r::rs)):AllOk rs:=fun x hx=>h x (List.mem_cons_of_mem _ hx)
theorem AllOk.take {rs:List Rec} (h:AllOk rs) (n:Nat):AllOk (rs.take n):=fun x hx=>h x (List.mem_of_mem_take hx)
theorem AllOk.app {rs ts:List Rec} (h:AllOk rs) (g:AllOk ts):AllOk (rs++ts):=fun x hx=>(List.mem_append.1 hx).elim (h x) (g x)
theorem zr0 {l:List Rec} {i:Nat} (h:i < l.length):(zdo l)[i]?=some l[i].v:=by simp [zdo,h]
theorem zE3 (r:Rec) (k:Int→Option β):cI .i64 (List.drop 1 r.v) 0 k=k r.ht:=zpc rfl k
theorem zDb (r:Rec) (k:List (List V)→Option β):cL 1 (List.drop 2 r.v) 0 k=k (yl .u8 r.d):=zo9 rfl k
theorem zvL (L:Nat) (l:List Rec) (hl:l.length≤100000) (kr:Bool→Option β) (kx:Option β):∀ (n i:Nat),i≤l.length→l.length - i < n →
  zey za L kr kx n (zdo l) (zdo l) (i:Int)=kx
 | 0,i,h1,h2=>by omega
 | n+1,i,h1,h2=>by
  rw [zey]
  unfold zj6
  by_cases hi:i < l.length
  ·rw [zph,yQ (by omega),zcc (zr0 hi),zqz,zcc (zr0 hi),zqz,zce,if_pos rfl,zcc (zr0 hi),zE3,zcc (zr0 hi),zE3,zce,if_pos rfl,zcc (zr0 hi),zDb,zcc (zr0 hi),zDb,zub,Bool.not_true,zb8,zaM (by omega),xl]
   exact zvL L l hl kr kx n (i+1) (by omega) (by omega)
  ·rw [zph,zM (by omega)]
theorem zDZ {L:Nat} {l:List Rec} (hl:l.length≤1000) (hL:20000≤L) (k:Bool→Option β):yc β L (zdo l) (zdo l) k=k true:=by
 unfold yc zlP zpv
 rw [zce,if_pos rfl]
 refine (zvL L l (by omega) _ _ L 0 (by omega) (by omega)).trans ?_
 rfl
end
section
set_option linter.unusedVariables false
set_option linter.unusedSimpArgs false
variable {β:Type}
theorem zy3 {L:Nat} (hL:20000≤L) {j:List Int} (hb:Byt j) (hj:j.length≤10000) (k:List (List V)→Int→Option β):yi β L (yl .u8 j) k=k (zdo (scn L j).1) (((scn L j).2.1:Nat):Int):=by
 unfold yi zpx
 rw [zwm hL hb hj]
theorem zxJ {L:Nat} (hL:20000≤L) {j:List Int} (hb:Byt j) (hj:j.length≤10000) (k:List (List V)→Option β):zg β L (yl .u8 j) k=k (yl .u8 (j.take (scn L j).2.1)):=by
 have h:=zpW L hb
 unfold zg zmH
 rw [zwm hL hb hj,yg ⟨by omega,by rw [yx]; omega⟩,Int.toNat_natCast,Nat.sub_zero,List.drop_zero,zd5,List.nil_append,List.length_nil,yx,yg (zpl (by rw [List.length_take]; omega)),xl]
theorem zzw:∀ (n:Nat) (j:List Int) (a:Nat) (last:List Int) (acc:List Rec),a≤j.length→(scanO n j a last acc).1.length * 13+a≤acc.length * 13+j.length
 | 0,j,a,last,acc,h=>by simp only [scanO]; omega
 | n+1,j,a,last,acc,h=>by
  unfold scanO
  cases hn:nextO j a last with
  | none=>simp only; omega
  | some x =>
   obtain ⟨r,e,f⟩:=x
   obtain ⟨h1,h2,_⟩:=zoI hn
   have:=zzw n j e f (acc++[r]) h2
   rw [List.length_append,List.length_singleton] at this
   simp only
   omega
theorem zAV {L:Nat} {j:List Int} (hj:j.length≤10000) (hb:Byt j):(scn L j).1.length≤1000∧True:=by
 have:=zzw L j 0 z4 [] (by omega)
 refine ⟨?_,trivial⟩
 unfold scn
 simp at this
 omega
theorem zBX {L:Nat} (hL:20000≤L) (ls:List (List Int)) (hls:∀ y ∈ ls,Byt y∧y.length≤10000) (hl:ls.length≤100) (kr:Bool→Option β) (kx:List V→Option β) (b:List V):∀ (n i:Nat),i≤ls.length→ls.length - i < n →
  zah xb xe zc xa yb yi yc zb zg za ze zf L kr kx n (zhJ ls) (ls.length:Int) (i:Int) b=kx b
 | 0,i,h1,h2=>by omega
 | n+1,i,h1,h2=>by
  unfold zah zdl
  by_cases h:i < ls.length
  ·obtain ⟨hy,hyl⟩:=hls _ (List.getElem_mem h)
   have hg:(zhJ ls)[i]?=some [V.sl 1 (yl .u8 ls[i])]:=by simp [zhJ,h]
   rw [yQ (by omega),zcc hg,zo9 rfl,zsf hL hy hyl,zy3 hL hy hyl,zce,if_pos rfl,zDZ (zAV hyl hy).1 hL,Bool.not_true,zb8,zzt hL hy hyl,zxJ hL hy hyl,zub,Bool.not_true,zb8,xl,zaM (by omega)]
   exact zBX hL ls hls hl kr kx b n (i+1) (by omega) (by omega)
  ·rw [zM (by omega)]
theorem zAr {L:Nat} (hL:20000≤L) (ls:List (List Int)) (hls:∀ y ∈ ls,Byt y∧y.length≤10000) (hl:ls.length≤100) (kr:Bool→List V→Option β) (kx:List V→List V→Option β) (b b2:List V):∀ (n i:Nat),i≤ls.length→ls.length - i < n →
  yZ xb xe zc xa yb yi yc zb zg za ze zf L kr kx n (zhJ ls) (ls.length:Int) (i:Int) b b2=kx b b2
 | 0,i,h1,h2=>by omega
 | n+1,i,h1,h2=>by
  unfold yZ zcL
  by_cases h:i < ls.length
  ·obtain ⟨hy,hyl⟩:=hls _ (List.getElem_mem h)
   have hg:(zhJ ls)[i]?=some [V.sl 1 (yl .u8 ls[i])]:=by simp [zhJ,h]
   rw [yQ (by omega),zcc hg,zo9 rfl,zsf hL hy hyl,zy3 hL hy hyl,zce,if_pos rfl,zDZ (zAV hyl hy).1 hL,Bool.not_true,zb8,zzt hL hy hyl,zxJ hL hy hyl,zub,Bool.not_true,zb8,xl,zaM (by omega)]
   exact zAr hL ls hls hl kr kx b b2 n (i+1) (by omega) (by omega)
  ·rw [zM (by omega)]
theorem zFa (a b c d e:List Int):zh 1 5 [(V.sl 1 (yl .u8 a)),(V.sl 1 (yl .u8 b)),(V.sl 1 (yl .u8 c)),(V.sl 1 (yl .u8 d)),(V.sl 1 (yl .u8 e))]=zhJ [a,b,c,d,e]:=rfl
theorem zE6 (l:List Int):List.flatten (yl .u8 l)=row .u8 l:=by
 induction l with
 | nil=>rfl
 | cons x l ih=>rw [show List.flatten (yl .u8 (x::l))=[V.sc (.int .u8 x)]++List.flatten (yl .u8 l) from rfl,ih]; rfl
theorem zFU {L:Nat} (hL:20000≤L) {j c raw:List Int} (hj:Byt j) (hc:Byt c) (hr:Byt raw) (h1:j.length≤200) (h2:c.length≤200) (h3:raw.length≤200) (p4:Int) (b9:Rec) (k:Bool→Option β) :
  (lt (IntKind.wrap .i64 (((j.length:Nat):Int)+(1:Int))) fun x10 =>
   zc β L p4 x10 (fun v11 =>
   chk (0≤v11∧v11≤((j.length:Nat):Int)) (
   xa β L (zh 1 2 [(V.sl 1 (yl .u8 j)),(V.sl 1 (yl .u8 raw))]) (fun v12 =>
   (fun p68 p69 p70 b11=>zah xb xe zc xa yb yi yc zb zg za ze zf L (fun p12=>zcx xb xe zc xa yb yi yc zb zg za ze zf L p12 k) (fun b11=>zbl xb xe zc xa yb yi yc zb zg za ze zf L b11 k) L p68 p69 p70 b11) (zh 1 5 [(V.sl 1 (yl .u8 j)),(V.sl 1 (yl .u8 c)),(V.sl 1 (List.take ((Int.toNat v11) - 0) (List.drop 0 (yl .u8 j)))),(V.sl 1 (yl .u8 raw)),(V.sl 1 v12)]) ((List.length (zh 1 5 [(V.sl 1 (yl .u8 j)),(V.sl 1 (yl .u8 c)),(V.sl 1 (List.take ((Int.toNat v11) - 0) (List.drop 0 (yl .u8 j)))),(V.sl 1 (yl .u8 raw)),(V.sl 1 v12)]):Nat):Int) (0:Int) b9.v))))=k true:=by
 obtain ⟨x,x0,x1,hx⟩:=zwN L p4 ((j.length:Int)+1) (by omega) (by omega)
 rw [xz (by omega) (by omega),xl,hx,yg ⟨x0,by omega⟩,zwC,zry (by omega) _ (by simp) (by rw [zAN]; omega),zxR,Nat.sub_zero,List.drop_zero,zd5,zFa,zpO]
 refine (zBX hL [j,c,j.take x.toNat,raw,j++raw] (by
  intro z hz
  simp only [List.mem_cons,List.not_mem_nil,or_false] at hz
  rcases hz with rfl | rfl | rfl | rfl | rfl
  ·exact ⟨hj,by omega⟩
  ·exact ⟨hc,by omega⟩
  ·exact ⟨hj.take _,by rw [List.length_take]; omega⟩
  ·exact ⟨hr,by omega⟩
  ·exact ⟨hj.app hr,by rw [List.length_append]; omega⟩) (by simp) _ _ b9.v L 0 (by simp) (by simp; omega)).trans ?_
 unfold zbl
 rw [zfA,zrr,zsp,zfA,zqu,BEq.rfl]
theorem zEb {L:Nat} (hL:20000≤L) {j c raw:List Int} (hj:Byt j) (hc:Byt c) (hr:Byt raw) (h1:j.length≤200) (h2:c.length≤200) (h3:raw.length≤200) (p4:Int) (b9:Rec) (b2:List V) (k:Bool→Option β) :
  (lt (IntKind.wrap .i64 (((j.length:Nat):Int)+(1:Int))) fun x10 =>
   zc β L p4 x10 (fun v11 =>
   chk (0≤v11∧v11≤((j.length:Nat):Int)) (
   xa β L (zh 1 2 [(V.sl 1 (yl .u8 j)),(V.sl 1 (yl .u8 raw))]) (fun v12 =>
   (fun p68 p69 p70 b11 b42=>yZ xb xe zc xa yb yi yc zb zg za ze zf L (fun p12 b42=>zbN xb xe zc xa yb yi yc zb zg za ze zf L p12 b42 k) (fun b11 b42=>zaO xb xe zc xa yb yi yc zb zg za ze zf L b11 b42 k) L p68 p69 p70 b11 b42) (zh 1 5 [(V.sl 1 (yl .u8 j)),(V.sl 1 (yl .u8 c)),(V.sl 1 (List.take ((Int.toNat v11) - 0) (List.drop 0 (yl .u8 j)))),(V.sl 1 (yl .u8 raw)),(V.sl 1 v12)]) ((List.length (zh 1 5 [(V.sl 1 (yl .u8 j)),(V.sl 1 (yl .u8 c)),(V.sl 1 (List.take ((Int.toNat v11) - 0) (List.drop 0 (yl .u8 j)))),(V.sl 1 (yl .u8 raw)),(V.sl 1 v12)]):Nat):Int) (0:Int) b9.v b2))))=k true:=by
 obtain ⟨x,x0,x1,hx⟩:=zwN L p4 ((j.length:Int)+1) (by omega) (by omega)
 rw [xz (by omega) (by omega),xl,hx,yg ⟨x0,by omega⟩,zwC,zry (by omega) _ (by simp) (by rw [zAN]; omega),zxR,Nat.sub_zero,List.drop_zero,zd5,zFa,zpO]
 refine (zAr hL [j,c,j.take x.toNat,raw,j++raw] (by
  intro z hz
  simp only [List.mem_cons,List.not_mem_nil,or_false] at hz
  rcases hz with rfl | rfl | rfl | rfl | rfl
  ·exact ⟨hj,by omega⟩
  ·exact ⟨hc,by omega⟩
  ·exact ⟨hj.take _,by rw [List.length_take]; omega⟩
  ·exact ⟨hr,by omega⟩
  ·exact ⟨hj.app hr,by rw [List.length_append]; omega⟩) (by simp) _ _ b9.v b2 L 0 (by simp) (by simp; omega)).trans ?_
 unfold zaO
 rw [zfA,zrr,zsp,zfA,zqu,BEq.rfl]
theorem zum (a0 a1:List (List V)) (a2 a3 a4:Int) (a5:List V) (hl0:a0.length≤maxLen) (wf0:∀ e ∈ a0,HasRow [.int .i64] e) (hl1:a1.length≤maxLen) (wf1:∀ e ∈ a1,HasRow [.int .u8] e) (wf2:(Lit.int .i64 a2).wf=true) (wf3:(Lit.int .i64 a3).wf=true) (wf4:(Lit.int .i64 a4).wf=true) (wf5:HasRow (List.replicate 2 (.int .i64)++[.sl ([.int .u8])]) a5) :
  ∃ L,∀ k:Bool→Option Bool,zaI Bool L a0 a1 a2 a3 a4 a5 k=k true:=by
 obtain ⟨l,rfl,_⟩:=zuC wf0
 obtain ⟨raw,rfl,hw⟩:=zuC wf1
 obtain ⟨r,rfl,hr⟩:=zGl wf5
 rw [yx] at hl0
 obtain ⟨d,ed,hd⟩:=zGs hl0
 obtain ⟨L,hL⟩:∃ L:Nat,20000≤L:=⟨20000,Nat.le_refl _⟩
 refine ⟨L,fun k=>?_⟩
 unfold zaI zeO zhj
 rw [zGq hL,Bool.not_true,zb8,yx]
 by_cases g1:200 < raw.length
 ·rw [yQ (by omega)]
 rw [zM (by omega),zoO,yx]
 by_cases g2:100 < r.d.length
 ·rw [yQ (by omega)]
 have hbr:=zDd hw
 obtain ⟨j,rs,en,j1,j2,j3⟩:=zE0 hL d hd
 have qj:=j3 Bool
 rw [zM (by omega),← ed,qj,yx,yg ⟨by simp only [xj]; omega,by simp only [xj]; omega⟩]
 by_cases g3:0 < j.length
 ·obtain ⟨y,y0,y1,hy⟩:=zwN L a2 (j.length:Int) (by omega) (by omega)
  rw [yQ (by omega),hy,xl,yg ⟨y0,y1⟩,zE6,yg ⟨rfl,by rw [xw]; omega⟩,Nat.zero_add,Nat.mul_one,zzf (by rw [xw]; omega),xl]
  have hset:(row .u8 j).set y.toNat (V.sc (.int .u8 (IntKind.wrap .u8 a3)))=row .u8 (j.set y.toNat (IntKind.wrap .u8 a3)):=by simp [row,List.map_set]
  have hcB:Byt (j.set y.toNat (IntKind.wrap .u8 a3)):=by
   intro z hz
   rcases List.mem_or_eq_of_mem_set hz with h | h
   ·exact j2 z h
   ·rw [h]; exact zsJ _
  have hcl:(j.set y.toNat (IntKind.wrap .u8 a3)).length=j.length:=List.length_set ..
  generalize j.set y.toNat (IntKind.wrap .u8 a3)=c at hset hcB hcl
  rw [hset]
  obtain ⟨h0,t0,e0⟩:=zyN (row .u8 c) (by rw [xw]; omega)
  rw [e0,zv4,← e0,zoR _ _ _ (by omega),List.take_of_length_le (by omega)]
  exact zEb hL j2 hcB hbr (by omega) (by omega) (by omega) a4 r _ k
 ·have hj0:j=[]:=List.length_eq_zero_iff.1 (by omega)
  subst hj0
  rw [zM (by simp),zE6,show row .u8 ([]:List Int)=[] from rfl,zFX,yg (p:=([]:List Int).length=0) rfl]
  exact zFU hL j2 (c:=[]) (by intro z hz; cases hz) hbr (by simp) (by simp) (by omega) a4 r k
end
section
open Go.ChangeShapes Go.WideShapes Go.ChangeAt Go.RowKit
set_option linter.unusedVariables false
theorem zyS {H:Type} {enc:TypeId × Value→H} {P:Program} {w:World} {base:Nat} {spare:Nat→Bool} {held:Bool} {fuel n:Nat} {t e:TypeId} {k:IntKind} {cs:List Value} {d:DataW H} {p:List MemPlace} (ht:P.underlying t=some (.array n e)) (he:P.underlying e=some (.int k)) (hc:P.cellsOf e=1)
  (ns:List Int) (hd:d=.agg (ns.map fun x=>.lit (.int k x))) (h:DataW.trod enc P w base spare held fuel t cs=some (d,p)) {i:Nat} (hi:i < n):cs[i]?=some (.int k (ns.getD i 0)):=by
 obtain ⟨xs,m,_,hx,_,hlen,hel⟩:=DataW.trod_array ht h
 have h1:=hel i hi
 rw [hc,Nat.mul_one] at h1
 have hxi:xs[i]?=some (xs[i]'(by omega)):=List.getElem?_eq_getElem _
 rw [hxi] at h1
 obtain ⟨v,e1,e2,_⟩:=DataW.trod_int he h1
 simp only [Prod.mk.injEq] at hx
 have h2:d=.agg (xs.map (·.1)):=hx.1
 rw [hd] at h2
 have h3:ns.map (fun x=>DataW.lit (H:=H) (.int k x))=xs.map (·.1):=by injection h2
 have h4:=congrArg (fun l=>l[i]?) h3
 simp only [List.getElem?_map,hxi,Option.map_some,e2] at h4
 have h5:ns[i]?=some v:=by
  cases hq:ns[i]? with
  | none=>rw [hq] at h4; cases h4
  | some q =>
   rw [hq] at h4
   simp only [Option.map_some,Option.some.injEq] at h4
   injection h4 with h6
   injection h6 with _ h7
   rw [h7]
 rw [List.getD_eq_getElem?_getD,h5]
 have h8:=congrArg (fun l=>l[0]?) e1
 simp only [List.getElem?_take,List.getElem?_drop] at h8
 simpa using h8
theorem zBh {k:IntKind} {ns:List Int} {i:Nat} {v:V} (h:(row k ns)[i]?=some v):i < ns.length∧v=.sc (.int k (ns.getD i 0)):=by
 unfold row at h
 rw [List.getElem?_map] at h
 cases hq:ns[i]? with
 | none=>rw [hq] at h; cases h
 | some q =>
  rw [hq] at h
  obtain ⟨hi,_⟩:=List.getElem?_eq_some_iff.1 hq
  refine ⟨hi,?_⟩
  rw [List.getD_eq_getElem?_getD,hq]
  simpa using h.symm
def zxx {H:Type}:List (String × DataW H):=[("lightclient/sha.k",Rows.laid_lightclient_sha_k),("lightclient/sha.initial",Rows.laid_lightclient_sha_initial)]
theorem gK:Tryd.prog.globalNamed "lightclient/sha.k"=some 1:=by kernel_rfl
theorem gI:Tryd.prog.globalNamed "lightclient/sha.initial"=some 0:=by kernel_rfl
theorem tK:(Tryd.prog.globals[1]?).map (·.type)=some 84:=by kernel_rfl
theorem tI:(Tryd.prog.globals[0]?).map (·.type)=some 77:=by kernel_rfl
theorem zFV {W:World} (h:laidMetH Tryd.prog zxx W):GV (yK fg gls) W zhO:=by
 rw [MakeChecks.laidMetH_plain _ _ _ (by kernel_rfl)] at h
 obtain ⟨ps,⟨g0,t0,cs0,f0,p0,q0,hg0,ht0,hv0,hd0,⟨g1,t1,cs1,f1,p1,q1,hg1,ht1,hv1,hd1,_,_⟩,_⟩,_,_⟩:=h
 obtain rfl:=Option.some.inj (gK.symm.trans hg0)
 obtain rfl:=Option.some.inj (gI.symm.trans hg1)
 obtain rfl:=Option.some.inj (tK.symm.trans ht0)
 obtain rfl:=Option.some.inj (tI.symm.trans ht1)
 have eu:Tryd.prog.underlying 57=some (.int .u32):=by kernel_rfl
 have ec:Tryd.prog.cellsOf 57=1:=by kernel_rfl
 have ek:Tryd.prog.underlying 84=some (.array 64 57):=by kernel_rfl
 have ei:Tryd.prog.underlying 77=some (.array 8 57):=by kernel_rfl
 have dk:(Rows.laid_lightclient_sha_k:DataW Unit)=.agg (kc.map fun x=>.lit (.int .u32 x)):=rfl
 have di:(Rows.laid_lightclient_sha_initial:DataW Unit)=.agg (init0.map fun x=>.lit (.int .u32 x)):=rfl
 intro g cs hg i v hv
 have hg':(gls.find? (fun e=>e.1 == g)).map (·.2)=some cs:=hg
 by_cases hk:g=1
 ·subst hk
  obtain rfl:gk_sha_k=cs:=Option.some.inj ((show (gls.find? (fun e=>e.1 == 1)).map (·.2)=some gk_sha_k from rfl).symm.trans hg')
  obtain ⟨hi,rfl⟩:=zBh (k:=.u32) (ns:=kc) hv
  refine ⟨_,rfl,rfl,fun hw=>hw,?_⟩
  rw [World.var?_cell gK hv0 i,Array.getElem?_toList.symm]
  exact zyS ek eu ec kc dk hd0 hi
 ·by_cases hk2:g=0
  ·subst hk2
   obtain rfl:gk_sha_initial=cs:=Option.some.inj ((show (gls.find? (fun e=>e.1 == 0)).map (·.2)=some gk_sha_initial from rfl).symm.trans hg')
   obtain ⟨hi,rfl⟩:=zBh (k:=.u32) (ns:=init0) hv
   refine ⟨_,rfl,rfl,fun hw=>hw,?_⟩
   rw [World.var?_cell gI hv1 i,Array.getElem?_toList.symm]
   exact zyS ei eu ec init0 di hd1 hi
  ·exfalso
   have e:gls=[(0,gk_sha_initial),(1,gk_sha_k)]:=rfl
   rw [e] at hg'
   simp only [List.find?_cons,List.find?_nil,beq_eq_false_iff_ne.2 (Ne.symm hk),beq_eq_false_iff_ne.2 (Ne.symm hk2)] at hg'
   cases hg'
theorem zEB (os:Os) (args:Array Value):laidMetH Tryd.prog zxx ((World.doorLaid Tryd.prog 400 os).forCall (fun _ _=>0) ⟨#[],args,[]⟩).memory :=
 laidMetH_of_parts3 (fuel:=8) (laidMet_of_run' 8 (by kernel_rfl) (by kernel_rfl)) (by kernel_rfl) (by kernel_rfl)
end
section
namespace journalReadsL
open Go.ChangeShapes Go.WideShapes Go.ChangeAt Go.RowKit
set_option linter.unusedVariables false
theorem own:ownKnob Tryd.prog.godebug=none:=by kernel_rfl
theorem zpb:laidOutB Tryd.prog=true:=by kernel_rfl
set_option maxRecDepth 100000 in
theorem zGx (os:Os) (started:os.Started) (H:Type) (enc:TypeId × Value→H) :
  ReturnsInHanded {} Tryd.checked os 4 .any (fun w args=>(Rows.journalReadsSpec.pre enc Tryd.prog Tryd.f4 [] false w args∧laidMetH Tryd.prog zxx w)∧sizedMet enc Tryd.prog Tryd.f4 (OpenSpec.ofChange Rows.journalReadsSpec) false w args)
   (Rows.journalReadsSpec.post enc Tryd.prog Tryd.f4 false true false false):=by
 refine returnsInHanded_of_change_and (C:=Tryd.checked) (X:=fun w _=>laidMetH Tryd.prog zxx w) (fun _ _ _ hh h=>h.of_heap hh) own started (by kernel_rfl) Tryd.func4
  (ChangeSpec.witness_shaped (enc:=enc) (C:=Tryd.checked) (os:=os) (X:=fun w _=>laidMetH Tryd.prog zxx w) false (World.doorLaid Tryd.prog 400 os) #[.slice none 0 0,.slice none 0 0,.int .i64 0,.int .i64 0,.int .i64 0,.agg (Array.replicate 2 (Value.int .i64 0)++#[(Value.slice none 0 0)])] 8 rfl (World.shaped_of_RefB (by kernel_rfl) (by kernel_rfl)) (by kernel_rfl) (by kernel_rfl) (by kernel_rfl) (zEB os _)) ?_
 intro W base args ds gs before hval0 hW hcnd _ hlaid _
 have hval:∀ (j:Nat) t v,Tryd.f4.params[j]?=some t→args[j]?=some v→Value.okWide Tryd.prog W .any base t v:=hval0
 have hW':=hW
 obtain ⟨p,q,hA0,hV,rfl,hfz,hnd⟩:=hW
 have hA:DataW.TrodAll enc Tryd.prog W 0 (fun _=>true) true Tryd.f4.params.toList args.toList ds p:=hA0
 rw [Tryd.params4] at hA hval
 obtain ⟨v0,vs0,d0,ds0,p0,q0,hargs,rfl,rfl,h0,r0⟩:=trodAll_cons hA
 obtain ⟨v1,vs1,d1,ds1,p1,q1,rfl,rfl,rfl,h1,r1⟩:=trodAll_cons r0
 obtain ⟨v2,vs2,d2,ds2,p2,q2,rfl,rfl,rfl,h2,r2⟩:=trodAll_cons r1
 obtain ⟨v3,vs3,d3,ds3,p3,q3,rfl,rfl,rfl,h3,r3⟩:=trodAll_cons r2
 obtain ⟨v4,vs4,d4,ds4,p4,q4,rfl,rfl,rfl,h4,r4⟩:=trodAll_cons r3
 obtain ⟨v5,vs5,d5,ds5,p5,q5,rfl,rfl,rfl,h5,r5⟩:=trodAll_cons r4
 obtain ⟨rfl,rfl,rfl⟩:=trodAll_nil r5
 obtain rfl:args=#[v0,v1,v2,v3,v4,v5]:=by cases args; simp_all
 obtain ⟨rfl,rfl⟩:=trodVars_none hV
 have k0:=h0
 have lt0:∀ x ∈ p0,x.block < W.heap.size:=by obtain ⟨m,hm⟩:=k0; exact DataW.trod_lt m _ _ _ hm
 have k1:=h1
 have lt1:∀ x ∈ p1,x.block < W.heap.size:=by obtain ⟨m,hm⟩:=k1; exact DataW.trod_lt m _ _ _ hm
 have k2:=h2
 have lt2:∀ x ∈ p2,x.block < W.heap.size:=by obtain ⟨m,hm⟩:=k2; exact DataW.trod_lt m _ _ _ hm
 have k3:=h3
 have lt3:∀ x ∈ p3,x.block < W.heap.size:=by obtain ⟨m,hm⟩:=k3; exact DataW.trod_lt m _ _ _ hm
 have k4:=h4
 have lt4:∀ x ∈ p4,x.block < W.heap.size:=by obtain ⟨m,hm⟩:=k4; exact DataW.trod_lt m _ _ _ hm
 have k5:=h5
 have lt5:∀ x ∈ p5,x.block < W.heap.size:=by obtain ⟨m,hm⟩:=k5; exact DataW.trod_lt m _ _ _ hm
 obtain ⟨A0,len0,cap0,rfl⟩:=okWide_slice Tryd.underlying22 (hval 0 22 v0 rfl rfl)
 obtain ⟨x0,hx0,rp0⟩:=zCe (r:=.any) (b0:=base) (ren:=yK fg gls) (d:=20) (ct:=.sl ([.int .i64])) rfl h0 (by kernel_rfl)
 obtain ⟨a0,rfl,hl0,wf0⟩:=hx0.sl_inv
 obtain ⟨A1,len1,cap1,rfl⟩:=okWide_slice Tryd.underlying23 (hval 1 23 v1 rfl rfl)
 obtain ⟨x1,hx1,rp1⟩:=zCe (r:=.any) (b0:=base) (ren:=yK fg gls) (d:=20) (ct:=.sl ([.int .u8])) rfl h1 (by kernel_rfl)
 obtain ⟨a1,rfl,hl1,wf1⟩:=hx1.sl_inv
 obtain ⟨a2,rfl,rfl,rfl,wf2⟩:=open_int Tryd.underlying3 (hval 2 3 v2 rfl rfl) h2
 obtain ⟨a3,rfl,rfl,rfl,wf3⟩:=open_int Tryd.underlying3 (hval 3 3 v3 rfl rfl) h3
 obtain ⟨a4,rfl,rfl,rfl,wf4⟩:=open_int Tryd.underlying3 (hval 4 3 v4 rfl rfl) h4
 obtain ⟨a5,wf5,rp5⟩:=zFA (ren:=yK fg gls) (d:=20) (cts:=List.replicate 2 (.int .i64)++[.sl ([.int .u8])]) (by kernel_rfl) (hval 5 25 v5 rfl rfl) h5 (by kernel_rfl)
 clear hA0 hval0
 obtain ⟨L,hL⟩:=zum a0 a1 a2 a3 a4 a5 hl0 wf0 hl1 wf1 wf2 wf3 wf4 wf5
 have hd:zeQ zaI L Bool [(V.sl 1 a0),(V.sl 1 a1),(V.sc (.int .i64 a2)),(V.sc (.int .i64 a3)),(V.sc (.int .i64 a4)),(V.agg a5)] [] zuO=some true:=by
  show (aL 1 (V.sl 1 a0) fun x0=>aL 1 (V.sl 1 a1) fun x1=>aI .i64 (V.sc (.int .i64 a2)) fun x2=>aI .i64 (V.sc (.int .i64 a3)) fun x3=>aI .i64 (V.sc (.int .i64 a4)) fun x4=>aG (V.agg a5) fun x5=>zaI Bool L x0 x1 x2 x3 x4 x5 (fun p=>zuO (V.sc (.bool p)) []))=some true
  rw [zE5,zE5,zCO,zCO,zCO,zGz]
  exact (hL (fun p=>zuO (V.sc (.bool p)) [])).trans rfl
 obtain ⟨v,b,hev,hk⟩:=zrj L 100 (by decide) Bool [(V.sl 1 a0),(V.sl 1 a1),(V.sc (.int .i64 a2)),(V.sc (.int .i64 a3)),(V.sc (.int .i64 a4)),(V.agg a5)] [] zuO true hd
 have hv:=zD9 hk
 subst hv
 refine (zCP (us:=[.slice A0 len0 cap0,.slice A1 len1 cap1,.int .i64 a2,.int .i64 a3,.int .i64 a4,v5]) (w:=W) (zFV hlaid) (zGC L 100) (f:=4) (by kernel_rfl) rfl (fun i x u hx hu=>?_) hev).mono fun e W' ⟨he,bel0⟩=>?_
 ·match i,hx,hu with
  | 0,hx,hu=>cases hx; cases hu; exact rp0
  | 1,hx,hu=>cases hx; cases hu; exact rp1
  | 2,hx,hu=>cases hx; cases hu; exact .sc _ rfl
  | 3,hx,hu=>cases hx; cases hu; exact .sc _ rfl
  | 4,hx,hu=>cases hx; cases hu; exact .sc _ rfl
  | 5,hx,hu=>cases hx; cases hu; exact rp5
  | n+6,hx,hu=>simp at hx
 ·have bel:=Kept.below bel0
  subst he
  exact ⟨_,rfl,_,_,_,[],_,[],hW',trodAll_mk1 (shut_bool Tryd.underlying4 _),(trodAll_cons_mk (Below.trod zpb (by kernel_rfl) (of_decide_eq_true (by kernel_rfl)) k0 bel lt0) (trodAll_cons_mk (Below.trod zpb (by kernel_rfl) (of_decide_eq_true (by kernel_rfl)) k1 bel lt1) (trodAll_cons_mk (Below.trod zpb (by kernel_rfl) (of_decide_eq_true (by kernel_rfl)) k2 bel lt2) (trodAll_cons_mk (Below.trod zpb (by kernel_rfl) (of_decide_eq_true (by kernel_rfl)) k3 bel lt3) (trodAll_cons_mk (Below.trod zpb (by kernel_rfl) (of_decide_eq_true (by kernel_rfl)) k4 bel lt4) (trodAll_cons_mk (Below.trod zpb (by kernel_rfl) (of_decide_eq_true (by kernel_rfl)) k5 bel lt5) trodAll_mk0)))))),rfl,bel.frame _,fun h=>by cases h⟩
theorem over:Rows.journalReadsRow.holds Tryd.pinned (OpenSpec.ofChange Rows.journalReadsSpec) :=
 OpenClaim.holds_of_wide 4 Tryd.f4 rfl rfl rfl rfl rfl rfl rfl ⟨rfl,rfl,rfl,rfl,rfl⟩ rfl rfl rfl rfl rfl (by kernel_rfl) Tryd.func4 (by kernel_rfl)
  (of_decide_eq_true (by kernel_rfl)) (by unfold Func.isWrapper; first | (rw [if_pos (by decide +kernel)]; kernel_rfl) | (rw [if_neg (by decide +kernel)]; exact ⟨rfl,rfl⟩))
  (fun os started H enc _=>zGx os started H enc)
theorem card:Claim7.holds Tryd.pinned (.plain (OpenSpec.ofChange Rows.journalReadsSpec)) Rows.journalReadsCard :=
 Claim7.holds_tied_plain_at .later [] [.data,.data] true (true,"ba4af9d7795a5c4520f42b0bea24d25edc0cadad41495e125cc72112383985d4") false
  over (fun _ h=>by cases h) (by kernel_rfl) (fun _ h=>by cases h) journalReads_row_tie rfl ⟨rfl,rfl⟩ (by kernel_rfl) rfl
  (fun f fn hf hfn=>by
   obtain rfl:f=4:=Option.some.inj ((show Tryd.prog.funcNamed "lightclient/lightclientlaw41.JournalReads"=some 4 by kernel_rfl).symm.trans hf) |>.symm
   obtain rfl:fn=Tryd.f4:=(Option.some.inj (Tryd.func4.symm.trans hfn)).symm
   exact ⟨by kernel_rfl,fun j t ht=>by
    rw [Tryd.params4] at ht
    have hm:t ∈ [22,23,3,3,3,25]:=by simpa using Array.mem_of_getElem? ht
    have hall:([22,23,3,3,3,25].all fun u=>!Tryd.prog.wantsStandIn u)=true:=by kernel_rfl
    exact (show Tryd.prog.wantsStandIn t=false by simpa using List.all_eq_true.1 hall t hm)⟩)
  (by kernel_rfl)
end journalReadsL
theorem journalReads_holds:Rows.JournalReadsCardSaid:=journalReadsL.card
end
end Go.Proofs.YteopmmegeagklaaDoor
