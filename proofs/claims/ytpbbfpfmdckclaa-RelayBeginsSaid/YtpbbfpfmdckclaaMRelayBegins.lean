/- RelayBegins: for every input the call returns true, and each argument reads afterwards as it read before. No condition. -/
import Derived.Test.YtpbbfpfmdckclaaMRelayBegins11
namespace Go.Proofs.Ytpbbfpfmdckclaa
section
set_option linter.unusedVariables false
set_option linter.unusedSimpArgs false
theorem zsy {cs new:List V} (h:new.length=cs.length):zc cs 0 new=new:=by
 simp [zc,h]
theorem zoR {cs new:List V} {off:Nat} (h:off+new.length≤cs.length):(zc cs off new).length=cs.length:=by
 simp [zc]; omega
theorem zAI {cs:List V} {off:Nat} {v:V} (h:off < cs.length):zc cs off [v]=cs.set off v:=by
 simp only [zc,List.length_singleton]
 rw [List.set_eq_take_append_cons_drop,if_pos h]
 simp
theorem zfH {sz:Nat}:∀ {es:List (List V)},(∀ e ∈ es,e.length=sz)→xc sz es.length es.flatten=es
 | [],_=>rfl
 | e::es,h=>by
  have he:=h e (by simp)
  have:=zfH (es:=es) (fun x hx=>h x (by simp [hx]))
  simp only [List.length_cons,xc,List.flatten_cons]
  rw [List.take_append_of_le_length (by omega),List.take_of_length_le (by omega),List.drop_append_of_le_length (by omega),List.drop_of_length_le (by omega),List.nil_append,this]
theorem zuf {sz:Nat} {es:List (List V)} (h:∀ e ∈ es,e.length=sz):es.flatten.length=es.length * sz:=y7 h
theorem zwE {sz:Nat}:∀ {es:List (List V)},(∀ e ∈ es,e.length=sz)→∀ (i:Nat),es.flatten.drop (i * sz)=(es.drop i).flatten
 | [],_,i=>by simp
 | e::es,h,0=>by simp
 | e::es,h,i+1=>by
  have he:=h e (by simp)
  have:=zwE (es:=es) (fun x hx=>h x (by simp [hx])) i
  have e1:(e++es.flatten).drop sz=es.flatten:=by rw [List.drop_append_of_le_length (by omega),List.drop_of_length_le (by omega),List.nil_append]
  rw [List.flatten_cons,List.drop_succ_cons,← this,show (i+1) * sz=sz+i * sz by rw [Nat.add_mul]; omega,← List.drop_drop,e1]
theorem zrX {sz n:Nat} {es:List (List V)} (h:∀ e ∈ es,e.length=sz) (hn:n≤sz) {i:Nat} {e:List V} (he:es[i]?=some e):(es.flatten.drop (i * sz)).take n=e.take n:=by
 rw [zwE h]
 obtain ⟨hi,rfl⟩:=List.getElem?_eq_some_iff.1 he
 rw [List.drop_eq_getElem_cons hi,List.flatten_cons,List.take_append_of_le_length (by rw [h _ (List.getElem_mem hi)]; exact hn)]
theorem znS (k:IntKind):∀ (l m:List Int),l.length=m.length→zcY (row k l) (row k m)=some (decide (l=m))
 | [],[],_=>rfl
 | x::l,y::m,h=>by
  have:=znS k l m (by simpa using h)
  simp only [row] at this
  simp only [row,List.map_cons,zcY,if_true,this,Option.map_some]
  congr 1
  by_cases h1:x=y <;> by_cases h2:l=m <;> simp [h1,h2]
theorem zCj {β:Type} (k:IntKind) {n:Nat} {l m:List Int} (h1:l.length=n) (h2:m.length=n) (κ:Bool→Option β):eqC n (row k l) (row k m) κ=κ (decide (l=m)):=by
 simp only [eqC,zgt,h1,h2,and_self,zsZ,znS k l m (by omega)]
theorem zyj {β:Type} {p:Prop} {inst:Decidable p} (a b:Option β):ifb (!(@decide p inst)) a b=if p then b else a:=by
 by_cases h:p <;> simp [ifb,h]
theorem zbv {β:Type} (x y:Int) (a b:Option β):ifb (x != y) a b=if x=y then b else a:=by
 by_cases h:x=y
 ·subst h; simp [ifb]
 ·rw [bne_iff_ne.2 h,if_neg h]; rfl
end
section
set_option linter.unusedVariables false
set_option linter.unusedSimpArgs false
def zgP {α:Type} (p:α→Bool):List α→Nat→Int
 | [],_=>-1
 | x::l,i=>if p x=true then (i:Int) else zgP p l (i+1)
theorem zr1 {α:Type} (p:α→Bool):∀ (l:List α) (a:Nat),(zgP p l a=-1∧∀ x ∈ l,p x=false)∨∃ (i:Nat),∃ h:i < l.length,zgP p l a=((a+i:Nat):Int)∧(∀ x ∈ l.take i,p x=false)∧p l[i]=true
 | [],a=>.inl ⟨rfl,by simp⟩
 | x::l,a=>by
  by_cases hx:p x=true
  ·exact .inr ⟨0,by simp,by simp [zgP,hx],by simp,by simpa using hx⟩
  ·have hx':p x=false:=by simpa using hx
   rcases zr1 p l (a+1) with ⟨h1,h2⟩ | ⟨i,hi,h1,h2,h3⟩
   ·refine .inl ⟨by simp [zgP,hx',h1],?_⟩
    intro y hy
    rcases List.mem_cons.1 hy with rfl | hy
    ·exact hx'
    ·exact h2 y hy
   ·refine .inr ⟨i+1,by simpa using hi,?_,?_,by simpa using h3⟩
    ·simp only [zgP,hx',h1]; simp; omega
    ·intro y hy
     simp only [List.take_succ_cons,List.mem_cons] at hy
     rcases hy with rfl | hy
     ·exact hx'
     ·exact h2 y hy
theorem zwn {α:Type} (p:α→Bool) (l:List α) (a:Nat):decide (zgP p l a ≥ 0)=l.any p:=by
 rcases zr1 p l a with ⟨h1,h2⟩ | ⟨i,hi,h1,h2,h3⟩
 ·rw [h1]
  have:l.any p=false:=by
   rw [List.any_eq_false]
   intro x hx; rw [h2 x hx]; simp
  rw [this]; rfl
 ·rw [h1]
  have:l.any p=true:=List.any_eq_true.2 ⟨_,List.getElem_mem hi,h3⟩
  rw [this]
  exact decide_eq_true (by omega)
theorem xM {i:Nat} (h:i≤1000000000):IntKind.wrap .i64 ((i:Int)+1)=((i+1:Nat):Int):=by
 rw [zeR (by omega) (by omega)]; omega
end
section
set_option linter.unusedVariables false
set_option linter.unusedSimpArgs false
variable {β:Type}
structure Stm where
 id:List Int
 fr:Int
 to:Int
 due:Int
 hid:id.length=32
def Stm.v (s:Stm):List V:=row .u8 s.id++[V.sc (.int .i64 s.fr),V.sc (.int .i64 s.to),V.sc (.int .u32 s.due)]
structure Hs where
 l:List Int
 hl:l.length=32
def Hs.v (h:Hs):List V:=row .u8 h.l
structure Rl where
 ep:Int
 df:Bool
 rt:List Int
 st:List Stm
 fl:List Hs
def Rl.v (r:Rl):List V:=[V.sc (.int .u32 r.ep),V.sc (.bool r.df),V.sl 1 (zC .i64 r.rt),V.sl 35 (r.st.map Stm.v),V.sl 32 (r.fl.map Hs.v)]
structure Rl.Ok (r:Rl):Prop where
 nr:r.rt.length≤500
 ns:r.st.length≤500
 nf:r.fl.length≤500
theorem zhX (r:Rl) (k:Int→Option β):cI .u32 r.v 0 k=k r.ep:=zaE rfl k
theorem zgV (r:Rl) (k:Bool→Option β):cB r.v 1 k=k r.df:=zCM rfl k
theorem zjO (r:Rl) (k:List (List V)→Option β):cL 1 r.v 2 k=k (zC .i64 r.rt):=zsO rfl k
theorem zjM (r:Rl) (k:List (List V)→Option β):cL 35 r.v 3 k=k (r.st.map Stm.v):=zsO rfl k
theorem zjG (r:Rl) (k:List (List V)→Option β):cL 32 r.v 4 k=k (r.fl.map Hs.v):=zsO rfl k
theorem zd0 (r:Rl) (k:List (List V)→Option β):cLd 1 r.v 2 k=k (zC .i64 r.rt):=zt3 rfl k
theorem zk3 (r:Rl) (k:List (List V)→Option β):cLd 35 r.v 3 k=k (r.st.map Stm.v):=zt3 rfl k
theorem zoU (r:Rl) (k:List (List V)→Option β):cLd 32 r.v 4 k=k (r.fl.map Hs.v):=zt3 rfl k
theorem zmC (r:Rl):List.map V.dem (List.take 5 r.v)=r.v:=Eq.trans rfl rfl
theorem zv8 (r:Rl):List.take 5 r.v=r.v:=Eq.trans rfl rfl
theorem zon (r:Rl):zc [(V.sc (.int .u32 (0:Int))),(V.sc (.bool false)),(V.gs 1 ([]:List (List V))),(V.gs 35 ([]:List (List V))),(V.gs 32 ([]:List (List V)))] 0 r.v=r.v:=zsy rfl
theorem zhd (r:Rl) (k:Option β):chk (List.length r.v=5) k=k:=zp rfl k
theorem zcp (r:Rl) (k:Option β):chk (0+5≤List.length r.v) k=k:=zp (by show 0+5≤5; omega) k
theorem zl8 (r:Rl) (k:Option β):chk ((List.length r.v)=5∧0+5≤5) k=k:=zp ⟨rfl,by decide⟩ k
theorem zku (s:Stm):s.v.length=35:=by rw [Stm.v,List.length_append,zgt,s.hid]; rfl
theorem zqf (s:Stm):List.take 35 s.v=s.v:=List.take_of_length_le (by rw [zku]; omega)
theorem zDx (s:Stm):List.take 32 s.v=row .u8 s.id:=by
 rw [Stm.v,List.take_append_of_le_length (by rw [zgt,s.hid]; omega),List.take_of_length_le (by rw [zgt,s.hid]; omega)]
theorem zAM (s:Stm):zc (List.replicate 32 (V.sc (.int .u8 (0:Int)))++[(V.sc (.int .i64 (0:Int))),(V.sc (.int .i64 (0:Int))),(V.sc (.int .u32 (0:Int)))]) 0 s.v=s.v:=zsy (by rw [zku]; rfl)
theorem zDa (s:Stm) (k:Option β):chk ((List.length (List.take 35 s.v))=35∧0+35≤35) k=k:=zp ⟨by rw [zqf,zku],by decide⟩ k
theorem zzo (s:Stm) (k:Option β):chk (0+32≤(List.length s.v)) k=k:=zp (by rw [zku]; omega) k
theorem zcR (h:Hs):h.v.length=32:=by rw [Hs.v,zgt,h.hl]
theorem zbq (h:Hs):List.take 32 h.v=h.v:=List.take_of_length_le (by rw [zcR]; omega)
theorem zyk (h:Hs):zc (List.replicate 32 (V.sc (.int .u8 (0:Int)))) 0 h.v=h.v:=zsy (by rw [zcR]; rfl)
theorem zA4 (h:Hs) (k:Option β):chk ((List.length (List.take 32 h.v))=32∧0+32≤32) k=k:=zp ⟨by rw [zbq,zcR],by decide⟩ k
theorem zb4 (h:Hs) (k:Option β):chk (0+32≤(List.length h.v)) k=k:=zp (by rw [zcR]; omega) k
theorem zvF (a b:Hs) (k:Bool→Option β):eqC 32 a.v b.v k=k (decide (a.l=b.l)):=zCj .u8 a.hl b.hl k
def Stm.h (s:Stm):Hs:=⟨s.id,s.hid⟩
theorem zv2 (s:Stm):List.take 32 s.v=s.h.v:=zDx s
theorem ziJ {l:List Stm} {i:Nat} (h:i < l.length):(l.map Stm.v)[i]?=some l[i].v:=by simp [h]
theorem zkf {l:List Hs} {i:Nat} (h:i < l.length):(l.map Hs.v)[i]?=some l[i].v:=by simp [h]
def isH (h:Hs) (x:Hs):Bool:=decide (x.l=h.l)
def isS (h:Hs) (x:Stm):Bool:=decide (x.id=h.l)
theorem zBB (a b:List Int):decide (a=b)=decide (b=a):=decide_eq_decide.2 ⟨Eq.symm,Eq.symm⟩
theorem zBZ {α:Type} {l:List α} {p:α→Bool} {i:Nat} (h:i < l.length):(l.drop i).any p=(p l[i] || (l.drop (i+1)).any p):=by
 rw [List.drop_eq_getElem_cons h]; rfl
theorem zsm {α:Type} {l:List α} {p:α→Bool} {i:Nat} (h:i < l.length):zgP p (l.drop i) i=if p l[i]=true then (i:Int) else zgP p (l.drop (i+1)) (i+1):=by
 rw [List.drop_eq_getElem_cons h]; rfl
theorem zyn (L:Nat) (h:Hs) (l:List Hs) (hl:l.length≤100000) (kr:Bool→Option β) (kx:Option β):∀ (n i:Nat),i≤l.length→l.length - i < n →
  zft L kr kx n (l.map Hs.v) (i:Int) h.v=ifb ((l.drop i).any (isH h)) (kr true) kx
 | 0,i,h1,h2=>by omega
 | n+1,i,h1,h2=>by
  simp only [zft,zkM,yw,List.length_map]
  by_cases hi:i < l.length
  ·rw [xA (by omega),zT (zkf hi),zb4,zbq,zbq,zvF,xM (by omega),zyn L h l hl kr kx n (i+1) (by omega) (by omega),zBZ hi]
   show ifb (isH h l[i]) _ _=_
   cases isH h l[i] <;> rfl
  ·rw [zz (by omega),List.drop_of_length_le (by omega)]; rfl
theorem zxT {L:Nat} {l:List Hs} (hl:l.length≤1000) (hL:2000≤L) (h:Hs) (k:Bool→Option β):zf β L (l.map Hs.v) h.v k=k (l.any (isH h)):=by
 unfold zf zmn zpE
 refine (zyn L h l (by omega) _ _ L 0 (by omega) (by omega)).trans ?_
 unfold zib ziY
 rw [List.drop_zero]
 cases l.any (isH h) <;> rfl
theorem zwy (L:Nat) (h:Hs) (l:List Stm) (hl:l.length≤100000) (k:Int→Option β):∀ (n i:Nat),i≤l.length→l.length - i < n →
  ze3 L k (k (-1)) n (l.map Stm.v) (i:Int) h.v=k (zgP (isS h) (l.drop i) i)
 | 0,i,h1,h2=>by omega
 | n+1,i,h1,h2=>by
  simp only [ze3,zjR,yw,List.length_map]
  by_cases hi:i < l.length
  ·rw [xA (by omega),zT (ziJ hi),zb4,zv2,zbq,zvF,xM (by omega),zwy L h l hl k n (i+1) (by omega) (by omega),zsm hi]
   show ifb (isS h l[i]) _ _=_
   cases isS h l[i] <;> rfl
  ·rw [zz (by omega),List.drop_of_length_le (by omega)]; rfl
theorem zzv {L:Nat} {l:List Stm} (hl:l.length≤1000) (hL:2000≤L) (h:Hs) (k:Int→Option β):zd β L (l.map Stm.v) h.v k=k (zgP (isS h) l 0):=by
 unfold zd zkQ znY
 have:=zwy L h l (by omega) k L 0 (by omega) (by omega)
 rw [List.drop_zero] at this
 exact this
theorem zup (L:Nat) (h:Hs) (l:List Hs) (hl:l.length≤100000) (k:Int→Option β):∀ (n i:Nat),i≤l.length→l.length - i < n →
  zat L k (k (-1)) n (l.map Hs.v) (l.length:Int) (i:Int) h.v=k (zgP (isH h) (l.drop i) i)
 | 0,i,h1,h2=>by omega
 | n+1,i,h1,h2=>by
  simp only [zat,zdt,yw]
  by_cases hi:i < l.length
  ·rw [xA (by omega),zT (zkf hi),zb4,zbq,zbq,zvF,zBB,xM (by omega),zup L h l hl k n (i+1) (by omega) (by omega),zsm hi]
   show ifb (isH h l[i]) _ _=_
   cases isH h l[i] <;> rfl
  ·rw [zz (by omega),List.drop_of_length_le (by omega)]; rfl
theorem zyD {L:Nat} {l:List Hs} (hl:l.length≤1000) (hL:2000≤L) (h:Hs) (k:Bool→Option β):yu β L (l.map Hs.v) h.v k=k (l.any (isH h)):=by
 unfold yu zdR
 rw [zb4,zbq]
 unfold zN zeG zeI
 rw [List.length_map]
 have:=zup L h l (by omega) (fun v0=>k (decide (v0 ≥ (0:Int)))) L 0 (by omega) (by omega)
 rw [List.drop_zero,zwn] at this
 exact this
theorem zBu (L:Nat) (s:Stm) (h:Hs) (k:Bool→List V→Option β):yv β L s.v h.v k=k (isS h s) h.v:=by
 unfold yv zp6
 rw [zzo,zb4,zv2,zbq,zvF]; exact Eq.trans rfl rfl
theorem ztr (L:Nat) (h:Hs) (l:List Stm) (hl:l.length≤100000) (k:Int→List V→Option β):∀ (n i:Nat),i≤l.length→l.length - i < n →
  z8 yv L k (k (-1)) n (l.map Stm.v) (l.length:Int) (i:Int) h.v=k (zgP (isS h) (l.drop i) i) h.v
 | 0,i,h1,h2=>by omega
 | n+1,i,h1,h2=>by
  simp only [z8,zcB,yw]
  by_cases hi:i < l.length
  ·rw [xA (by omega),zT (ziJ hi),zqf]
   rw [zBu,zp rfl,xM (by omega),ztr L h l hl k n (i+1) (by omega) (by omega),zsm hi]
   cases isS h l[i] <;> rfl
  ·rw [zz (by omega),List.drop_of_length_le (by omega)]; rfl
theorem zCl {L:Nat} {l:List Stm} (hl:l.length≤1000) (hL:2000≤L) (a:Int) (b:Bool) (c d:List (List V)) (h:Hs) (k:Int→Option β):zcP β L a b c (l.map Stm.v) d h.v k=k (zgP (isS h) l 0):=by
 unfold zcP zsw xI zdw zdu
 rw [List.length_map]
 have:=ztr L h l (by omega) (fun v0 v1=>chk ([(List.length v1)]=[(List.length h.v)]) (k v0)) L 0 (by omega) (by omega)
 rw [List.drop_zero] at this
 exact this.trans (zp rfl _)
theorem zuP (L:Nat) (l:List Int) (hl:l.length≤100000) (kr:Bool→Option β) (kx:Option β):∀ (n i:Nat),i≤l.length→l.length - i < n →
  zcr L kr kx n (zC .i64 l) (zC .i64 l) (i:Int)=kx
 | 0,i,h1,h2=>by omega
 | n+1,i,h1,h2=>by
  simp only [zcr,zgm,yw,zE]
  by_cases hi:i < l.length
  ·rw [xA (by omega),zT (zdp _ hi),zaE rfl,zT (zdp _ hi),zaE rfl,zbv,if_pos rfl,xM (by omega)]
   exact zuP L l hl kr kx n (i+1) (by omega) (by omega)
  ·rw [zz (by omega)]
theorem zDP {L:Nat} {l:List Int} (hl:l.length≤1000) (hL:2000≤L) (k:Bool→Option β):yj β L (zC .i64 l) (zC .i64 l) k=k true:=by
 unfold yj zgY zjW
 rw [zbv,if_pos rfl]
 exact zuP L l (by omega) _ _ L 0 (by omega) (by omega)
theorem zuu (L:Nat) (l:List Hs) (hl:l.length≤100000) (kr:Bool→Option β) (kx:Option β):∀ (n i:Nat),i≤l.length→l.length - i < n →
  zbO L kr kx n (l.map Hs.v) (l.map Hs.v) (i:Int)=kx
 | 0,i,h1,h2=>by omega
 | n+1,i,h1,h2=>by
  simp only [zbO,zfg,yw,List.length_map]
  by_cases hi:i < l.length
  ·rw [xA (by omega),zT (zkf hi),zT (zkf hi),zbq,zvF,decide_eq_true rfl,xM (by omega)]
   exact zuu L l hl kr kx n (i+1) (by omega) (by omega)
  ·rw [zz (by omega)]
theorem zDL {L:Nat} {l:List Hs} (hl:l.length≤1000) (hL:2000≤L) (k:Bool→Option β):yf β L (l.map Hs.v) (l.map Hs.v) k=k true:=by
 unfold yf zfz ziq
 rw [zbv,if_pos rfl]
 exact zuu L l (by omega) _ _ L 0 (by omega) (by omega)
theorem ztz {k:IntKind}:∀ (l:List Int) (t:List V),zcY t t=some true→zcY (row k l++t) (row k l++t)=some true
 | [],t,h=>h
 | x::l,t,h=>by
  have:=ztz (k:=k) l t h
  simp only [row] at this
  simp only [row,List.map_cons,List.cons_append,zcY,if_true,this,Option.map_some,BEq.rfl,Bool.and_true]
theorem zDR (s:Stm) (k:Bool→Option β):eqC 35 s.v s.v k=k true:=by
 have:zcY s.v s.v=some true:=ztz s.id _ (by simp [zcY])
 simp only [eqC,zku,and_self,zsZ,this]
theorem zwt (L:Nat) (r:Rl) (hr:r.Ok) (kr:Bool→Option β) (kx:Option β):∀ (n i:Nat),i≤r.st.length→r.st.length - i < n →
  zei yj yf L kr kx n (i:Int) r.v r.v=kx
 | 0,i,h1,h2=>by omega
 | n+1,i,h1,h2=>by
  have hs:=hr.ns
  simp only [zei,zje,yw,zk3,List.length_map]
  by_cases hi:i < r.st.length
  ·rw [xA (by omega),zT (ziJ hi),zT (ziJ hi),zqf,zDR,xM (by omega)]
   exact zwt L r hr kr kx n (i+1) (by omega) (by omega)
  ·rw [zz (by omega)]
theorem zzu {L:Nat} {r:Rl} (hr:r.Ok) (hL:2000≤L) (k:Bool→Option β):zb β L r.v r.v k=k true:=by
 have h1:=hr.nr; have h2:=hr.ns; have h3:=hr.nf
 unfold zb zkP zoz
 rw [zhX,zhX,zbv,if_pos rfl,zgV,zgV,BEq.rfl,Bool.not_true,yE,zd0,zd0,zDP (by omega) hL,Bool.not_true,yE,zoU,zoU,zDL (by omega) hL,Bool.not_true,yE,zk3,zk3,zbv,if_pos rfl]
 exact zwt L r hr _ _ L 0 (by omega) (by omega)
end
section
set_option linter.unusedVariables false
set_option linter.unusedSimpArgs false
variable {β:Type}
def za9:List (List Int)→List (List Int)→Bool
 | _,[]=>true
 | N,x::l=>!(decide (x ∈ N)) && za9 (N++[x]) l
theorem zvx:∀ (l N:List (List Int)),za9 N l=true↔l.Nodup∧∀ x ∈ l,x ∉ N
 | [],N=>by simp [za9]
 | x::l,N=>by
  rw [za9,Bool.and_eq_true,zvx l (N++[x])]
  simp only [Bool.not_eq_true',decide_eq_false_iff_not,List.nodup_cons,List.mem_cons,List.mem_append,List.mem_singleton,List.not_mem_nil,or_false]
  constructor
  ·rintro ⟨h1,h2,h3⟩
   refine ⟨⟨fun hx=>h3 x hx (.inr rfl),h2⟩,?_⟩
   rintro y (rfl | hy)
   ·exact h1
   ·exact fun hn=>h3 y hy (.inl hn)
  ·rintro ⟨⟨h1,h2⟩,h3⟩
   refine ⟨h3 x (.inl rfl),h2,fun y hy hn=>?_⟩
   rcases hn with hn | rfl
   ·exact h3 y (.inr hy) hn
   ·exact h1 hy
def zc7 (r:Rl):List (List Int):=r.st.map (·.id)
def zed (r:Rl):List (List Int):=r.fl.map (·.l)
def rtB (rt:List Int):Bool:=rt.all (fun x=>decide (0≤x)) && !(decide (rt.length=2) && decide (rt.getD 0 0=rt.getD 1 0))
def zg4 (r:Rl):Bool:=decide (r.rt.length≤2) && (decide (r.st.length≤64) && (decide (r.fl.length≤2048) && (rtB r.rt && (za9 [] (zc7 r) && za9 (zc7 r) (zed r)))))
def zjK (N:List (List Int)):List (V × V):=N.map fun l=>(V.agg (row .u8 l),V.sc (.bool true))
theorem zrW (a b:List Int) (h:a.length=b.length):zhT (V.agg (row .u8 a)) (V.agg (row .u8 b))=some (decide (a=b)):=by
 simp only [zhT,zgt,h,if_true,znS .u8 a b h]
theorem zvc (a:List Int) (ha:a.length=32):∀ N:List (List Int),(∀ x ∈ N,x.length=32)→znB (V.agg (row .u8 a)) (zjK N)=some (if a ∈ N then some (V.sc (.bool true)) else none)
 | [],_=>rfl
 | x::N,h=>by
  have ih:=zvc a ha N (fun y hy=>h y (List.mem_cons_of_mem _ hy))
  have hx:=h x (List.mem_cons_self ..)
  simp only [zjK,List.map_cons,znB,zrW a x (by omega)] at ih ⊢
  by_cases e:a=x
  ·subst e; simp
  ·simp only [decide_eq_false e,List.mem_cons,e,false_or]; exact ih
theorem zwR (a:List Int) (ha:a.length=32):∀ N:List (List Int),(∀ x ∈ N,x.length=32)→∃ m,zso (V.agg (row .u8 a)) (V.sc (.bool true)) (zjK N)=some m∧(a ∉ N→m=zjK (N++[a]))
 | [],_=>⟨_,rfl,fun _=>rfl⟩
 | x::N,h=>by
  obtain ⟨m,e1,e2⟩:=zwR a ha N (fun y hy=>h y (List.mem_cons_of_mem _ hy))
  have hx:=h x (List.mem_cons_self ..)
  by_cases e:a=x
  ·subst e
   refine ⟨(V.agg (row .u8 a),V.sc (.bool true))::zjK N,?_,fun hn=>absurd (List.mem_cons_self ..) hn⟩
   simp only [zjK,List.map_cons,zso,zrW a a rfl,decide_true]
  ·refine ⟨(V.agg (row .u8 x),V.sc (.bool true))::m,?_,fun hn=>?_⟩
   ·simp only [zjK,List.map_cons,zso,zrW a x (by omega),decide_eq_false e] at e1 ⊢
    rw [e1]; rfl
   ·rw [e2 (fun hm=>hn (List.mem_cons_of_mem _ hm))]; rfl
theorem zAP (L:Nat) (h:Hs) (N:List (List Int)) (hN:∀ x ∈ N,x.length=32) (k:Bool→List (V × V)→Option β) (R:Option β) (hk:∀ m,k false m=R):xe β L h.v (zjK N) k=ifb (!(decide (h.l ∈ N))) (k true (zjK (N++[h.l]))) R:=by
 unfold xe zkN
 have ok:zgZ 34 (V.agg (row .u8 h.l))=true:=by simp [zgZ,zgt,h.hl]
 obtain ⟨m,e1,e2⟩:=zwR h.l h.hl N hN
 rw [zb4,zbq]
 simp only [Hs.v,mAt,zAh,ok,zvc h.l h.hl N hN,e1]
 by_cases hm:h.l ∈ N
 ·rw [if_pos hm,decide_eq_true hm]
  simp only [Option.getD_some,aB]
  rw [zp (by rw [zgt,h.hl]; omega)]
  exact hk m
 ·rw [if_neg hm,decide_eq_false hm,e2 hm]
  simp only [Option.getD_none,aB]
  rw [zp (by rw [zgt,h.hl]; omega)]
  rfl
theorem zoi {rt:List Int} (h:rt.length≤2):rt=[]∨(∃ a,rt=[a])∨∃ a b,rt=[a,b]:=by
 match rt,h with
 | [],_=>exact .inl rfl
 | [a],_=>exact .inr (.inl ⟨a,rfl⟩)
 | [a,b],_=>exact .inr (.inr ⟨a,b,rfl⟩)
theorem zqz (l:List (List Int)) {i:Nat} (h:i < l.length):za9 (l.take i) (l.drop i)=(!(decide (l[i] ∈ l.take i)) && za9 (l.take (i+1)) (l.drop (i+1))):=by
 rw [List.drop_eq_getElem_cons h,za9,List.take_succ_eq_append_getElem h]
theorem zzm (L:Nat) (l:List Int) (hl:l.length≤100000) (b1:List V) (kr:Bool→Option β) (kx:List V→Option β):∀ (n i:Nat),i≤l.length→l.length - i < n →
  zdF xe L kr kx n (zC .i64 l) (l.length:Int) (i:Int) b1=ifb ((l.drop i).all (fun x=>decide (0≤x))) (kx b1) (kr false)
 | 0,i,h1,h2=>by omega
 | n+1,i,h1,h2=>by
  simp only [zdF,zin,yw]
  by_cases hi:i < l.length
  ·rw [xA (by omega),zT (zdp _ hi),zaE rfl,xM (by omega),zzm L l hl b1 kr kx n (i+1) (by omega) (by omega),List.drop_eq_getElem_cons hi,List.all_cons]
   by_cases hx:0≤l[i]
   ·rw [zz (by omega),decide_eq_true hx]; rfl
   ·rw [xA (by omega),decide_eq_false hx]; rfl
  ·rw [zz (by omega),List.drop_of_length_le (by omega)]; rfl
theorem zzj (L:Nat) (l:List Stm) (hl:l.length≤100000) (b1:List V) (kr:Bool→List (V × V)→Option β) (R:Option β) (hk:∀ m,kr false m=R) (kx:List V→List (V × V)→Option β):∀ (n i:Nat),i≤l.length→l.length - i < n →
  zbi xe L kr kx n (l.map Stm.v) (l.length:Int) (i:Int) b1 (zjK ((l.map (·.id)).take i))=ifb (za9 ((l.map (·.id)).take i) ((l.map (·.id)).drop i)) (kx b1 (zjK (l.map (·.id)))) R
 | 0,i,h1,h2=>by omega
 | n+1,i,h1,h2=>by
  simp only [zbi,zfP,yw]
  by_cases hi:i < l.length
  ·have hi':i < (l.map (·.id)).length:=by simpa using hi
   have e:(l.map (·.id))[i]=l[i].h.l:=by simp [Stm.h]
   rw [xA (by omega),zT (ziJ hi),zDa,zqf,zAM,zzo,zv2]
   rw [zAP L l[i].h _ (fun x hx=>by obtain ⟨s,_,rfl⟩:=List.mem_map.1 (List.mem_of_mem_take hx); exact s.hid) _ R (fun m=>by rw [Bool.not_false,xT]; exact hk m)]
   rw [Bool.not_true,yE,← e,← List.take_succ_eq_append_getElem hi',xM (by omega),zzj L l hl b1 kr R hk kx n (i+1) (by omega) (by omega),zqz _ hi']
   cases !(decide ((l.map (·.id))[i] ∈ (l.map (·.id)).take i)) <;> rfl
  ·have e1:(l.map (·.id)).take i=l.map (·.id):=List.take_of_length_le (by simp; omega)
   have e2:(l.map (·.id)).drop i=[]:=List.drop_of_length_le (by simp; omega)
   rw [zz (by omega),e1,e2]; rfl
theorem zzt (L:Nat) (N:List (List Int)) (hN:∀ x ∈ N,x.length=32) (l:List Hs) (hl:l.length≤100000) (kr:Bool→List (V × V)→Option β) (R:Option β) (hk:∀ m,kr false m=R) (kx:List (V × V)→Option β) (hx:∀ m,kx m=kx []):∀ (n i:Nat),i≤l.length→l.length - i < n →
  zbS xe L kr kx n (l.map Hs.v) (l.length:Int) (i:Int) (zjK (N++(l.map (·.l)).take i))=ifb (za9 (N++(l.map (·.l)).take i) ((l.map (·.l)).drop i)) (kx []) R
 | 0,i,h1,h2=>by omega
 | n+1,i,h1,h2=>by
  simp only [zbS,zfn,yw]
  by_cases hi:i < l.length
  ·have hi':i < (l.map (·.l)).length:=by simpa using hi
   have e:(l.map (·.l))[i]=l[i].l:=by simp
   rw [xA (by omega),zT (zkf hi),zA4,zbq,zyk,zb4,zbq]
   rw [zAP L l[i] _ (fun x hx=>by
    rcases List.mem_append.1 hx with hx | hx
    ·exact hN x hx
    ·obtain ⟨s,_,rfl⟩:=List.mem_map.1 (List.mem_of_mem_take hx); exact s.hl) _ R (fun m=>by rw [Bool.not_false,xT]; exact hk m)]
   rw [Bool.not_true,yE,← e,List.append_assoc,← List.take_succ_eq_append_getElem hi',xM (by omega),zzt L N hN l hl kr R hk kx hx n (i+1) (by omega) (by omega)]
   rw [List.drop_eq_getElem_cons hi',za9,List.append_assoc,← List.take_succ_eq_append_getElem hi']
   cases !(decide ((l.map (·.l))[i] ∈ N++(l.map (·.l)).take i)) <;> rfl
  ·have e2:(l.map (·.l)).drop i=[]:=List.drop_of_length_le (by simp; omega)
   rw [zz (by omega),e2]; exact hx _
theorem zdX (a b:Bool) (x y:Option β):ifb (a && b) x y=ifb a (ifb b x y) y:=by cases a <;> cases b <;> rfl
theorem zB3 (a:Bool) (k:Bool→Option β):ifb a (k true) (k false)=k a:=by cases a <;> rfl
theorem zyg {L:Nat} {r:Rl} (hr:r.Ok) (hL:2000≤L) (k:Bool→Option β):ym β L r.v k=k (zg4 r):=by
 have h1:=hr.nr; have h2:=hr.ns; have h3:=hr.nf
 unfold ym zjE zna
 rw [← zB3 (zg4 r) k,zg4,zdX,zdX,zdX,zdX]
 simp only [zd0,zk3,zoU,zE,List.length_map]
 by_cases q1:r.rt.length≤2
 ·rw [zz (by omega),decide_eq_true q1,xT]
  by_cases q2:r.st.length≤64
  ·rw [zz (by omega),decide_eq_true q2,xT,zz (by omega),decide_eq_true (by omega:r.fl.length≤2048),xT]
   refine (zzm L r.rt (by omega) r.v _ _ L 0 (by omega) (by omega)).trans ?_
   rw [List.drop_zero,rtB,zdX]
   cases r.rt.all (fun x=>decide (0≤x)) with
   | false=>rfl
   | true =>
    rw [xT,xT]
    have key:∀ (p:List (List V)) (m:Int),p=r.st.map Stm.v→m=(r.st.length:Int) →
      zbi xe L (fun p2 b52=>zdM xe L p2 b52 k) (fun b1 b52=>zbr xe L b1 b52 k) L p m (0:Int) r.v []=ifb (za9 [] (zc7 r) && za9 (zc7 r) (zed r)) (k true) (k false):=by
     rintro p m rfl rfl
     refine (zzj L r.st (by omega) r.v _ (k false) (fun m=>rfl) _ L 0 (by omega) (by omega)).trans ?_
     rw [zdX]
     simp only [List.take_zero,List.drop_zero]
     show ifb (za9 [] (zc7 r)) _ _=_
     cases za9 [] (zc7 r) with
     | false=>rfl
     | true =>
      rw [xT,xT]
      unfold zbr zeV
      rw [zoU,List.length_map]
      have:=zzt L (zc7 r) (fun x hx=>by obtain ⟨s,_,rfl⟩:=List.mem_map.1 hx; exact s.hid) r.fl (by omega) (fun p2 b52=>zdq xe L p2 b52 k) (k false) (fun m=>rfl) (fun b52=>zeB xe L b52 k) (fun m=>rfl) L 0 (by omega) (by omega)
      simp only [List.take_zero,List.drop_zero,List.append_nil] at this
      exact this
    unfold zd3 zgC
    rw [zd0,zE]
    rcases zoi q1 with e | ⟨a,e⟩ | ⟨a,b,e⟩
    ·rw [zJ (by rw [e]; exact (by decide:((0:Nat):Int)≠2)),zk3,List.length_map]
     refine (key _ _ rfl rfl).trans ?_
     rw [e]; rfl
    ·rw [zJ (by rw [e]; exact (by decide:((1:Nat):Int)≠2)),zk3,List.length_map]
     refine (key _ _ rfl rfl).trans ?_
     rw [e]; rfl
    ·have e0:(zC .i64 r.rt)[0]?=some [V.sc (.int .i64 a)]:=by rw [e]; rfl
     have e1:(zC .i64 r.rt)[1]?=some [V.sc (.int .i64 b)]:=by rw [e]; rfl
     have g0:r.rt.getD 0 0=a:=by rw [e]; rfl
     have g1:r.rt.getD 1 0=b:=by rw [e]; rfl
     rw [zaC (by rw [e]; rfl),zd0,zjY (by decide) e0,zaE rfl,zd0,zjY (by decide) e1,zaE rfl,zk3,List.length_map,decide_eq_true (by rw [e]; rfl:r.rt.length=2),Bool.true_and,g0,g1]
     by_cases hab:a=b
     ·rw [zaC hab,decide_eq_true hab]; rfl
     ·rw [zJ hab,decide_eq_false hab,Bool.not_false,xT]
      exact key _ _ rfl rfl
  ·rw [xA (by omega),decide_eq_false q2]; rfl
 ·rw [xA (by omega),decide_eq_false q1]; rfl
end
section
set_option linter.unusedVariables false
set_option linter.unusedSimpArgs false
variable {β:Type}
theorem zzc (h:Hs) (l:List Hs):l.any (isH h)=decide (h.l ∈ l.map (·.l)):=by
 rw [Bool.eq_iff_iff,List.any_eq_true,decide_eq_true_eq,List.mem_map]
 constructor
 ·rintro ⟨x,hx,e⟩; exact ⟨x,hx,of_decide_eq_true e⟩
 ·rintro ⟨x,hx,e⟩; exact ⟨x,hx,decide_eq_true e⟩
theorem zAU (l:List Stm) {i:Nat} (hi:i < l.length):decide (zgP (isS l[i].h) l 0=(i:Int))=!(decide ((l.map (·.id))[i]'(by simpa using hi) ∈ (l.map (·.id)).take i)):=by
 have e:(l.map (·.id))[i]'(by simpa using hi)=l[i].h.l:=by simp [Stm.h]
 rw [e,← decide_not]
 apply decide_eq_decide.2
 rcases zr1 (isS l[i].h) l 0 with ⟨h1,h2⟩ | ⟨j,hj,h1,h2,h3⟩
 ·have:=h2 l[i] (List.getElem_mem hi)
  simp [isS,Stm.h] at this
 ·rw [h1,Nat.zero_add]
  constructor
  ·intro hji
   have hji:j=i:=by omega
   subst hji
   intro hm
   rw [← List.map_take] at hm
   obtain ⟨s,hs,e⟩:=List.mem_map.1 hm
   have:=h2 s hs
   simp [isS,e] at this
  ·intro hn
   by_cases hji:j=i
   ·rw [hji]
   ·exfalso
    rcases Nat.lt_or_gt_of_ne hji with q | q
    ·apply hn
     rw [← List.map_take]
     refine List.mem_map.2 ⟨l[j],?_,by simpa [isS] using h3⟩
     rw [List.mem_take_iff_getElem]
     exact ⟨j,by omega,rfl⟩
    ·have:=h2 l[i] (by
      rw [List.mem_take_iff_getElem]
      exact ⟨i,by omega,rfl⟩)
     simp [isS,Stm.h] at this
theorem zx7 (L:Nat) (hL:2000≤L) (r:Rl) (hr:r.Ok) (kr:Bool→Option β) (kx:List V→Option β):∀ (n i:Nat),i≤r.fl.length→r.fl.length - i < n →
  zdi zf zd L kr kx n (i:Int) r.v=ifb (za9 ((zed r).take i) ((zed r).drop i)) (kx r.v) (kr false)
 | 0,i,h1,h2=>by omega
 | n+1,i,h1,h2=>by
  have h3:=hr.nf
  simp only [zdi,zhw,yw,zoU,List.length_map]
  by_cases hi:i < r.fl.length
  ·have hi':i < (zed r).length:=by simpa [zed] using hi
   have e:(zed r)[i]=r.fl[i].l:=by simp [zed]
   rw [xA (by omega),zp ⟨by omega,by omega⟩,zT (zkf hi),List.drop_zero,Nat.sub_zero,Int.toNat_natCast,← List.map_take,zbq,zxT (by rw [List.length_take]; omega) hL,xM (by omega),zx7 L hL r hr kr kx n (i+1) (by omega) (by omega),zqz _ hi',zzc,← e]
   rw [show (r.fl.take i).map (·.l)=(zed r).take i by rw [zed,List.map_take]]
   cases decide ((zed r)[i] ∈ (zed r).take i) <;> rfl
  ·have e2:(zed r).drop i=[]:=List.drop_of_length_le (by simp [zed]; omega)
   rw [zz (by omega),e2]; rfl
theorem zxV (L:Nat) (hL:2000≤L) (r:Rl) (hr:r.Ok) (kr:Bool→Option β) (kx:Option β):∀ (n i:Nat),i≤r.st.length→r.st.length - i < n →
  zcE zf zd L kr kx n (i:Int) r.v=ifb (za9 ((zc7 r).take i) ((zc7 r).drop i) && ((zc7 r).drop i).all (fun x=>!(decide (x ∈ zed r)))) kx (kr false)
 | 0,i,h1,h2=>by omega
 | n+1,i,h1,h2=>by
  have h3:=hr.nf
  have h4:=hr.ns
  simp only [zcE,zgU,yw,zk3,zoU,List.length_map]
  by_cases hi:i < r.st.length
  ·have hi':i < (zc7 r).length:=by simpa [zc7] using hi
   have e:(zc7 r)[i]=r.st[i].h.l:=by simp [zc7,Stm.h]
   have ef:=zAU r.st hi
   rw [xA (by omega),zT (ziJ hi),zv2,zzv (by omega) hL,zT (ziJ hi),zv2,zxT (by omega) hL,xM (by omega),zxV L hL r hr kr kx n (i+1) (by omega) (by omega),zqz _ hi',zzc,← e,zbv]
   have es:decide (zgP (isS r.st[i].h) r.st 0=(i:Int))=!(decide ((zc7 r)[i] ∈ (zc7 r).take i)):=ef
   have ed:((zc7 r).drop i).all (fun x=>!(decide (x ∈ zed r)))=(!(decide ((zc7 r)[i] ∈ zed r)) && ((zc7 r).drop (i+1)).all (fun x=>!(decide (x ∈ zed r)))):=by
    rw [List.drop_eq_getElem_cons hi']; rfl
   rw [ed,show r.fl.map (·.l)=zed r from rfl]
   by_cases hf:zgP (isS r.st[i].h) r.st 0=(i:Int)
   ·rw [if_pos hf]
    rw [decide_eq_true hf] at es
    rw [← es,Bool.true_and]
    cases decide ((zc7 r)[i] ∈ zed r) with
    | true=>rw [xT,Bool.not_true,Bool.false_and,Bool.and_false,yE]
    | false=>rw [yE,Bool.not_false,Bool.true_and]
   ·rw [if_neg hf]
    rw [decide_eq_false hf] at es
    rw [← es,Bool.false_and,Bool.false_and,yE]
  ·have e2:(zc7 r).drop i=[]:=List.drop_of_length_le (by simp [zc7]; omega)
   rw [zz (by omega),e2]; rfl
theorem zzz (r:Rl):(za9 [] (zed r) && (za9 [] (zc7 r) && (zc7 r).all (fun x=>!(decide (x ∈ zed r)))))=(za9 [] (zc7 r) && za9 (zc7 r) (zed r)):=by
 rw [Bool.eq_iff_iff]
 simp only [Bool.and_eq_true,zvx,List.all_eq_true,Bool.not_eq_true',decide_eq_false_iff_not,List.not_mem_nil,not_false_eq_true,implies_true,and_true]
 constructor
 ·rintro ⟨h1,h2,h3⟩; exact ⟨h2,h1,fun x hx hs=>h3 x hs hx⟩
 ·rintro ⟨h2,h1,h3⟩; exact ⟨h1,h2,fun x hx hf=>h3 x hf hx⟩
theorem zwv {L:Nat} {r:Rl} (hr:r.Ok) (hL:2000≤L) (k:Bool→Option β):zg β L r.v k=k (zg4 r):=by
 have h1:=hr.nr; have h2:=hr.ns; have h3:=hr.nf
 obtain ⟨L',rfl⟩:=Nat.exists_eq_add_of_le hL
 unfold zg zjD zmY
 rw [← zB3 (zg4 r) k,zg4,zdX,zdX,zdX,zdX]
 simp only [zd0,zk3,zoU,zE,List.length_map]
 by_cases q1:r.rt.length≤2
 ·rw [zz (by omega),decide_eq_true q1,xT]
  by_cases q2:r.st.length≤64
  ·rw [zz (by omega),decide_eq_true q2,xT,zz (by omega),decide_eq_true (by omega:r.fl.length≤2048),xT]
   have key:yF zf zd (2000+L') r.v k=ifb (za9 [] (zc7 r) && za9 (zc7 r) (zed r)) (k true) (k false):=by
    unfold yF zgK
    refine (zx7 (2000+L') hL r hr _ _ (2000+L') 0 (by omega) (by omega)).trans ?_
    simp only [List.take_zero,List.drop_zero]
    rw [← zzz r,zdX]
    cases za9 [] (zed r) with
    | false=>rfl
    | true =>
     rw [xT,xT]
     unfold zdB zgc
     refine (zxV (2000+L') hL r hr _ _ (2000+L') 0 (by omega) (by omega)).trans ?_
     simp only [List.take_zero,List.drop_zero]
     rfl
   rw [show 2000+L'=(1997+L')+1+1+1 by omega] at key ⊢
   generalize hM:1997+L'=M at key ⊢
   rcases zoi q1 with e | ⟨a,e⟩ | ⟨a,b,e⟩
   ·refine (show _=xO zf zd (M+1+1+1) ((0:Nat):Int) r.v (fun p2=>zL zf zd (M+1+1+1) p2 k) (fun p3 b1=>zaA zf zd (M+1+1+1) (fun p2=>zL zf zd (M+1+1+1) p2 k) (fun b1=>yF zf zd (M+1+1+1) b1 k) (M+1+1) p3 b1) (fun b1=>yF zf zd (M+1+1+1) b1 k) from rfl).trans ?_
    unfold xO
    rw [zd0,zE,zz (by rw [e]; decide)]
    refine key.trans ?_
    rw [rtB,e]; rfl
   ·have e0:(zC .i64 r.rt)[0]?=some [V.sc (.int .i64 a)]:=by rw [e]; rfl
    refine (show _=xO zf zd (M+1+1+1) ((0:Nat):Int) r.v (fun p2=>zL zf zd (M+1+1+1) p2 k) (fun p3 b1=>zaA zf zd (M+1+1+1) (fun p2=>zL zf zd (M+1+1+1) p2 k) (fun b1=>yF zf zd (M+1+1+1) b1 k) (M+1+1) p3 b1) (fun b1=>yF zf zd (M+1+1+1) b1 k) from rfl).trans ?_
    unfold xO
    rw [zd0,zE,xA (by rw [e]; simp),zd0,zT e0,zaE rfl,zz (by decide:¬ ((0:Nat):Int) > 0),yw,xM (by omega)]
    rw [show rtB r.rt=decide (0≤a) by rw [rtB,e]; simp]
    by_cases ha:0≤a
    ·rw [zz (by omega),decide_eq_true ha,xT]
     refine (show _=xO zf zd (M+1+1+1) ((1:Nat):Int) r.v (fun p2=>zL zf zd (M+1+1+1) p2 k) (fun p3 b1=>zaA zf zd (M+1+1+1) (fun p2=>zL zf zd (M+1+1+1) p2 k) (fun b1=>yF zf zd (M+1+1+1) b1 k) (M+1) p3 b1) (fun b1=>yF zf zd (M+1+1+1) b1 k) from rfl).trans ?_
     unfold xO
     rw [zd0,zE,zz (by rw [e]; simp)]
     exact key
    ·rw [xA (by omega),decide_eq_false ha]; rfl
   ·have e0:(zC .i64 r.rt)[0]?=some [V.sc (.int .i64 a)]:=by rw [e]; rfl
    have e1:(zC .i64 r.rt)[1]?=some [V.sc (.int .i64 b)]:=by rw [e]; rfl
    refine (show _=xO zf zd (M+1+1+1) ((0:Nat):Int) r.v (fun p2=>zL zf zd (M+1+1+1) p2 k) (fun p3 b1=>zaA zf zd (M+1+1+1) (fun p2=>zL zf zd (M+1+1+1) p2 k) (fun b1=>yF zf zd (M+1+1+1) b1 k) (M+1+1) p3 b1) (fun b1=>yF zf zd (M+1+1+1) b1 k) from rfl).trans ?_
    unfold xO
    rw [zd0,zE,xA (by rw [e]; simp),zd0,zT e0,zaE rfl,zz (by decide:¬ ((0:Nat):Int) > 0),yw,xM (by omega)]
    rw [show rtB r.rt=(decide (0≤a) && (decide (0≤b) && !(decide (a=b)))) by rw [rtB,e]; simp [Bool.and_assoc]]
    by_cases ha:0≤a
    ·rw [zz (by omega),decide_eq_true ha,Bool.true_and,zdX]
     refine (show _=xO zf zd (M+1+1+1) ((1:Nat):Int) r.v (fun p2=>zL zf zd (M+1+1+1) p2 k) (fun p3 b1=>zaA zf zd (M+1+1+1) (fun p2=>zL zf zd (M+1+1+1) p2 k) (fun b1=>yF zf zd (M+1+1+1) b1 k) (M+1) p3 b1) (fun b1=>yF zf zd (M+1+1+1) b1 k) from rfl).trans ?_
     unfold xO
     rw [zd0,zE,xA (by rw [e]; simp),zd0,zT e1,zaE rfl,xA (by decide:((1:Nat):Int) > 0),zd0,zjY (by decide) e0,zaE rfl,zd0,zjY (by decide) e1,zaE rfl,yw,xM (by omega)]
     by_cases hb:0≤b
     ·rw [zz (by omega),decide_eq_true hb,xT]
      by_cases hab:a=b
      ·rw [zaC hab,decide_eq_true hab]; rfl
      ·rw [zJ hab,decide_eq_false hab,Bool.not_false,xT]
       refine (show _=xO zf zd (M+1+1+1) ((2:Nat):Int) r.v (fun p2=>zL zf zd (M+1+1+1) p2 k) (fun p3 b1=>zaA zf zd (M+1+1+1) (fun p2=>zL zf zd (M+1+1+1) p2 k) (fun b1=>yF zf zd (M+1+1+1) b1 k) M p3 b1) (fun b1=>yF zf zd (M+1+1+1) b1 k) from rfl).trans ?_
       unfold xO
       rw [zd0,zE,zz (by rw [e]; simp)]
       exact key
     ·rw [xA (by omega),decide_eq_false hb]; rfl
    ·rw [xA (by omega),decide_eq_false ha]; rfl
  ·rw [xA (by omega),decide_eq_false q2]; rfl
 ·rw [xA (by omega),decide_eq_false q1]; rfl
end
section
set_option linter.unusedVariables false
set_option linter.unusedSimpArgs false
variable {β:Type}
def sfl (l:List Stm):List V:=(l.map Stm.v).flatten
def hfl (l:List Hs):List V:=(l.map Hs.v).flatten
def ifl (l:List Int):List V:=(zC .i64 l).flatten
theorem zsb (l:List Int):∀ e ∈ zC .i64 l,e.length=1:=by
 intro e he
 obtain ⟨n,_,rfl⟩:=List.mem_map.1 he; rfl
theorem zoo (l:List Stm):∀ e ∈ l.map Stm.v,e.length=35:=by
 intro e he
 obtain ⟨s,_,rfl⟩:=List.mem_map.1 he; exact zku s
theorem zqD (l:List Hs):∀ e ∈ l.map Hs.v,e.length=32:=by
 intro e he
 obtain ⟨s,_,rfl⟩:=List.mem_map.1 he; exact zcR s
theorem chI (l:List Int):xc 1 l.length (ifl l)=zC .i64 l:=by
 have:=zfH (zsb l); rwa [zE] at this
theorem chS (l:List Stm):xc 35 l.length (sfl l)=l.map Stm.v:=by
 have:=zfH (zoo l); rwa [List.length_map] at this
theorem chH (l:List Hs):xc 32 l.length (hfl l)=l.map Hs.v:=by
 have:=zfH (zqD l); rwa [List.length_map] at this
theorem zvX (l:List Stm):(sfl l).length=l.length * 35:=by
 have:=zuf (zoo l); rwa [List.length_map] at this
theorem zzn (l:List Hs):(hfl l).length=l.length * 32:=by
 have:=zuf (zqD l); rwa [List.length_map] at this
theorem zCi (l:List Int):(ifl l).length=l.length * 1:=by
 have:=zuf (zsb l); rwa [zE] at this
theorem zxG (a:Option β) (b:List V→List (List V)→Option β):lc [] a b=a:=Eq.trans rfl rfl
theorem zvM (x:List V) (l:List (List V)) (a:Option β) (b:List V→List (List V)→Option β):lc (x::l) a b=b x l:=Eq.trans rfl rfl
theorem zAv (L:Nat) (l:List Int) (hl:l.length≤1000) (k:List (List V)→Option β):yg β L (zC .i64 l) k=k (zC .i64 l):=by
 unfold yg zfo
 cases h:zC .i64 l with
 | nil=>rw [zxG]
 | cons x m =>
  have hlen:(x::m).length≤1000:=by rw [← h,zE]; exact hl
  rw [zvM,zp (by simp only [zj]; omega),zp (.inl (by simp)),zfH (by rw [← h]; exact zsb l)]
theorem zDB (L:Nat) (l:List Stm) (hl:l.length≤1000) (k:List (List V)→Option β):yq β L (l.map Stm.v) k=k (l.map Stm.v):=by
 unfold yq zb9
 cases h:l.map Stm.v with
 | nil=>rw [zxG]
 | cons x m =>
  have hlen:(x::m).length≤1000:=by rw [← h,List.length_map]; exact hl
  rw [zvM,zp (by simp only [zj]; omega),zp (.inl (by simp)),zfH (by rw [← h]; exact zoo l)]
theorem zDG (L:Nat) (l:List Hs) (hl:l.length≤1000) (k:List (List V)→Option β):zq β L (l.map Hs.v) k=k (l.map Hs.v):=by
 unfold zq zca
 cases h:l.map Hs.v with
 | nil=>rw [zxG]
 | cons x m =>
  have hlen:(x::m).length≤1000:=by rw [← h,List.length_map]; exact hl
  rw [zvM,zp (by simp only [zj]; omega),zp (.inl (by simp)),zfH (by rw [← h]; exact zqD l)]
theorem zmI {L:Nat} {r:Rl} (hr:r.Ok) (k:Int→Bool→Nat→Nat→Nat→List V→List V→List V→Option β):zl β L r.v k=k r.ep r.df r.rt.length r.st.length r.fl.length (ifl r.rt) (sfl r.st) (hfl r.fl):=by
 have h1:=hr.nr; have h2:=hr.ns; have h3:=hr.nf
 unfold zl zlJ
 rw [zhd,zhX,zgV,zjO,zjM,zjG,zAv L _ (by omega),zDB L _ (by omega),zDG L _ (by omega),zE,List.length_map,List.length_map]
 exact Eq.trans rfl rfl
theorem zdE {L:Nat} {r:Rl} (hr:r.Ok) (k:Int→Bool→Nat→Nat→Nat→List V→List V→List V→Option β):xf β L r.v k=k r.ep r.df r.rt.length r.st.length r.fl.length (ifl r.rt) (sfl r.st) (hfl r.fl):=by
 have h1:=hr.nr; have h2:=hr.ns; have h3:=hr.nf
 unfold xf zlG
 rw [zhd,zhX,zgV,zjO,zjM,zjG,zE,List.length_map,List.length_map,zp (by simp only [zj]; omega),zp (by simp only [zj]; omega),zp (by simp only [zj]; omega)]
 exact Eq.trans rfl rfl
def zaq (rt:List Int) (p:Int):Int:=match rt with
 | []=>-1
 | [a]=>if a=p then -1 else a
 | a::b::_=>if p≠-1∧Int.tmod p 2≠0 then (if b=p then a else b) else (if a=p then b else a)
theorem zz3 (a:Int) (l:List Int) (k:List V→Option β):idx (zC .i64 (a::l)) (0:Int) k=k [V.sc (.int .i64 a)]:=zjY (by decide) rfl k
theorem zDy (a b:Int) (l:List Int) (k:List V→Option β):idx (zC .i64 (a::b::l)) (1:Int) k=k [V.sc (.int .i64 b)]:=zjY (by decide) rfl k
theorem cI1 (a:Int) (k:Int→Option β):cI .i64 [V.sc (.int .i64 a)] 0 k=k a:=zaE rfl k
theorem w10:IntKind.wrap .i64 ((1:Int) - (0:Int))=1:=by decide
theorem w11:IntKind.wrap .i64 ((1:Int) - (1:Int))=0:=by decide
theorem zya (L:Nat) (r:Rl) (h:r.rt.length≤2) (p:Int) (k:Int→Option β):yd β L r.v p k=k (zaq r.rt p):=by
 obtain ⟨ep,df,rt,st,fl⟩:=r
 unfold yd zm6
 simp only [zd0,yw]
 rcases zoi h with e | ⟨a,e⟩ | ⟨a,b,e⟩ <;> simp only at e <;> subst e
 ·simp only [zE,List.length_nil]
  rw [zaC (by decide)]; rfl
 ·simp only [zE,List.length_cons,List.length_nil,zz3,cI1]
  rw [zJ (by decide),zz (by decide),zz (by decide),zbv]
  by_cases q:a=p <;> simp [zaq,q]
 ·simp only [zE,List.length_cons,List.length_nil,zz3,zDy,cI1,w10,w11]
  rw [zJ (by decide),xA (by decide),xA (by decide)]
  simp only [zbv]
  unfold zaq
  by_cases q1:p=-1
  ·subst q1; simp; split <;> rfl
  ·by_cases q2:Int.tmod p 2=0
   ·simp [q1,q2]; split <;> rfl
   ·simp [q1,q2]; split <;> rfl
theorem zwJ (L:Nat) (r:Rl) (h:r.rt.length≤2) (p:Int) (k:Int→Option β):xd β L r.v p k=k (zaq r.rt p):=by
 obtain ⟨ep,df,rt,st,fl⟩:=r
 unfold xd zmR
 simp only [zd0,yw]
 rcases zoi h with e | ⟨a,e⟩ | ⟨a,b,e⟩ <;> simp only at e <;> subst e
 ·simp only [zE,List.length_nil]
  rw [zaC (by decide)]; rfl
 ·simp only [zE,List.length_cons,List.length_nil,zz3,cI1]
  rw [zJ (by decide),zz (by decide),zbv,zaC (by decide)]
  by_cases q:a=p <;> simp [zaq,q]
 ·simp only [zE,List.length_cons,List.length_nil,zz3,zDy,cI1,w10,w11]
  rw [zJ (by decide),xA (by decide)]
  simp only [zbv]
  have n1:∀ x y:Option β,ifb ((((0+1+1:Nat):Int)) == 1) x y=y:=fun x y=>zJ (by decide) x y
  simp only [n1]
  unfold zaq
  by_cases q1:p=-1
  ·subst q1; simp; split <;> rfl
  ·by_cases q2:Int.tmod p 2=0
   ·simp [q1,q2]; split <;> rfl
   ·simp [q1,q2]; split <;> rfl
theorem ztl {rt:List Int} (h:rt.length≤2) (hb:rtB rt=true) (p:Int):zaq rt p=-1∨0≤zaq rt p:=by
 unfold rtB at hb
 simp only [Bool.and_eq_true,List.all_eq_true,decide_eq_true_eq] at hb
 rcases zoi h with e | ⟨a,e⟩ | ⟨a,b,e⟩ <;> subst e
 ·exact .inl rfl
 ·have:=hb.1 a (by simp)
  show (if a=p then -1 else a)=-1∨0≤(if a=p then -1 else a)
  by_cases q:a=p
  ·exact .inl (if_pos q)
  ·exact .inr (by rw [if_neg q]; exact this)
 ·have h1:=hb.1 a (by simp)
  have h2:=hb.1 b (by simp)
  right
  show 0≤(if p≠-1∧Int.tmod p 2≠0 then (if b=p then a else b) else (if a=p then b else a))
  split <;> split <;> assumption
theorem zBw {a:Int} (h0:0≤a) (h1:a≤4294967295):zAa .u32 a=4294967295 - a:=by
 obtain ⟨x,rfl⟩:=Int.eq_ofNat_of_zero_le h0
 have e1:BitVec.ofInt 32 (IntKind.max .u32)=BitVec.allOnes 32:=by decide
 have key:zAa .u32 (x:Int)=IntKind.wrap .u32 (((BitVec.allOnes 32 ^^^ BitVec.ofInt 32 (x:Int)).toNat:Nat):Int):=by
  rw [← e1]; rfl
 have e2:(BitVec.ofInt 32 (x:Int)).toNat=x:=by
  rw [BitVec.toNat_ofInt]
  show ((x:Int) % ((2 ^ 32:Nat):Int)).toNat=_
  rw [← Int.natCast_emod,Int.toNat_natCast,Nat.mod_eq_of_lt (by omega)]
 rw [key,BitVec.allOnes_xor,BitVec.toNat_not,e2,zuj (by omega) (by omega)]
 omega
def zdL (a b:Int):Int:=if b > 4294967295 - a then 4294967295 else a+b
theorem zye (L:Nat) {a b:Int} (ha:0≤a∧a≤4294967295) (hb:0≤b∧b≤4294967295) (k:Int→Option β):xn β L a b k=k (zdL a b):=by
 unfold xn zm5 zdL
 have e:zAa .u32 a=4294967295 - a:=zBw ha.1 ha.2
 simp only [yw,e,zp9]
 split
 ·rfl
 ·rw [zuj (by omega) (by omega)]
theorem zwG (L:Nat) {a b:Int} (ha:0≤a∧a≤4294967295) (hb:0≤b∧b≤4294967295) (k:Int→Option β):xh β L a b k=k (zdL a b):=by
 unfold xh zmU zdL
 simp only [yw]
 rw [zoe ha.1 (by omega),zoe hb.1 (by omega),zoe (by omega) (by omega)]
 unfold zDu
 split <;> split <;> rw [zuj (by omega) (by omega)] <;> congr 1 <;> omega
theorem zpl {p q:List V} {n j:Nat} {x:V} (h:p.length=n) (hj:j < q.length):zc (p++q) (n+j) [x]=p++q.set j x:=by
 rw [zAI (by rw [List.length_append]; omega),List.set_append,if_neg (by omega),h,Nat.add_sub_cancel_left]
theorem zxO (h:Hs) (fr to due:Int):zc (zc (zc (zc (List.replicate 32 (V.sc (.int .u8 (0:Int)))++[(V.sc (.int .i64 (0:Int))),(V.sc (.int .i64 (0:Int))),(V.sc (.int .u32 (0:Int)))]) 0 h.v) 32 [(V.sc (.int .i64 fr))]) 33 [(V.sc (.int .i64 to))]) 34 [(V.sc (.int .u32 due))]=(Stm.mk h.l fr to due h.hl).v:=by
 have e0:zc (List.replicate 32 (V.sc (.int .u8 (0:Int)))++[(V.sc (.int .i64 (0:Int))),(V.sc (.int .i64 (0:Int))),(V.sc (.int .u32 (0:Int)))]) 0 h.v=h.v++[(V.sc (.int .i64 (0:Int))),(V.sc (.int .i64 (0:Int))),(V.sc (.int .u32 (0:Int)))]:=by
  have:=zcR h
  unfold zc
  rw [List.take_zero,List.nil_append,Nat.zero_add,this]
  congr 1
 rw [e0,zpl (n:=32) (j:=0) (zcR h) (by decide),zpl (n:=32) (j:=1) (zcR h) (by simp),zpl (n:=32) (j:=2) (zcR h) (by simp)]
 exact Eq.trans rfl rfl
theorem ztI (s:Stm):xc 35 1 (zc (List.replicate 32 (V.sc (.int .u8 (0:Int)))++[(V.sc (.int .i64 (0:Int))),(V.sc (.int .i64 (0:Int))),(V.sc (.int .u32 (0:Int)))]) 0 s.v)=[s.v]:=by
 rw [zAM,xc,zqf]; exact Eq.trans rfl rfl
theorem zy2 (l:List Stm) (s:Stm):List.take (l.length * 35) (sfl l)++List.flatten [s.v]=sfl (l++[s]):=by
 rw [List.take_of_length_le (by rw [zvX]; omega),sfl,sfl,List.map_append,List.flatten_append]; exact Eq.trans rfl rfl
theorem zEa (l:List Stm) (s:Stm):xc 35 (l.length+List.length [s.v]) (sfl (l++[s]))=(l++[s]).map Stm.v:=by
 have:=chS (l++[s]); rwa [List.length_append] at this
theorem z0 (h:Hs):(List.length (zc (List.replicate 32 (V.sc (.int .u8 (0:Int)))++[(V.sc (.int .i64 (0:Int))),(V.sc (.int .i64 (0:Int))),(V.sc (.int .u32 (0:Int)))]) 0 h.v))=35:=by
 rw [zoR (by rw [zcR]; decide)]; rfl
theorem z1 (h:Hs) (a:V):(List.length (zc (zc (List.replicate 32 (V.sc (.int .u8 (0:Int)))++[(V.sc (.int .i64 (0:Int))),(V.sc (.int .i64 (0:Int))),(V.sc (.int .u32 (0:Int)))]) 0 h.v) 32 [a]))=35:=by
 rw [zoR (by rw [z0,List.length_singleton]; omega),z0]
theorem z2 (h:Hs) (a b:V):(List.length (zc (zc (zc (List.replicate 32 (V.sc (.int .u8 (0:Int)))++[(V.sc (.int .i64 (0:Int))),(V.sc (.int .i64 (0:Int))),(V.sc (.int .u32 (0:Int)))]) 0 h.v) 32 [a]) 33 [b]))=35:=by
 rw [zoR (by rw [z1,List.length_singleton]; omega),z1]
end
section
set_option linter.unusedVariables false
set_option linter.unusedSimpArgs false
variable {β:Type}
def zgT:List V:=[(V.sc (.int .u32 (0:Int))),(V.sc (.bool false)),(V.sl 1 ([]:List (List V))),(V.sl 35 ([]:List (List V))),(V.sl 32 ([]:List (List V)))]
def Rl.more (r:Rl) (s:Stm):Rl:={ r with st:=r.st++[s] }
theorem zht (r:Rl):[(V.sc (.int .u32 r.ep)),(V.sc (.bool r.df)),(V.sl 1 (zC .i64 r.rt)),(V.sl 35 (r.st.map Stm.v)),(V.sl 32 (r.fl.map Hs.v))]=r.v:=Eq.trans rfl rfl
theorem zlW (r:Rl):[(V.sc (.int .u32 r.ep)),(V.sc (.bool r.df)),(V.sl 1 (xc 1 r.rt.length (ifl r.rt))),(V.sl 35 (xc 35 r.st.length (sfl r.st))),(V.sl 32 (xc 32 r.fl.length (hfl r.fl)))]=r.v:=by
 rw [chI,chS,chH]; exact Eq.trans rfl rfl
theorem zy5 (r:Rl) (s:Stm):[(V.sc (.int .u32 r.ep)),(V.sc (.bool r.df)),(V.sl 1 (xc 1 r.rt.length (ifl r.rt))),(V.sl 35 (xc 35 (r.st.length+List.length [s.v]) (sfl (r.st++[s])))),(V.sl 32 (xc 32 r.fl.length (hfl r.fl)))]=(r.more s).v:=by
 rw [chI,zEa,chH]; exact Eq.trans rfl rfl
def zjN (r:Rl) (p:Int) (h:Hs) (now wait:Int) (k:List V→Int→Int→Option β):Option β :=
 ifb (!zg4 r) (k zgT 0 6) (ifb (decide (p < -1)) (k zgT 0 6) (ifb (r.st.any (isS h)) (k zgT 0 150) (ifb (r.fl.any (isH h)) (k zgT 0 150)
  (if r.df=true∧p≠-1 then k r.v (-1) 0 else if zaq r.rt p=-1 then k r.v (-1) 0 else if 64≤r.st.length then k zgT 0 380 else k (r.more ⟨h.l,p,zaq r.rt p,zdL now wait,h.hl⟩).v (zaq r.rt p) 0))))
theorem zy4 {r:Rl} (h:zg4 r=true):r.rt.length≤2∧rtB r.rt=true:=by
 unfold zg4 at h
 simp only [Bool.and_eq_true,decide_eq_true_eq] at h
 exact ⟨h.1,h.2.2.2.1⟩
theorem zDp {r:Rl} (hr:r.Ok) (p:Int) (h:Hs) (to due:Int) (k:List V→Int→Int→Option β) :
  chk ((List.length h.v)=32∧0+32≤35) (
  chk (1=1∧32+1≤(List.length (zc (List.replicate 32 (V.sc (.int .u8 (0:Int)))++[(V.sc (.int .i64 (0:Int))),(V.sc (.int .i64 (0:Int))),(V.sc (.int .u32 (0:Int)))]) 0 h.v))) (
  chk (1=1∧33+1≤(List.length (zc (zc (List.replicate 32 (V.sc (.int .u8 (0:Int)))++[(V.sc (.int .i64 (0:Int))),(V.sc (.int .i64 (0:Int))),(V.sc (.int .u32 (0:Int)))]) 0 h.v) 32 [(V.sc (.int .i64 p))]))) (
  chk (1=1∧34+1≤(List.length (zc (zc (zc (List.replicate 32 (V.sc (.int .u8 (0:Int)))++[(V.sc (.int .i64 (0:Int))),(V.sc (.int .i64 (0:Int))),(V.sc (.int .u32 (0:Int)))]) 0 h.v) 32 [(V.sc (.int .i64 p))]) 33 [(V.sc (.int .i64 to))]))) (
  chk ((List.length (zc (zc (zc (zc (List.replicate 32 (V.sc (.int .u8 (0:Int)))++[(V.sc (.int .i64 (0:Int))),(V.sc (.int .i64 (0:Int))),(V.sc (.int .u32 (0:Int)))]) 0 h.v) 32 [(V.sc (.int .i64 p))]) 33 [(V.sc (.int .i64 to))]) 34 [(V.sc (.int .u32 due))]))=35∧0+35≤35) (
  chk ((r.st.length+List.length (xc 35 1 (zc (List.replicate 32 (V.sc (.int .u8 (0:Int)))++[(V.sc (.int .i64 (0:Int))),(V.sc (.int .i64 (0:Int))),(V.sc (.int .u32 (0:Int)))]) 0 (zc (zc (zc (zc (List.replicate 32 (V.sc (.int .u8 (0:Int)))++[(V.sc (.int .i64 (0:Int))),(V.sc (.int .i64 (0:Int))),(V.sc (.int .u32 (0:Int)))]) 0 h.v) 32 [(V.sc (.int .i64 p))]) 33 [(V.sc (.int .i64 to))]) 34 [(V.sc (.int .u32 due))])))) * 56≤zj∧(r.st.length+List.length (xc 35 1 (zc (List.replicate 32 (V.sc (.int .u8 (0:Int)))++[(V.sc (.int .i64 (0:Int))),(V.sc (.int .i64 (0:Int))),(V.sc (.int .u32 (0:Int)))]) 0 (zc (zc (zc (zc (List.replicate 32 (V.sc (.int .u8 (0:Int)))++[(V.sc (.int .i64 (0:Int))),(V.sc (.int .i64 (0:Int))),(V.sc (.int .u32 (0:Int)))]) 0 h.v) 32 [(V.sc (.int .i64 p))]) 33 [(V.sc (.int .i64 to))]) 34 [(V.sc (.int .u32 due))]))))≤zj∧((r.st.length+List.length (xc 35 1 (zc (List.replicate 32 (V.sc (.int .u8 (0:Int)))++[(V.sc (.int .i64 (0:Int))),(V.sc (.int .i64 (0:Int))),(V.sc (.int .u32 (0:Int)))]) 0 (zc (zc (zc (zc (List.replicate 32 (V.sc (.int .u8 (0:Int)))++[(V.sc (.int .i64 (0:Int))),(V.sc (.int .i64 (0:Int))),(V.sc (.int .u32 (0:Int)))]) 0 h.v) 32 [(V.sc (.int .i64 p))]) 33 [(V.sc (.int .i64 to))]) 34 [(V.sc (.int .u32 due))]))))≠0∨(List.length (sfl r.st))=0)) (
  lt (List.take (r.st.length * 35) (sfl r.st)++List.flatten (xc 35 1 (zc (List.replicate 32 (V.sc (.int .u8 (0:Int)))++[(V.sc (.int .i64 (0:Int))),(V.sc (.int .i64 (0:Int))),(V.sc (.int .u32 (0:Int)))]) 0 (zc (zc (zc (zc (List.replicate 32 (V.sc (.int .u8 (0:Int)))++[(V.sc (.int .i64 (0:Int))),(V.sc (.int .i64 (0:Int))),(V.sc (.int .u32 (0:Int)))]) 0 h.v) 32 [(V.sc (.int .i64 p))]) 33 [(V.sc (.int .i64 to))]) 34 [(V.sc (.int .u32 due))])))) fun r26 =>
  k [(V.sc (.int .u32 r.ep)),(V.sc (.bool r.df)),(V.sl 1 (xc 1 r.rt.length (ifl r.rt))),(V.sl 35 (xc 35 (r.st.length+List.length (xc 35 1 (zc (List.replicate 32 (V.sc (.int .u8 (0:Int)))++[(V.sc (.int .i64 (0:Int))),(V.sc (.int .i64 (0:Int))),(V.sc (.int .u32 (0:Int)))]) 0 (zc (zc (zc (zc (List.replicate 32 (V.sc (.int .u8 (0:Int)))++[(V.sc (.int .i64 (0:Int))),(V.sc (.int .i64 (0:Int))),(V.sc (.int .u32 (0:Int)))]) 0 h.v) 32 [(V.sc (.int .i64 p))]) 33 [(V.sc (.int .i64 to))]) 34 [(V.sc (.int .u32 due))])))) r26)),(V.sl 32 (xc 32 r.fl.length (hfl r.fl)))] to 0))))))
  = k (r.more ⟨h.l,p,to,due,h.hl⟩).v to 0:=by
 have h2:=hr.ns
 rw [zp ⟨zcR h,by decide⟩,zp ⟨rfl,by rw [z0]; omega⟩,zp ⟨rfl,by rw [z1]; omega⟩,zp ⟨rfl,by rw [z2]; omega⟩]
 rw [zxO,ztI,zp ⟨zku _,by decide⟩,zp (by simp only [List.length_singleton,zj]; omega),yw,zy2,zy5]
theorem zCQ {L:Nat} {r:Rl} (hr:r.Ok) (hL:2000≤L) (p:Int) (h:Hs) {now wait:Int} (hn:0≤now∧now≤4294967295) (hw:0≤wait∧wait≤4294967295) (k:List V→Int→Int→Option β):yi β L r.v p h.v now wait k=zjN r p h now wait k:=by
 have h1:=hr.nr; have h2:=hr.ns; have h3:=hr.nf
 unfold yi zsp
 rw [zhd,zhX,zgV,zjO,zjM,zjG,zht r,zyg hr hL]
 unfold zjN
 cases hs:zg4 r with
 | false=>rfl
 | true =>
  obtain ⟨q1,q2⟩:=zy4 hs
  rw [Bool.not_true,yE,yE,zb4,zbq,zCl (by omega) hL,zwn,zb4,zyD (by omega) hL,zya L r q1]
  congr 1
  congr 1
  congr 1
  rcases ztl q1 q2 p with e | e
  ·rw [e]
   have n1:∀ x y:Option β,ifb ((-1:Int) != -1) x y=y:=fun x y=>by rw [zbv,if_pos rfl]
   rw [n1,zmI hr,zmI hr,n1,zlW]
   cases r.df with
   | false=>rw [yE,if_neg (by simp),if_pos rfl]
   | true =>
    rw [xT,zbv]
    by_cases hp:p=-1
    ·rw [if_pos hp,if_neg (by simp [hp]),if_pos rfl]
    ·rw [if_neg hp,if_pos ⟨rfl,hp⟩]
  ·have ne:zaq r.rt p≠-1:=by omega
   have n1:∀ x y:Option β,ifb (zaq r.rt p != -1) x y=x:=fun x y=>by rw [zbv,if_neg ne]
   rw [n1,zmI hr,zmI hr,n1,zb4,zye L hn hw,List.length_map]
   have main:ifb (decide (((r.st.length:Nat):Int) ≥ (64:Int))) (k zgT 0 380) (k (r.more ⟨h.l,p,zaq r.rt p,zdL now wait,h.hl⟩).v (zaq r.rt p) 0)=(if zaq r.rt p=-1 then k r.v (-1) 0 else if 64≤r.st.length then k zgT 0 380 else k (r.more ⟨h.l,p,zaq r.rt p,zdL now wait,h.hl⟩).v (zaq r.rt p) 0):=by
    rw [if_neg ne,zp9]
    by_cases hq:64≤r.st.length
    ·rw [if_pos (by omega),if_pos hq]
    ·rw [if_neg (by omega),if_neg hq]
   have ad:=zDp hr p h (zaq r.rt p) (zdL now wait) k
   rw [ad,zlW]
   cases r.df with
   | false=>rw [yE,if_neg (by simp)]; exact main
   | true =>
    rw [xT,zbv]
    by_cases hp:p=-1
    ·rw [if_pos hp,if_neg (by simp [hp])]; exact main
    ·rw [if_neg hp,if_pos ⟨rfl,hp⟩]
theorem zBY {L:Nat} {r:Rl} (hr:r.Ok) (hL:2000≤L) (p:Int) (h:Hs) {now wait:Int} (hn:0≤now∧now≤4294967295) (hw:0≤wait∧wait≤4294967295) (k:List V→Int→Int→Option β):xr β L r.v p h.v now wait k=zjN r p h now wait k:=by
 have h1:=hr.nr; have h2:=hr.ns; have h3:=hr.nf
 unfold xr zsz
 rw [zcp,zmC,zwv hr hL]
 unfold zjN
 cases hs:zg4 r with
 | false=>rfl
 | true =>
  obtain ⟨q1,q2⟩:=zy4 hs
  rw [Bool.not_true,yE,yE,zk3,zb4,zbq,zzv (by omega) hL,zwn,zoU,zb4,zxT (by omega) hL,zcp,zdE hr,zcp,zwJ L r q1,zgV]
  congr 1
  congr 1
  congr 1
  rw [zlW]
  rcases ztl q1 q2 p with e | e
  ·rw [e]
   have n1:∀ x y:Option β,ifb (decide ((-1:Int) < 0)) x y=x:=fun x y=>xA (by decide) x y
   rw [n1]
   cases r.df with
   | false=>rw [yE,if_neg (by simp),if_pos rfl]
   | true =>
    rw [xT,zbv]
    by_cases hp:p=-1
    ·rw [if_pos hp,if_neg (by simp [hp]),if_pos rfl]
    ·rw [if_neg hp,if_pos ⟨rfl,hp⟩]
  ·have ne:zaq r.rt p≠-1:=by omega
   have n1:∀ x y:Option β,ifb (decide (zaq r.rt p < 0)) x y=y:=fun x y=>zz (by omega) x y
   rw [n1,zk3,List.length_map,zb4,zwG L hn hw]
   have main:ifb (decide (((r.st.length:Nat):Int) ≥ (64:Int))) (k zgT 0 380) (k (r.more ⟨h.l,p,zaq r.rt p,zdL now wait,h.hl⟩).v (zaq r.rt p) 0)=(if zaq r.rt p=-1 then k r.v (-1) 0 else if 64≤r.st.length then k zgT 0 380 else k (r.more ⟨h.l,p,zaq r.rt p,zdL now wait,h.hl⟩).v (zaq r.rt p) 0):=by
    rw [if_neg ne,zp9]
    by_cases hq:64≤r.st.length
    ·rw [if_pos (by omega),if_pos hq]
    ·rw [if_neg (by omega),if_neg hq]
   have ad:=zDp hr p h (zaq r.rt p) (zdL now wait) k
   rw [ad]
   cases r.df with
   | false=>rw [yE,if_neg (by simp)]; exact main
   | true =>
    rw [xT,zbv]
    by_cases hp:p=-1
    ·rw [if_pos hp,if_neg (by simp [hp])]; exact main
    ·rw [if_neg hp,if_pos ⟨rfl,hp⟩]
end
section
set_option linter.unusedVariables false
set_option linter.unusedSimpArgs false
theorem zkL (L:Nat) (v n:Int) (hn:1≤n) (hn2:n≤1000000000000):∃ r,0≤r∧r < n∧∀ (β:Type) (k:Int→Option β),yc β L v n k=k r:=by
 by_cases h:Int.tmod v n < 0
 ·have h1:=Int.lt_tmod_of_pos v (show 0 < n by omega)
  refine ⟨Int.tmod v n+n,by omega,by omega,fun β k=>?_⟩
  simp only [yc,znw,yw]
  rw [zp (by omega),xA h,zeR (by omega) (by omega)]
 ·have h1:=Int.tmod_lt_of_pos v (show 0 < n by omega)
  refine ⟨Int.tmod v n,by omega,h1,fun β k=>?_⟩
  simp only [yc,znw,yw]
  rw [zp (by omega),zz h]
structure Dk where
 l:List Int
 a:Int
 h0:0≤a
 h1:a≤l.length
 hl:l.length≤9223372036854775807
def Dk.es (d:Dk):List (List V):=zC .i64 d.l
theorem zhs (L:Nat) (d:Dk) (n:Int) (hn:1≤n) (hn2:n≤1000000000000):∃ (r:Int) (d':Dk),d'.l=d.l∧0≤r∧r < n∧∀ (β:Type) (k:Int→List (List V)→Int→Option β),za β L n d.es d.a k=k r d'.es d'.a:=by
 obtain ⟨l,a,h0,h1,hl⟩:=d
 simp only [Dk.es]
 by_cases h:a < l.length
 ·obtain ⟨i,rfl⟩:∃ i:Nat,a=i:=⟨a.toNat,by omega⟩
  have hi:i < l.length:=by omega
  obtain ⟨r,q1,q2,q3⟩:=zkL L l[i] n hn hn2
  refine ⟨r,⟨l,i+1,by omega,by omega,hl⟩,rfl,q1,q2,fun β k=>?_⟩
  simp only [za,zgQ,yl,zgR,yw,zE]
  have w1:IntKind.wrap .i64 ((i:Int)+1)=(i:Int)+1:=zeR (by omega) (by omega)
  have w2:IntKind.wrap .i64 ((i:Int)+1 - 1)=(i:Int):=by rw [zeR (by omega) (by omega)]; omega
  rw [zyj,if_pos (by omega),w1,w2,zT (zdp _ hi),zaE (by rfl),q3]
 ·refine ⟨0,⟨l,a,h0,h1,hl⟩,rfl,by omega,by omega,fun β k=>?_⟩
  simp only [za,zgQ,yl,zgR,yw,zE]
  rw [zyj,if_neg (by omega)]
theorem zsS (x:Int):xc 1 1 [V.sc (.int .i64 x)]=zC .i64 [x]:=rfl
theorem zAZ (L:Nat):∀ (n m:Nat) (d:Dk) (rt:List Int),m < n→rt.length+m≤100→∃ (rt':List Int) (d':Dk),rt'.length≤rt.length+m∧∀ (β:Type) (kx:zl3 β) (a0:Int) (a1:Bool) (a2 a3 a4:List (List V)) (c0:Int) (c1:Bool) (c3 c4:List (List V)),
  zcZ za L kx n (m:Int) d.es d.a a0 a1 a2 a3 a4 c0 c1 (zC .i64 rt) c3 c4=kx d'.es d'.a a0 a1 a2 a3 a4 c0 c1 (zC .i64 rt') c3 c4
 | 0,m,d,rt,h,_=>by omega
 | n+1,0,d,rt,h,hm=>by
  refine ⟨rt,d,by omega,fun β kx a0 a1 a2 a3 a4 c0 c1 c3 c4=>?_⟩
  unfold zcZ zf9
  rw [zz (by omega)]
 | n+1,m+1,d,rt,h,hm=>by
  obtain ⟨r,d1,_,q1,q2,q3⟩:=zhs L d 3 (by decide) (by decide)
  obtain ⟨rt',d',e1,e2⟩:=zAZ L n m d1 (rt++[IntKind.wrap .i64 (IntKind.wrap .i64 (3 * (rt.length:Int))+r)]) (by omega) (by simp; omega)
  refine ⟨rt',d',by simp at e1; omega,fun β kx a0 a1 a2 a3 a4 c0 c1 c3 c4=>?_⟩
  unfold zcZ zf9
  rw [xA (by omega),yw,q3,yw,zsS,zE,zE,zp (by simp [zj]; omega),yw,zlX,yw,show IntKind.wrap .i64 (((m+1:Nat):Int) - 1)=(m:Int) by rw [zeR (by omega) (by omega)]; omega]
  exact e2 β kx a0 a1 a2 a3 a4 c0 c1 c3 c4
def kid (x:Int):Hs:=⟨x::List.replicate 31 0,by simp⟩
theorem zzN (x:Int):[(V.sc (.int .u8 x))]++List.replicate 31 (V.sc (.int .u8 (0:Int)))=(kid x).v:=by simp [Hs.v,kid,row]
theorem zyr (h:Hs):xc 32 1 (zc (List.replicate 32 (V.sc (.int .u8 (0:Int)))) 0 h.v)=[h.v]:=by
 rw [zyk,xc,zbq]; exact Eq.trans rfl rfl
theorem zBK {l:List Stm} (s:Stm):l.map Stm.v++[s.v]=(l++[s]).map Stm.v:=by simp
theorem zBV {l:List Hs} (s:Hs):l.map Hs.v++[s.v]=(l++[s]).map Hs.v:=by simp
theorem zD4 (l:List Stm) (hl:l.length≤100) (h:Hs) (fr to due:Int) {β:Type} (k:List (List V)→Option β) :
  chk ((List.length h.v)=32∧0+32≤35) (
  chk (1=1∧32+1≤(List.length (zc (List.replicate 32 (V.sc (.int .u8 (0:Int)))++[(V.sc (.int .i64 (0:Int))),(V.sc (.int .i64 (0:Int))),(V.sc (.int .u32 (0:Int)))]) 0 h.v))) (
  chk (1=1∧33+1≤(List.length (zc (zc (List.replicate 32 (V.sc (.int .u8 (0:Int)))++[(V.sc (.int .i64 (0:Int))),(V.sc (.int .i64 (0:Int))),(V.sc (.int .u32 (0:Int)))]) 0 h.v) 32 [(V.sc (.int .i64 fr))]))) (
  chk (1=1∧34+1≤(List.length (zc (zc (zc (List.replicate 32 (V.sc (.int .u8 (0:Int)))++[(V.sc (.int .i64 (0:Int))),(V.sc (.int .i64 (0:Int))),(V.sc (.int .u32 (0:Int)))]) 0 h.v) 32 [(V.sc (.int .i64 fr))]) 33 [(V.sc (.int .i64 to))]))) (
  chk ((List.length (zc (zc (zc (zc (List.replicate 32 (V.sc (.int .u8 (0:Int)))++[(V.sc (.int .i64 (0:Int))),(V.sc (.int .i64 (0:Int))),(V.sc (.int .u32 (0:Int)))]) 0 h.v) 32 [(V.sc (.int .i64 fr))]) 33 [(V.sc (.int .i64 to))]) 34 [(V.sc (.int .u32 due))]))=35∧0+35≤35) (
  chk ((List.length (l.map Stm.v)+List.length (xc 35 1 (zc (List.replicate 32 (V.sc (.int .u8 (0:Int)))++[(V.sc (.int .i64 (0:Int))),(V.sc (.int .i64 (0:Int))),(V.sc (.int .u32 (0:Int)))]) 0 (zc (zc (zc (zc (List.replicate 32 (V.sc (.int .u8 (0:Int)))++[(V.sc (.int .i64 (0:Int))),(V.sc (.int .i64 (0:Int))),(V.sc (.int .u32 (0:Int)))]) 0 h.v) 32 [(V.sc (.int .i64 fr))]) 33 [(V.sc (.int .i64 to))]) 34 [(V.sc (.int .u32 due))])))) * 56≤zj∧List.length (l.map Stm.v)+List.length (xc 35 1 (zc (List.replicate 32 (V.sc (.int .u8 (0:Int)))++[(V.sc (.int .i64 (0:Int))),(V.sc (.int .i64 (0:Int))),(V.sc (.int .u32 (0:Int)))]) 0 (zc (zc (zc (zc (List.replicate 32 (V.sc (.int .u8 (0:Int)))++[(V.sc (.int .i64 (0:Int))),(V.sc (.int .i64 (0:Int))),(V.sc (.int .u32 (0:Int)))]) 0 h.v) 32 [(V.sc (.int .i64 fr))]) 33 [(V.sc (.int .i64 to))]) 34 [(V.sc (.int .u32 due))])))≤zj) (
  lt ((l.map Stm.v)++(xc 35 1 (zc (List.replicate 32 (V.sc (.int .u8 (0:Int)))++[(V.sc (.int .i64 (0:Int))),(V.sc (.int .i64 (0:Int))),(V.sc (.int .u32 (0:Int)))]) 0 (zc (zc (zc (zc (List.replicate 32 (V.sc (.int .u8 (0:Int)))++[(V.sc (.int .i64 (0:Int))),(V.sc (.int .i64 (0:Int))),(V.sc (.int .u32 (0:Int)))]) 0 h.v) 32 [(V.sc (.int .i64 fr))]) 33 [(V.sc (.int .i64 to))]) 34 [(V.sc (.int .u32 due))])))) k))))))
  = k ((l++[(⟨h.l,fr,to,due,h.hl⟩:Stm)]).map Stm.v):=by
 rw [zp ⟨zcR h,by decide⟩,zp ⟨rfl,by rw [z0]; omega⟩,zp ⟨rfl,by rw [z1]; omega⟩,zp ⟨rfl,by rw [z2]; omega⟩]
 rw [zxO,ztI,zp ⟨zku _,by decide⟩,zp (by simp only [List.length_singleton,List.length_map,zj]; omega),yw,zBK]
theorem zD5 (l:List Hs) (hl:l.length≤100) (h:Hs) {β:Type} (k:List (List V)→Option β) :
  chk (0+32≤(List.length h.v)) (
  chk ((List.length h.v)=32∧0+32≤32) (
  chk ((List.length (l.map Hs.v)+List.length (xc 32 1 (zc (List.replicate 32 (V.sc (.int .u8 (0:Int)))) 0 h.v))) * 32≤zj∧List.length (l.map Hs.v)+List.length (xc 32 1 (zc (List.replicate 32 (V.sc (.int .u8 (0:Int)))) 0 h.v))≤zj) (
  lt ((l.map Hs.v)++(xc 32 1 (zc (List.replicate 32 (V.sc (.int .u8 (0:Int)))) 0 h.v))) k)))=k ((l++[h]).map Hs.v):=by
 rw [zb4,zp ⟨zcR h,by decide⟩,zyr,zp (by simp only [List.length_singleton,List.length_map,zj]; omega),yw,zBV]
theorem zuz (L:Nat):∀ (n m i:Nat) (d:Dk) (st:List Stm) (fl:List Hs),i+m=8→m < n→st.length≤i→fl.length≤i→∃ (st':List Stm) (fl':List Hs) (d':Dk),st'.length≤8∧fl'.length≤8∧∀ (β:Type) (kx:zlE β) (a0:Int) (a1:Bool) (a2 a3 a4:List (List V)) (c0:Int) (c1:Bool) (c2:List (List V)),
  zaY za L kx n (i:Int) d.es d.a a0 a1 a2 a3 a4 c0 c1 c2 (st.map Stm.v) (fl.map Hs.v)=kx d'.es d'.a a0 a1 a2 a3 a4 c0 c1 c2 (st'.map Stm.v) (fl'.map Hs.v)
 | 0,m,i,d,st,fl,_,h,_,_=>by omega
 | n+1,0,i,d,st,fl,h1,h2,h3,h4=>by
  refine ⟨st,fl,d,by omega,by omega,fun β kx a0 a1 a2 a3 a4 c0 c1 c2=>?_⟩
  unfold zaY zco
  rw [zz (by omega)]
 | n+1,m+1,i,d,st,fl,h1,h2,h3,h4=>by
  obtain ⟨r,d1,_,q1,q2,q3⟩:=zhs L d 3 (by decide) (by decide)
  by_cases r0:r=0
  ·obtain ⟨x1,d2,_,_,_,y1⟩:=zhs L d1 5 (by decide) (by decide)
   obtain ⟨x2,d3,_,_,_,y2⟩:=zhs L d2 5 (by decide) (by decide)
   obtain ⟨x3,d4,_,_,_,y3⟩:=zhs L d3 50 (by decide) (by decide)
   obtain ⟨st',fl',d',e1,e2,e3⟩:=zuz L n m (i+1) d4 (st++[⟨(kid (IntKind.wrap .u8 (i:Int))).l,IntKind.wrap .i64 (x1 - 1),x2,IntKind.wrap .u32 x3,(kid (IntKind.wrap .u8 (i:Int))).hl⟩]) fl (by omega) (by omega) (by simp; omega) (by omega)
   refine ⟨st',fl',d',e1,e2,fun β kx a0 a1 a2 a3 a4 c0 c1 c2=>?_⟩
   unfold zaY zco
   rw [xA (by omega),yw,yw,zzN,q3,zaC r0,zb4,zbq,y1,yw,y2,y3,yw]
   refine (zD4 st (by omega) (kid (IntKind.wrap .u8 (i:Int))) _ _ _ _).trans ?_
   rw [yw,xM (by omega)]
   exact e3 β kx a0 a1 a2 a3 a4 c0 c1 c2
  ·by_cases r1:r=1
   ·obtain ⟨st',fl',d',e1,e2,e3⟩:=zuz L n m (i+1) d1 st (fl++[kid (IntKind.wrap .u8 (i:Int))]) (by omega) (by omega) (by omega) (by simp; omega)
    refine ⟨st',fl',d',e1,e2,fun β kx a0 a1 a2 a3 a4 c0 c1 c2=>?_⟩
    unfold zaY zco
    rw [xA (by omega),yw,yw,zzN,q3,zJ r0,zaC r1,zbq]
    refine (zD5 fl (by omega) (kid (IntKind.wrap .u8 (i:Int))) _).trans ?_
    rw [yw,xM (by omega)]
    exact e3 β kx a0 a1 a2 a3 a4 c0 c1 c2
   ·obtain ⟨st',fl',d',e1,e2,e3⟩:=zuz L n m (i+1) d1 st fl (by omega) (by omega) (by omega) (by omega)
    refine ⟨st',fl',d',e1,e2,fun β kx a0 a1 a2 a3 a4 c0 c1 c2=>?_⟩
    unfold zaY zco
    rw [xA (by omega),yw,yw,q3,zJ r0,zJ r1,yw,xM (by omega)]
    exact e3 β kx a0 a1 a2 a3 a4 c0 c1 c2
structure Rl.Few (r:Rl):Prop where
 nr:r.rt.length≤20
 ns:r.st.length≤20
 nf:r.fl.length≤20
theorem Rl.Few.ok {r:Rl} (h:r.Few):r.Ok:=⟨by have:=h.nr; omega,by have:=h.ns; omega,by have:=h.nf; omega⟩
end
section
set_option linter.unusedVariables false
set_option linter.unusedSimpArgs false
theorem zDN {l:List Stm} {j:Nat} (h:j < l.length):List.take 35 (List.drop (0+j * 35) (sfl l))=l[j].v:=by
 rw [Nat.zero_add,sfl,zrX (zoo l) (by decide) (ziJ h),zqf]
theorem zDb {l:List Stm} {j:Nat} (h:j < l.length):List.take 32 (List.drop (0+j * 35+0) (sfl l))=l[j].h.v:=by
 rw [Nat.zero_add,Nat.add_zero,sfl,zrX (zoo l) (by decide) (ziJ h),zv2]
theorem zDM {l:List Hs} {j:Nat} (h:j < l.length):List.take 32 (List.drop (0+j * 32) (hfl l))=l[j].v:=by
 rw [Nat.zero_add,hfl,zrX (zqD l) (by decide) (zkf h),zbq]
theorem zzq (l:List Hs) (s:Hs):List.take (l.length * 32) (hfl l)++List.flatten [s.v]=hfl (l++[s]):=by
 rw [List.take_of_length_le (by rw [zzn]; omega),hfl,hfl,List.map_append,List.flatten_append]; exact Eq.trans rfl rfl
theorem zCy (l:List Int) (x:Int):List.take (l.length * 1) (ifl l)++List.flatten (zC .i64 [x])=ifl (l++[x]):=by
 rw [List.take_of_length_le (by rw [zCi]; omega),ifl,ifl,← zlX,List.flatten_append]
theorem zDl (l:List Hs) (s:Hs):xc 32 (l.length+List.length [s.v]) (hfl (l++[s]))=(l++[s]).map Hs.v:=by
 have:=chH (l++[s]); rwa [List.length_append] at this
theorem zEl (l:List Int) (x:Int):xc 1 (l.length+List.length (zC .i64 [x])) (ifl (l++[x]))=zC .i64 (l++[x]):=by
 have:=chI (l++[x]); rwa [List.length_append] at this
theorem zBD {L:Nat} {r:Rl} (h1:r.rt.length≤10) (h2:r.st.length≤10) (h3:r.fl.length≤10) (what at_:Int):∃ r':Rl,r'.Few∧∀ (β:Type) (k:List V→Option β),xa β L r.v what at_ k=k r'.v:=by
 have hok:r.Ok:=⟨by omega,by omega,by omega⟩
 have hfew:r.Few:=⟨by omega,by omega,by omega⟩
 obtain ⟨x,x0,x1,hx⟩:=zkL L what 5 (by decide) (by decide)
 by_cases q0:x=0
 ·obtain ⟨y,y0,y1,hy⟩:=zkL L at_ 5 (by decide) (by decide)
  refine ⟨{ r with rt:=r.rt++[IntKind.wrap .i64 (y - 1)] },⟨by simp; omega,by simp; omega,by simp; omega⟩,fun β k=>?_⟩
  unfold xa zbF
  rw [zhd,zhX,zgV,zjO,zjM,zjG,zht r,zdE hok,hx,zaC q0,hy,yw,zsS,zp (by simp only [zE,List.length_singleton,zj]; omega),yw,zCy,zEl,chS,chH]
  exact Eq.trans rfl rfl
 by_cases q1:x=1
 ·by_cases hs:0 < r.st.length
  ·obtain ⟨y,y0,y1,hy⟩:=zkL L at_ (r.st.length:Int) (by omega) (by omega)
   obtain ⟨j,rfl⟩:∃ j:Nat,y=j:=⟨y.toNat,by omega⟩
   have hj:j < r.st.length:=by omega
   refine ⟨{ r with fl:=r.fl++[r.st[j].h] },⟨by simp; omega,by simp; omega,by simp; omega⟩,fun β k=>?_⟩
   unfold xa zbF
   rw [zhd,zhX,zgV,zjO,zjM,zjG,zht r,zdE hok,hx,zJ q0,zaC q1,xA (by omega),hy,zp ⟨by omega,by omega⟩,Int.toNat_natCast,zDb hj,zyr,zzq]
   rw [zp (by rw [zvX]; omega),zp ⟨zcR _,by decide⟩,zp (by simp only [List.length_singleton,zj]; omega),yw,zDl,chS,chI]
   exact Eq.trans rfl rfl
  ·refine ⟨r,hfew,fun β k=>?_⟩
   unfold xa zbF
   rw [zhd,zhX,zgV,zjO,zjM,zjG,zht r,zdE hok,hx,zJ q0,zaC q1,zz (by omega),zlW]
 by_cases q2:x=2
 ·by_cases hs:0 < r.st.length
  ·obtain ⟨y,y0,y1,hy⟩:=zkL L at_ (r.st.length:Int) (by omega) (by omega)
   obtain ⟨j,rfl⟩:∃ j:Nat,y=j:=⟨y.toNat,by omega⟩
   have hj:j < r.st.length:=by omega
   refine ⟨r.more r.st[j],⟨by simp [Rl.more]; omega,by simp [Rl.more]; omega,by simp [Rl.more]; omega⟩,fun β k=>?_⟩
   unfold xa zbF
   rw [zhd,zhX,zgV,zjO,zjM,zjG,zht r,zdE hok,hx,zJ q0,zJ q1,zaC q2,xA (by omega),hy,zp ⟨by omega,by omega⟩,Int.toNat_natCast,zDN hj,ztI]
   rw [zp (by rw [zvX]; omega),zp ⟨zku _,by decide⟩,zp (by simp only [List.length_singleton,zj]; omega),yw,zy2,zy5]
  ·refine ⟨r,hfew,fun β k=>?_⟩
   unfold xa zbF
   rw [zhd,zhX,zgV,zjO,zjM,zjG,zht r,zdE hok,hx,zJ q0,zJ q1,zaC q2,zz (by omega),zlW]
 by_cases q3:x=3
 ·by_cases hs:0 < r.fl.length
  ·obtain ⟨y,y0,y1,hy⟩:=zkL L at_ (r.fl.length:Int) (by omega) (by omega)
   obtain ⟨j,rfl⟩:∃ j:Nat,y=j:=⟨y.toNat,by omega⟩
   have hj:j < r.fl.length:=by omega
   refine ⟨{ r with fl:=r.fl++[r.fl[j]] },⟨by simp; omega,by simp; omega,by simp; omega⟩,fun β k=>?_⟩
   unfold xa zbF
   rw [zhd,zhX,zgV,zjO,zjM,zjG,zht r,zdE hok,hx,zJ q0,zJ q1,zJ q2,zaC q3,xA (by omega),hy,zp ⟨by omega,by omega⟩,Int.toNat_natCast,zDM hj,zyr,zzq]
   rw [zp (by rw [zzn]; omega),zp ⟨zcR _,by decide⟩,zp (by simp only [List.length_singleton,zj]; omega),yw,zDl,chS,chI]
   exact Eq.trans rfl rfl
  ·refine ⟨r,hfew,fun β k=>?_⟩
   unfold xa zbF
   rw [zhd,zhX,zgV,zjO,zjM,zjG,zht r,zdE hok,hx,zJ q0,zJ q1,zJ q2,zaC q3,zz (by omega),zlW]
 ·refine ⟨r,hfew,fun β k=>?_⟩
  unfold xa zbF
  rw [zhd,zhX,zgV,zjO,zjM,zjG,zht r,zdE hok,hx,zJ q0,zJ q1,zJ q2,zJ q3,zlW]
end
section
set_option linter.unusedVariables false
set_option linter.unusedSimpArgs false
variable {β:Type}
theorem zDo (L:Nat) (k:Bool→Option β):ya β (L+100) k=k true:=by kernel_rfl
theorem zDj (a b:Hs):xc 32 2 (zc (zc (List.replicate 64 (V.sc (.int .u8 (0:Int)))) 0 a.v) 32 b.v)=[a.v,b.v]:=by
 have ha:=zcR a
 have hb:=zcR b
 have e0:zc (List.replicate 64 (V.sc (.int .u8 (0:Int)))) 0 a.v=a.v++List.replicate 32 (V.sc (.int .u8 (0:Int))):=by
  unfold zc
  rw [List.take_zero,List.nil_append,Nat.zero_add,ha]; congr 1
 have e1:zc (a.v++List.replicate 32 (V.sc (.int .u8 (0:Int)))) 32 b.v=a.v++b.v:=by
  unfold zc
  rw [List.take_append_of_le_length (by omega),List.take_of_length_le (by omega),List.drop_of_length_le (by rw [List.length_append,ha,hb]; simp),List.append_nil]
 rw [e0,e1,xc,xc,xc,List.take_append_of_le_length (by omega),List.take_of_length_le (by omega),List.drop_append_of_le_length (by omega),List.drop_of_length_le (by omega),List.nil_append,zbq]
theorem zDF (a b:Rl):xc 5 2 (zc (zc [(V.sc (.int .u32 (0:Int))),(V.sc (.bool false)),(V.sl 1 ([]:List (List V))),(V.sl 35 ([]:List (List V))),(V.sl 32 ([]:List (List V))),(V.sc (.int .u32 (0:Int))),(V.sc (.bool false)),(V.sl 1 ([]:List (List V))),(V.sl 35 ([]:List (List V))),(V.sl 32 ([]:List (List V)))] 0 a.v) 5 b.v)=[a.v,b.v]:=Eq.trans rfl rfl
def zeroR:Rl:=⟨0,false,[],[],[]⟩
theorem znK:zeroR.v=zgT:=Eq.trans rfl rfl
theorem zlY:zeroR.Ok:=⟨by decide,by decide,by decide⟩
theorem zCF {L:Nat} {r:Rl} (hr:r.Few) (hL:2000≤L) (p:Int) (h:Hs) {now wait:Int} (hn:0≤now∧now≤4294967295) (hw:0≤wait∧wait≤4294967295):∃ (q:Rl) (to e:Int),q.Ok∧(∀ (β:Type) (k:List V→Int→Int→Option β),yi β L r.v p h.v now wait k=k q.v to e)∧(∀ (β:Type) (k:List V→Int→Int→Option β),xr β L r.v p h.v now wait k=k q.v to e):=by
 have h1:=hr.nr; have h2:=hr.ns; have h3:=hr.nf
 have key:∃ (q:Rl) (to e:Int),q.Ok∧∀ (β:Type) (k:List V→Int→Int→Option β),zjN r p h now wait k=k q.v to e:=by
  by_cases q1:zg4 r=true
  ·by_cases q2:p < -1
   ·exact ⟨zeroR,0,6,zlY,fun β k=>by unfold zjN; rw [q1,Bool.not_true,yE,xA q2,znK]⟩
   ·by_cases q3:r.st.any (isS h)=true
    ·exact ⟨zeroR,0,150,zlY,fun β k=>by unfold zjN; rw [q1,Bool.not_true,yE,zz q2,q3,xT,znK]⟩
    ·have q3':r.st.any (isS h)=false:=by simpa using q3
     by_cases q4:r.fl.any (isH h)=true
     ·exact ⟨zeroR,0,150,zlY,fun β k=>by unfold zjN; rw [q1,Bool.not_true,yE,zz q2,q3',yE,q4,xT,znK]⟩
     ·have q4':r.fl.any (isH h)=false:=by simpa using q4
      by_cases q5:r.df=true∧p≠-1
      ·exact ⟨r,-1,0,hr.ok,fun β k=>by unfold zjN; rw [q1,Bool.not_true,yE,zz q2,q3',yE,q4',yE,if_pos q5]⟩
      ·by_cases q6:zaq r.rt p=-1
       ·exact ⟨r,-1,0,hr.ok,fun β k=>by unfold zjN; rw [q1,Bool.not_true,yE,zz q2,q3',yE,q4',yE,if_neg q5,if_pos q6]⟩
       ·exact ⟨r.more ⟨h.l,p,zaq r.rt p,zdL now wait,h.hl⟩,zaq r.rt p,0,⟨by simp [Rl.more]; omega,by simp [Rl.more]; omega,by simp [Rl.more]; omega⟩,fun β k=>by unfold zjN; rw [q1,Bool.not_true,yE,zz q2,q3',yE,q4',yE,if_neg q5,if_neg q6,if_neg (by omega)]⟩
  ·have q1':zg4 r=false:=by simpa using q1
   exact ⟨zeroR,0,6,zlY,fun β k=>by unfold zjN; rw [q1',Bool.not_false,xT,znK]⟩
 obtain ⟨q,to,e,hq,H⟩:=key
 exact ⟨q,to,e,hq,fun β k=>(zCQ hr.ok hL p h hn hw k).trans (H β k),fun β k=>(zBY hr.ok hL p h hn hw k).trans (H β k)⟩
theorem zCB (h:Hs) (k:Option β):chk ((List.length (List.take 32 h.v))=32∧0+32≤64) k=k:=zp ⟨by rw [zbq,zcR],by decide⟩ k
theorem hin {L:Nat} (hL:2000≤L) {r:Rl} (hr:r.Few) {now wait:Int} (hn:0≤now∧now≤4294967295) (hw:0≤wait∧wait≤4294967295) (ids:List Hs) (hi:ids.length≤100) (kr:Bool→List (List V)→Int→Option β) (kx:zg1 β) (p1 p6 p19:Int) (p38:List (List V)) (p39 p40:Int) (p48:List (List V)) (p49 p50:Int) (b9:List V) (b0:List (List V)) (b1:Int):∀ (n i:Nat),i≤ids.length→ids.length - i < n →
  zad ya xb yb xa yc yi xr zb L kr kx n p1 now wait p6 p19 p38 p39 p40 p48 p49 p50 (ids.map Hs.v) (ids.length:Int) (i:Int) b9 r.v b0 b1=kx p1 now wait p6 p38 p39 p40 p48 p49 p50 b9 r.v b0 b1
 | 0,i,h1,h2=>by omega
 | n+1,i,h1,h2=>by
  unfold zad zcV
  by_cases h:i < ids.length
  ·obtain ⟨q,to,e,hq,H1,H2⟩:=zCF hr hL p19 ids[i] hn hw
   rw [xA (by omega),zT (zkf h),zA4,yw,zbq,zyk,zcp,zb4,zmC,zbq,H1,zl8,yw,zon,zcp,zb4,H2,zl8,yw,zon,zbv,if_pos rfl,zbv,if_pos rfl,zcp,zcp,zmC,zzu hq hL,Bool.not_true,yE,yw,xM (by omega)]
   exact hin hL hr hn hw ids hi kr kx p1 p6 p19 p38 p39 p40 p48 p49 p50 b9 b0 b1 n (i+1) (by omega) (by omega)
  ·rw [zz (by omega)]
theorem zDq {L:Nat} (hL:2000≤L) {r:Rl} (hr:r.Few) {now wait:Int} (hn:0≤now∧now≤4294967295) (hw:0≤wait∧wait≤4294967295) (fs:List Int) (hf:fs.length≤100) (kr:Bool→List (List V)→Int→Option β) (kx:zeA β) (p1 p6:Int) (p38:List (List V)) (p39 p40:Int) (b9:Hs) (b0:List (List V)) (b1:Int):∀ (n i:Nat),i≤fs.length→fs.length - i < n →
  za4 ya xb yb xa yc yi xr zb L kx kr n p1 now wait p6 p38 p39 p40 (zC .i64 fs) (fs.length:Int) (i:Int) b9.v r.v b0 b1=kx p1 now wait p6 p38 p39 p40 b9.v b0 b1
 | 0,i,h1,h2=>by omega
 | n+1,i,h1,h2=>by
  unfold za4 zeD zeU
  by_cases h:i < fs.length
  ·obtain ⟨x,x0,x1,hx⟩:=zkL L p6 10 (by decide) (by decide)
   rw [xA (by omega),zT (zdp _ h),zaE rfl,zb4,hx,yw,zCB b9,zbq,zzN,zDj]
   rw [zp ⟨rfl,by rw [zoR (by rw [zcR]; decide)]; decide⟩]
   refine (hin hL hr hn hw [b9,kid (IntKind.wrap .u8 x)] (by simp) _ _ p1 p6 fs[i] p38 p39 p40 (zC .i64 fs) _ _ b9.v b0 b1 L 0 (by simp) (by simp; omega)).trans ?_
   unfold zcq
   rw [yw,xM (by omega)]
   exact zDq hL hr hn hw fs hf kr kx p1 p6 p38 p39 p40 b9 b0 b1 n (i+1) (by omega) (by omega)
  ·rw [zz (by omega)]
theorem hout {L:Nat} (hL:2000≤L) (rs:List Rl) (hrs:∀ r ∈ rs,r.Few) (hl:rs.length≤100) {now wait:Int} (hn:0≤now∧now≤4294967295) (hw:0≤wait∧wait≤4294967295) (kr:Bool→List (List V)→Int→Option β) (kx:List (List V)→Int→Option β) (p1 p6:Int) (b9:Hs) (b0:List (List V)) (b1:Int):∀ (n i:Nat),i≤rs.length→rs.length - i < n →
  zcO ya xb yb xa yc yi xr zb L kx kr n p1 now wait p6 (rs.map Rl.v) (rs.length:Int) (i:Int) b9.v b0 b1=kx b0 b1
 | 0,i,h1,h2=>by omega
 | n+1,i,h1,h2=>by
  unfold zcO zhH zie
  by_cases h:i < rs.length
  ·obtain ⟨x,x0,x1,hx⟩:=zkL L p1 8 (by decide) (by decide)
   have hg:(rs.map Rl.v)[i]?=some rs[i].v:=by simp [h]
   rw [xA (by omega),zT hg,zv8,zl8,yw,zon,hx,yw]
   have e2:xc 1 2 [(V.sc (.int .i64 p1)),(V.sc (.int .i64 (IntKind.wrap .i64 (x - 2))))]=zC .i64 [p1,IntKind.wrap .i64 (x - 2)]:=rfl
   rw [e2,zE]
   refine (zDq hL (hrs _ (List.getElem_mem h)) hn hw [p1,IntKind.wrap .i64 (x - 2)] (by simp) _ _ p1 p6 (rs.map Rl.v) _ _ b9 b0 b1 L 0 (by simp) (by simp; omega)).trans ?_
   unfold zek
   rw [yw,xM (by omega)]
   exact hout hL rs hrs hl hn hw kr kx p1 p6 b9 b0 b1 n (i+1) (by omega) (by omega)
  ·rw [zz (by omega)]
theorem zC8 (L:Nat) (es:List (List V)) (k:List (List V)→Int→Option β):xb β L es k=k es 0:=by
 unfold xb zq3; exact Eq.trans rfl rfl
end
section
set_option linter.unusedVariables false
set_option linter.unusedSimpArgs false
variable {β:Type}
def zS:Stm:=⟨List.replicate 32 0,0,0,0,by simp⟩
def zEb (l:List Stm) (j:Nat):List Stm:=l.take j++l.drop (j+1)
def Rl.gone (r:Rl) (h:Hs):Rl:={ r with st:=if 0≤zgP (isS h) r.st 0 then zEb r.st (zgP (isS h) r.st 0).toNat else r.st,fl:=r.fl++[h] }
def zEo (r:Rl) (h:Hs) (k:List V→Int→Option β):Option β :=
 ifb (!zg4 r) (k zgT 6) (ifb (r.fl.any (isH h)) (k zgT 150) (if 2048≤r.fl.length then k zgT 380 else k (r.gone h).v 0))
end
section
set_option linter.unusedVariables false
set_option linter.unusedSimpArgs false
variable {β:Type}
def isD (t:Int) (s:Stm):Bool:=decide (s.due≤t)
def zDT (t:Int) (l:List Stm):List Stm:=l.filter (fun s=>!isD t s)
def zEr (t:Int) (l:List Stm):List Hs:=(l.filter (isD t)).map Stm.h
end
section
set_option linter.unusedVariables false
set_option linter.unusedSimpArgs false
variable {β:Type}
def Rl.keep (r:Rl) (t:Int):Rl:={ r with st:=zDT t r.st }
end
section
set_option linter.unusedVariables false
set_option linter.unusedSimpArgs false
theorem zDC {L:Nat} {l:List Int} (hl:l.length≤maxLen):∃ d:Dk,d.es=zC .i64 l∧d.a=0:=⟨⟨l,0,by omega,by omega,by unfold maxLen at hl; omega⟩,rfl,rfl⟩
end
section
set_option linter.unusedVariables false
set_option linter.unusedSimpArgs false
variable {β:Type}
end
section
set_option linter.unusedVariables false
set_option linter.unusedSimpArgs false
variable {β:Type}
def zn3:Int→List Int→Bool
 | _,[]=>true
 | a,x::l=>!(decide (x≤a)) && zn3 x l
theorem zxy (L:Nat) (l:List Int) (hl:l.length≤100000) (kr:Bool→Option β) (kx:Option β):∀ (n i:Nat) (last:Int),i≤l.length→l.length - i < n →
  zb6 L kr kx n last (zC .i64 l) (l.length:Int) (i:Int)=ifb (zn3 last (l.drop i)) kx (kr false)
 | 0,i,last,h1,h2=>by omega
 | n+1,i,last,h1,h2=>by
  simp only [zb6,zfO,yw]
  by_cases hi:i < l.length
  ·rw [xA (by omega),zT (zdp _ hi),zaE rfl,xM (by omega),zxy L l hl kr kx n (i+1) l[i] (by omega) (by omega),List.drop_eq_getElem_cons hi,zn3,zdX]
   by_cases q:l[i]≤last
   ·rw [xA q,decide_eq_true q]; rfl
   ·rw [zz q,decide_eq_false q]; rfl
  ·rw [zz (by omega),List.drop_of_length_le (by omega)]; rfl
theorem zC5 {L:Nat} {l:List Int} (hl:l.length≤1000) (hL:2000≤L) (k:Bool→Option β):xm β L (zC .i64 l) k=k (zn3 (-1) l):=by
 unfold xm zfY zja
 rw [zE]
 refine (zxy L l (by omega) _ _ L 0 (-1) (by omega) (by omega)).trans ?_
 unfold zet ze2
 rw [List.drop_zero]
 cases zn3 (-1) l <;> rfl
theorem zwH (L:Nat) (l:List Int) (hl:l.length≤100000) (kr:zj3 β) (kx:zll β) (now span:Int) (df:Bool) (ds:List (List V)) (b:List V):∀ (n i:Nat) (last:Int),i≤l.length→l.length - i < n→((i=0∧last=-1)∨(0 < i∧0≤last∧l[i - 1]?=some last)) →
  zeh zg xf xh L kr kx n now span df (zC .i64 l) ds (i:Int) b 0 false [] [] []=ifb (zn3 last (l.drop i)) (kx now span df (zC .i64 l) ds b 0 false [] [] []) (kr 6 0 false [] [] [])
 | 0,i,last,h1,h2,_=>by omega
 | n+1,i,last,h1,h2,h3=>by
  simp only [zeh,zi8,yw,zE]
  by_cases hi:i < l.length
  ·rw [xA (by omega),zT (zdp _ hi),zaE rfl,xM (by omega),List.drop_eq_getElem_cons hi,zn3,zdX]
   by_cases q:l[i] < 0
   ·rw [xA q,decide_eq_true (by omega:l[i]≤last)]; rfl
   ·rw [zz q]
    have IH:=zwH L l hl kr kx now span df ds b n (i+1) l[i] (by omega) (by omega) (.inr ⟨by omega,by omega,by rw [Nat.add_sub_cancel,List.getElem?_eq_getElem hi]⟩)
    rcases h3 with ⟨h3,h4⟩ | ⟨h3,h4,h5⟩
    ·rw [zz (by omega),IH,decide_eq_false (by omega:¬ l[i]≤last)]; rfl
    ·have e:IntKind.wrap .i64 ((i:Int) - 1)=((i - 1:Nat):Int):=by rw [zeR (by omega) (by omega)]; omega
     have e2:(zC .i64 l)[i - 1]?=some [.sc (.int .i64 last)]:=by simp [zC,h5]
     rw [xA (by omega),e,zT e2,zaE rfl,zT (zdp _ hi),zaE rfl,IH]
     by_cases q2:l[i]≤last
     ·rw [xA (by omega),decide_eq_true q2]; rfl
     ·rw [zz (by omega),decide_eq_false q2]; rfl
  ·rw [zz (by omega),List.drop_of_length_le (by omega)]; rfl
theorem zCN (l:List Int):ifl l=row .i64 l:=by
 induction l with
 | nil=>rfl
 | cons x l ih=>rw [show ifl (x::l)=[V.sc (.int .i64 x)]++ifl l from rfl,ih]; rfl
theorem zzl (a b:List Int) (n:Nat):zc (row .i64 a) n (row .i64 b)=row .i64 (a.take n++b++a.drop (n+b.length)):=by
 unfold zc; simp [row,List.map_take,List.map_drop]
theorem zzV (n:Nat):List.flatten (List.replicate n [V.sc (.int .i64 (0:Int))])=row .i64 (List.replicate n 0):=by
 induction n with
 | zero=>rfl
 | succ n ih=>rw [List.replicate_succ,List.flatten_cons,ih]; rfl
theorem zwQ (l:List Int):List.flatten (zC .i64 l)=row .i64 l:=zCN l
theorem zBH (a b zs:List Int) (x:Int):List.take (a.length+b.length) (List.take a.length (a++x::b++zs)++b++List.drop (a.length+b.length) (a++x::b++zs))++List.replicate 1 0++List.drop (a.length+b.length+(List.replicate 1 (0:Int)).length) (List.take a.length (a++x::b++zs)++b++List.drop (a.length+b.length) (a++x::b++zs))=a++b++0::zs:=by
 have h1:List.take a.length (a++x::b++zs)=a:=by rw [List.append_assoc,List.take_left']; rfl
 rw [h1,List.take_left' (by simp),← List.drop_drop,List.drop_left' (by simp),List.drop_drop,List.drop_left' (by simp; omega)]
 simp
theorem zze (L:Nat) {l zs:List Int} {j:Nat} (hj:j < l.length) (k:Nat→List V→Option β):zh β L l.length (j:Int) ((j+1:Nat):Int) (row .i64 (l++zs)) k=k (l.length - 1) (row .i64 (l.eraseIdx j++0::zs)):=by
 unfold zh zeQ
 rw [zp ⟨by omega,by omega⟩,Int.toNat_natCast,zp ⟨by omega,by omega⟩,Int.toNat_natCast,Int.toNat_natCast,zp ⟨by omega,by omega⟩,zz (by omega),zJ (by omega),zp ⟨by omega,by omega⟩,zp ⟨by omega,by omega⟩]
 have e1:xc 1 (l.length - (j+1)) (List.drop (0+(j+1) * 1) (row .i64 (l++zs)))=zC .i64 (l.drop (j+1)):=by
  rw [Nat.zero_add,Nat.mul_one,zBk,zvy _ _ _ (by simp; omega),List.drop_append_of_le_length (by omega),List.take_append_of_le_length (by simp),List.take_of_length_le (by simp)]
 have e2:j+(l.drop (j+1)).length=l.length - 1:=by rw [List.length_drop]; omega
 rw [e1,zE,e2,zp (by omega),yw,zp ⟨by omega,by omega⟩,zp ⟨by omega,by omega⟩,yw,Int.toNat_natCast,show l.length - (l.length - 1)=1 by omega]
 congr 1
 rw [zwQ,zzV,Nat.mul_one,Nat.mul_one,Nat.zero_add,zzl,zzl]
 congr 1
 have e3:=zBH (l.take j) (l.drop (j+1)) zs l[j]
 rw [show l.take j++l[j]::l.drop (j+1)=l by rw [← List.drop_eq_getElem_cons hj,List.take_append_drop],show (l.take j).length=j by simp; omega,show j+(l.drop (j+1)).length=l.length - 1 from e2] at e3
 rw [List.eraseIdx_eq_take_drop_succ,e2]
 exact e3
def pk (l:List Int) (d:Int):Nat:=(Int.tmod d (l.length:Int)).toNat
theorem zxv {l:List Int} {d:Int} (hd:0≤d) (hl:l≠[]):Int.tmod d (l.length:Int)=((pk l d:Nat):Int)∧pk l d < l.length:=by
 have h1:0 < l.length:=List.length_pos_iff.2 hl
 have h2:0≤Int.tmod d (l.length:Int):=Int.tmod_nonneg _ hd
 have h3:Int.tmod d (l.length:Int) < (l.length:Int):=Int.tmod_lt_of_pos _ (by omega)
 unfold pk
 omega
def zjF (ds:List Int):Nat→Nat→List Int→List Int
 | 0,_,_=>[]
 | n+1,i,l=>if l=[] then [] else l.getD (pk l (ds.getD i 0)) 0::zjF ds n (i+1) (l.eraseIdx (pk l (ds.getD i 0)))
theorem zzA (l:List Int) (hl:l.length≤1000) (x:Int) (k:List (List V)→Option β) :
  chk ((List.length (zC .i64 l)+List.length (xc 1 1 [(V.sc (.int .i64 x))])) * 8≤zj∧List.length (zC .i64 l)+List.length (xc 1 1 [(V.sc (.int .i64 x))])≤zj) (lt (zC .i64 l++(xc 1 1 [(V.sc (.int .i64 x))])) fun l15=>k l15)=k (zC .i64 (l++[x])):=by
 rw [zsS,zp (by simp only [zE,List.length_singleton,zj]; omega),yw,zlX]
theorem zAN {l zs:List Int} {j:Nat} (hj:j < l.length) (k:Int→Option β):cI .i64 (row .i64 (l++zs)) (0+j * 1) k=k (l.getD j 0):=by
 refine zaE ?_ k
 rw [row,List.getElem?_map,Nat.zero_add,Nat.mul_one,List.getElem?_append_left hj]
 simp [hj]
theorem ztK (L:Nat) (ds:List Int) (hds:∀ d ∈ ds,0≤d) (hdl:ds.length≤1000) (ep:Int) (df:Bool) (n3 n4:Nat) (c0:Int) (c1:Bool) (c2 c3 c4:List (List V)) (x y z:List V) (kx:zkS β) (K:List Int→Option β) (hK:∀ rt w,kx ep df (zC .i64 rt) n3 n4 c0 c1 c2 c3 c4 x y z w=K rt):∀ (n i m:Nat) (l zs rt:List Int),i+m=2→m < n→l.length≤1000→rt.length+m≤10 →
  za2 ym xm zl xn yg zh L kx n (zC .u64 ds) l.length (i:Int) ep df (zC .i64 rt) n3 n4 c0 c1 c2 c3 c4 x y z (row .i64 (l++zs))=K (rt++zjF ds m i l)
 | 0,i,m,l,zs,rt,h1,h2,h3,h4=>by omega
 | n+1,i,0,l,zs,rt,h1,h2,h3,h4=>by
  unfold za2 zdd
  rw [zz (by omega),hK,zjF,List.append_nil]
 | n+1,i,m+1,l,zs,rt,h1,h2,h3,h4=>by
  unfold za2 zdd
  rw [xA (by omega),zjF]
  by_cases hl:l=[]
  ·subst hl
   rw [zz (by simp),hK,if_pos rfl,List.append_nil]
  ·have hlen:0 < l.length:=List.length_pos_iff.2 hl
   rw [xA (by omega),if_neg hl,zE]
   have w1:IntKind.wrap .u64 ((l.length:Nat):Int)=(l.length:Int):=zoe (by omega) (by omega)
   have w3:IntKind.wrap .i64 ((i:Int)+1)=((i+1:Nat):Int):=xM (by omega)
   by_cases hi:i < ds.length
   ·have e:ds.getD i 0=ds[i]:=by simp [hi]
    obtain ⟨p1,p2⟩:=zxv (hds ds[i] (List.getElem_mem hi)) hl
    have w2:IntKind.wrap .i64 ((pk l ds[i]:Nat):Int)=(pk l ds[i]:Int):=zeR (by omega) (by omega)
    rw [xA (by omega),zT (zdp _ hi),zaE rfl,w1,yw,zp (by omega),yw,p1,w2,yw,zp ⟨by omega,by omega⟩,Int.toNat_natCast,zAN p2,zzA _ (by omega),xM (by omega),yw,zze L p2,w3,yw,e]
    rw [zp (by simp only [zgt,List.length_append,List.length_eraseIdx,if_pos p2,List.length_cons,List.cons.injEq,and_true]; omega)]
    rw [show l.length - 1=(l.eraseIdx (pk l ds[i])).length by rw [List.length_eraseIdx,if_pos p2]]
    refine (ztK L ds hds hdl ep df n3 n4 c0 c1 c2 c3 c4 x y z kx K hK n (i+1) m _ _ _ (by omega) (by omega) (by rw [List.length_eraseIdx,if_pos p2]; omega) (by simp; omega)).trans ?_
    rw [List.append_assoc]; rfl
   ·have e:ds.getD i 0=0:=by simp [hi]
    obtain ⟨p1,p2⟩:=zxv (Int.le_refl 0) hl
    have w2:IntKind.wrap .i64 ((pk l 0:Nat):Int)=(pk l 0:Int):=zeR (by omega) (by omega)
    rw [zz (by omega),w1,yw,zp (by omega),yw,p1,w2,yw,zp ⟨by omega,by omega⟩,Int.toNat_natCast,zAN p2,zzA _ (by omega),xM (by omega),yw,zze L p2,w3,yw,e]
    rw [zp (by simp only [zgt,List.length_append,List.length_eraseIdx,if_pos p2,List.length_cons,List.cons.injEq,and_true]; omega)]
    rw [show l.length - 1=(l.eraseIdx (pk l 0)).length by rw [List.length_eraseIdx,if_pos p2]]
    refine (ztK L ds hds hdl ep df n3 n4 c0 c1 c2 c3 c4 x y z kx K hK n (i+1) m _ _ _ (by omega) (by omega) (by rw [List.length_eraseIdx,if_pos p2]; omega) (by simp; omega)).trans ?_
    rw [List.append_assoc]; rfl
end
section
set_option linter.unusedVariables false
set_option linter.unusedSimpArgs false
variable {β:Type}
def Rl.beg (r:Rl) (ep:Int) (df:Bool) (rt:List Int):Rl:={ r with ep:=ep,df:=df,rt:=rt }
def zv9 (r:Rl) (now span:Int) (df:Bool) (ps ds:List Int) (k:List V→Int→Option β):Option β :=
 ifb (!zg4 r) (k zgT 6) (ifb (!zn3 (-1) ps) (k zgT 6) (k (r.beg (zdL now span) df (zjF ds 2 0 ps)).v 0))
theorem zBj {L:Nat} {r:Rl} (hr:r.Ok) (hL:2000≤L) {now span:Int} (hn:0≤now∧now≤4294967295) (hs:0≤span∧span≤4294967295) (df:Bool) {ps ds:List Int} (hp:ps.length≤1000) (hds:∀ d ∈ ds,0≤d) (hdl:ds.length≤1000) (k:List V→Int→Option β) :
  ye β L r.v now span df (zC .i64 ps) (zC .u64 ds) k=zv9 r now span df ps ds k:=by
 have h1:=hr.nr; have h2:=hr.ns; have h3:=hr.nf
 unfold ye zjC zm8
 rw [zhd,zhX,zgV,zjO,zjM,zjG,zht r,zyg hr hL]
 unfold zv9
 cases zg4 r with
 | false=>rfl
 | true =>
  rw [Bool.not_true,yE,yE,zC5 hp hL]
  cases zn3 (-1) ps with
  | false=>rfl
  | true =>
   rw [Bool.not_true,yE,yE,zmI hr,zye L hn hs,zAv L _ hp,zE,zwQ]
   have key:=ztK L ds hds hdl (zdL now span) df r.st.length r.fl.length 0 false [] [] [] (ifl r.rt) (sfl r.st) (hfl r.fl) (fun zE3 zE4 zFb zE8 zEY zEB zEC zED zEE zEF b20 b24 b32 b37=>zcx ym xm zl xn yg zh L zE3 zE4 zFb zE8 zEY zEB zEC zED zEE zEF b20 b24 b32 b37 k) (fun rt=>k (r.beg (zdL now span) df rt).v 0) (fun rt w=>by
    unfold zcx
    rw [chS,chH]; exact Eq.trans rfl rfl) L 0 2 ps [] [] rfl (by omega) hp (by simp)
   rw [List.append_nil] at key
   exact key
theorem ztF (l:List Int) (n:Nat):List.take (n - 0) (List.drop 0 (zC .i64 l))=zC .i64 (l.take n):=by rw [List.drop_zero,Nat.sub_zero,zBc]
theorem ztB (l:List Int) (n:Nat):List.take (l.length - n) (List.drop n (zC .i64 l))=zC .i64 (l.drop n):=by
 rw [zAE,List.take_of_length_le (by rw [zE,List.length_drop]; omega)]
theorem zsE (L:Nat) (ds:List Int) (hds:∀ d ∈ ds,0≤d) (hdl:ds.length≤1000) (ep:Int) (df:Bool) (n3 n4:Nat) (c0:Int) (c1:Bool) (c2 c3 c4:List (List V)) (x y z:List V) (kx:zky β):∀ (n i m:Nat) (l rt:List Int),i+m=2→m < n→l.length≤1000→rt.length+m≤10 →
  zbj zg xf xh L kx n (zC .u64 ds) (zC .i64 l) (i:Int) c0 c1 c2 c3 c4 ep df (zC .i64 rt) n3 n4 x y z=kx c0 c1 c2 c3 c4 ep df (zC .i64 (rt++zjF ds m i l)) n3 n4 x y z
 | 0,i,m,l,rt,h1,h2,h3,h4=>by omega
 | n+1,i,0,l,rt,h1,h2,h3,h4=>by
  unfold zbj zdA
  rw [zz (by omega),zjF,List.append_nil]
 | n+1,i,m+1,l,rt,h1,h2,h3,h4=>by
  unfold zbj zdA
  rw [xA (by omega),zjF]
  by_cases hl:l=[]
  ·subst hl
   rw [zz (by simp [zE]),if_pos rfl,List.append_nil]
  ·have hlen:0 < l.length:=List.length_pos_iff.2 hl
   rw [zE,xA (by omega),if_neg hl,zE]
   have w1:IntKind.wrap .u64 ((l.length:Nat):Int)=(l.length:Int):=zoe (by omega) (by omega)
   have w3:IntKind.wrap .i64 ((i:Int)+1)=((i+1:Nat):Int):=xM (by omega)
   have sm:zj=140737488355328:=rfl
   by_cases hi:i < ds.length
   ·have e:ds.getD i 0=ds[i]:=by simp [hi]
    obtain ⟨p1,p2⟩:=zxv (hds ds[i] (List.getElem_mem hi)) hl
    have w2:IntKind.wrap .i64 ((pk l ds[i]:Nat):Int)=(pk l ds[i]:Int):=zeR (by omega) (by omega)
    rw [xA (by omega),zT (zdp _ hi),zaE rfl,w1,yw,zp (by omega),yw,p1,w2,yw,zT (zdp _ p2),zaE rfl,zzA _ (by omega),zp ⟨by omega,by omega⟩,Int.toNat_natCast,ztF,xM (by omega),yw]
    rw [zp (by simp only [List.length_nil,zE,List.length_take]; omega),yw,zp ⟨by omega,by omega⟩,yw,Int.toNat_natCast,ztB,List.nil_append,zp (by simp only [zE,List.length_take,List.length_drop]; omega),yw,zlX,w3,e,← List.eraseIdx_eq_take_drop_succ]
    refine (zsE L ds hds hdl ep df n3 n4 c0 c1 c2 c3 c4 x y z kx n (i+1) m _ _ (by omega) (by omega) (by rw [List.length_eraseIdx,if_pos p2]; omega) (by simp; omega)).trans ?_
    rw [List.append_assoc,show l.getD (pk l ds[i]) 0=l[pk l ds[i]] by simp [p2]]; rfl
   ·have e:ds.getD i 0=0:=by simp [hi]
    obtain ⟨p1,p2⟩:=zxv (Int.le_refl 0) hl
    have w2:IntKind.wrap .i64 ((pk l 0:Nat):Int)=(pk l 0:Int):=zeR (by omega) (by omega)
    rw [zz (by omega),w1,yw,zp (by omega),yw,p1,w2,yw,zT (zdp _ p2),zaE rfl,zzA _ (by omega),zp ⟨by omega,by omega⟩,Int.toNat_natCast,ztF,xM (by omega),yw]
    rw [zp (by simp only [List.length_nil,zE,List.length_take]; omega),yw,zp ⟨by omega,by omega⟩,yw,Int.toNat_natCast,ztB,List.nil_append,zp (by simp only [zE,List.length_take,List.length_drop]; omega),yw,zlX,w3,e,← List.eraseIdx_eq_take_drop_succ]
    refine (zsE L ds hds hdl ep df n3 n4 c0 c1 c2 c3 c4 x y z kx n (i+1) m _ _ (by omega) (by omega) (by rw [List.length_eraseIdx,if_pos p2]; omega) (by simp; omega)).trans ?_
    rw [List.append_assoc,show l.getD (pk l 0) 0=l[pk l 0] by simp [p2]]; rfl
theorem zA1 {L:Nat} {r:Rl} (hr:r.Ok) (hL:2000≤L) {now span:Int} (hn:0≤now∧now≤4294967295) (hs:0≤span∧span≤4294967295) (df:Bool) {ps ds:List Int} (hp:ps.length≤1000) (hds:∀ d ∈ ds,0≤d) (hdl:ds.length≤1000) (k:List V→Int→Option β) :
  ze β L r.v now span df (zC .i64 ps) (zC .u64 ds) k=zv9 r now span df ps ds k:=by
 have h1:=hr.nr; have h2:=hr.ns; have h3:=hr.nf
 unfold ze zjH znh
 refine (zwH L ps (by omega) _ _ now span df (zC .u64 ds) r.v L 0 (-1) (by omega) (by omega) (.inl ⟨rfl,rfl⟩)).trans ?_
 unfold zv9
 rw [List.drop_zero]
 cases zn3 (-1) ps with
 | false=>cases zg4 r <;> exact Eq.trans rfl rfl
 | true =>
  rw [xT,Bool.not_true,yE]
  unfold zer zhv
  rw [zcp,zmC,zwv hr hL]
  cases zg4 r with
  | false=>exact Eq.trans rfl rfl
  | true =>
   rw [Bool.not_true,yE,yE,zcp,zdE hr,zwG L hn hs,zp (by simp only [List.length_nil,zE,zj]; omega),yw,List.nil_append]
   refine (zsE L ds hds hdl (zdL now span) df r.st.length r.fl.length 0 false [] [] [] (ifl r.rt) (sfl r.st) (hfl r.fl) _ L 0 2 ps [] rfl (by omega) hp (by simp)).trans ?_
   unfold ze0
   rw [chS,chH,List.nil_append]; exact Eq.trans rfl rfl
end
section
set_option linter.unusedVariables false
set_option linter.unusedSimpArgs false
variable {β:Type}
theorem zAQ {L:Nat} (hL:2000≤L) (d:Dk):∃ (r:Rl) (d':Dk),r.rt.length≤2∧r.st.length≤10∧r.fl.length≤10∧∀ (β:Type) (k:List V→List (List V)→Int→Option β),yb β L d.es d.a k=k r.v d'.es d'.a:=by
 obtain ⟨x1,d1,_,_,_,y1⟩:=zhs L d 99 (by decide) (by decide)
 obtain ⟨x2,d2,_,_,_,y2⟩:=zhs L d1 3 (by decide) (by decide)
 obtain ⟨x3,d3,_,w1,w2,y3⟩:=zhs L d2 3 (by decide) (by decide)
 obtain ⟨m,rfl⟩:∃ m:Nat,x3=m:=⟨x3.toNat,by omega⟩
 obtain ⟨rt,d4,e1,e2⟩:=zAZ L L m d3 [] (by omega) (by simp; omega)
 obtain ⟨st,fl,d5,e3,e4,e5⟩:=zuz L L 8 0 d4 [] [] rfl (by omega) (by simp) (by simp)
 refine ⟨⟨IntKind.wrap .u32 x1,x2 == 0,rt,st,fl⟩,d5,by simp at e1 ⊢; omega,by simp; omega,by simp; omega,fun β k=>?_⟩
 unfold yb zkF zoh
 rw [y1,yw,y2,y3]
 refine (e2 β _ _ _ _ _ _ _ _ _ _).trans ?_
 unfold zes zhz
 refine (e5 β _ _ _ _ _ _ _ _ _).trans ?_
 unfold zgI
 rw [yw,zp ⟨rfl,rfl,by decide⟩]
 exact Eq.trans rfl rfl
theorem zx3 (L:Nat) (now span:Int) (df:Bool) (ps ds:List (List V)) (from_ what at_:Int) (b:List V):∀ (n m:Nat) (d:Dk) (few:List Int),m < n→few.length+m≤100→∃ (few':List Int) (d':Dk),few'.length≤few.length+m∧∀ (β:Type) (kx:zgn β),
  zag ya xb yb za xa yc ye ze zb yd xd L kx n now span df ps ds from_ what at_ (zC .i64 few) (m:Int) b d.es d.a=kx now span df ps ds from_ what at_ (zC .i64 few') b d'.es d'.a
 | 0,m,d,few,h,_=>by omega
 | n+1,0,d,few,h,hm=>by
  refine ⟨few,d,by omega,fun β kx=>?_⟩
  unfold zag zbK
  rw [zz (by omega)]
 | n+1,m+1,d,few,h,hm=>by
  obtain ⟨r,d1,_,q1,q2,q3⟩:=zhs L d 3 (by decide) (by decide)
  obtain ⟨few',d',e1,e2⟩:=zx3 L now span df ps ds from_ what at_ b n m d1 (few++[IntKind.wrap .i64 (IntKind.wrap .i64 (3 * (few.length:Int))+r)]) (by omega) (by simp; omega)
  refine ⟨few',d',by simp at e1; omega,fun β kx=>?_⟩
  unfold zag zbK
  rw [xA (by omega),yw,q3,yw,zsS,zE,zE,zp (by simp [zj]; omega),yw,zlX,yw,show IntKind.wrap .i64 (((m+1:Nat):Int) - 1)=(m:Int) by rw [zeR (by omega) (by omega)]; omega]
  exact e2 β kx
theorem zBM {L:Nat} {r:Rl} (hr:r.Ok) (hL:2000≤L) {now span:Int} (hn:0≤now∧now≤4294967295) (hs:0≤span∧span≤4294967295) (df:Bool) {ps ds:List Int} (hp:ps.length≤1000) (hds:∀ d ∈ ds,0≤d) (hdl:ds.length≤1000):∃ (q:Rl) (e:Int),q.Ok∧(∀ (β:Type) (k:List V→Int→Option β),ye β L r.v now span df (zC .i64 ps) (zC .u64 ds) k=k q.v e)∧(∀ (β:Type) (k:List V→Int→Option β),ze β L r.v now span df (zC .i64 ps) (zC .u64 ds) k=k q.v e):=by
 have key:∃ (q:Rl) (e:Int),q.Ok∧∀ (β:Type) (k:List V→Int→Option β),zv9 r now span df ps ds k=k q.v e:=by
  unfold zv9
  cases zg4 r with
  | false=>exact ⟨zeroR,6,zlY,fun β k=>by rw [Bool.not_false,xT,znK]⟩
  | true =>
   cases zn3 (-1) ps with
   | false=>exact ⟨zeroR,6,zlY,fun β k=>by rw [Bool.not_true,yE,Bool.not_false,xT,znK]⟩
   | true =>
    refine ⟨r.beg (zdL now span) df (zjF ds 2 0 ps),0,⟨?_,hr.ns,hr.nf⟩,fun β k=>by rw [Bool.not_true,yE,yE]⟩
    have hlen:∀ (m i:Nat) (l:List Int),(zjF ds m i l).length≤m:=by
     intro m
     induction m with
     | zero=>intro i l; simp [zjF]
     | succ m ih=>intro i l; unfold zjF; split <;> simp; exact ih _ _
    exact Nat.le_trans (hlen 2 0 ps) (by decide)
 obtain ⟨q,e,hq,H⟩:=key
 exact ⟨q,e,hq,fun β k=>(zBj hr hL hn hs df hp hds hdl k).trans (H β k),fun β k=>(zA1 hr hL hn hs df hp hds hdl k).trans (H β k)⟩
def psv (p:List Int):List V:=[V.sl 1 (zC .i64 p)]
theorem bin {L:Nat} (hL:2000≤L) {r:Rl} (hr:r.Ok) {now span:Int} (hn:0≤now∧now≤4294967295) (hs:0≤span∧span≤4294967295) (df:Bool) {ds:List Int} (hds:∀ d ∈ ds,0≤d) (hdl:ds.length≤1000) (pss:List (List Int)) (hp:∀ p ∈ pss,p.length≤1000) (hpl:pss.length≤100) (kr:Bool→List (List V)→Int→Option β) (kx:zgd β) (p4:List (List V)) (p6:Int) (p21 p67:List (List V)) (p68 p69:Int) (b20:List V) (b0:List (List V)) (b1:Int):∀ (n i:Nat),i≤pss.length→pss.length - i < n →
  xY ya xb yb za xa yc ye ze zb yd xd L kr kx n now span df p4 (zC .u64 ds) p6 p21 p67 p68 p69 (pss.map psv) (pss.length:Int) (i:Int) b20 r.v b0 b1=kx now span df p4 (zC .u64 ds) p6 p21 p67 p68 p69 b20 b0 b1
 | 0,i,h1,h2=>by omega
 | n+1,i,h1,h2=>by
  unfold xY zbt
  by_cases h:i < pss.length
  ·obtain ⟨q,e,hq,H1,H2⟩:=zBM hr hL hn hs df (hp _ (List.getElem_mem h)) hds hdl
   have hg:(pss.map psv)[i]?=some (psv pss[i]):=by simp [h]
   rw [xA (by omega),zT hg,zsO (cs:=psv pss[i]) rfl,zcp,zmC,H1,zl8,yw,zon,zcp,H2,zl8,yw,zon,zbv,if_pos rfl,zcp,zcp,zmC,zzu hq hL,Bool.not_true,yE,yw,xM (by omega)]
   exact bin hL hr hn hs df hds hdl pss hp hpl kr kx p4 p6 p21 p67 p68 p69 b20 b0 b1 n (i+1) (by omega) (by omega)
  ·rw [zz (by omega)]
theorem zDk {L:Nat} (hL:2000≤L) (rs:List Rl) (hrs:∀ r ∈ rs,r.Ok) (hrl:rs.length≤100) {now span:Int} (hn:0≤now∧now≤4294967295) (hs:0≤span∧span≤4294967295) (df:Bool) {ds few ps:List Int} (hf:few.length≤1000) (hp:ps.length≤1000) (hds:∀ d ∈ ds,0≤d) (hdl:ds.length≤1000) (kx:Int→List V→List (List V)→Int→Option β) (kr:Bool→List (List V)→Int→Option β) (p6:Int) (b20:List V) (b0:List (List V)) (b1:Int):∀ (n i:Nat),i≤rs.length→rs.length - i < n →
  zaH ya xb yb za xa yc ye ze zb yd xd L kx kr n now span df (zC .i64 ps) (zC .u64 ds) p6 (zC .i64 few) (rs.map Rl.v) (rs.length:Int) (i:Int) b20 b0 b1=kx p6 b20 b0 b1
 | 0,i,h1,h2=>by omega
 | n+1,i,h1,h2=>by
  unfold zaH zbp zc8
  by_cases h:i < rs.length
  ·have hg:(rs.map Rl.v)[i]?=some rs[i].v:=by simp [h]
   have e2:xc 1 2 [(V.sl 1 (zC .i64 few)),(V.sl 1 (zC .i64 ps))]=[few,ps].map psv:=rfl
   rw [xA (by omega),zT hg,zv8,zl8,yw,zon,e2,List.length_map]
   refine (bin hL (hrs _ (List.getElem_mem h)) hn hs df hds hdl [few,ps] (by intro p hp'; simp only [List.mem_cons,List.not_mem_nil,or_false] at hp'; rcases hp' with rfl | rfl <;> assumption) (by simp) _ _ (zC .i64 ps) p6 (zC .i64 few) (rs.map Rl.v) _ _ b20 b0 b1 L 0 (by simp) (by simp; omega)).trans ?_
   unfold zbb
   rw [yw,xM (by omega)]
   exact zDk hL rs hrs hrl hn hs df hf hp hds hdl kx kr p6 b20 b0 b1 n (i+1) (by omega) (by omega)
  ·rw [zz (by omega)]
theorem zxK (L:Nat) (r:Rl) (hr:r.rt.length≤2) (fs:List Int) (hf:fs.length≤100) (kr:Bool→List (List V)→Int→Option β) (kx:List (List V)→Int→Option β) (b0:List (List V)) (b1:Int):∀ (n i:Nat),i≤fs.length→fs.length - i < n →
  zax ya xb yb za xa yc ye ze zb yd xd L kr kx n (zC .i64 fs) (fs.length:Int) (i:Int) r.v b0 b1=kx b0 b1
 | 0,i,h1,h2=>by omega
 | n+1,i,h1,h2=>by
  unfold zax zcG
  by_cases h:i < fs.length
  ·rw [xA (by omega),zT (zdp _ h),zaE rfl,zcp,zmC,zya L r hr,zcp,zwJ L r hr,zbv,if_pos rfl,yw,xM (by omega)]
   exact zxK L r hr fs hf kr kx b0 b1 n (i+1) (by omega) (by omega)
  ·rw [zz (by omega)]
theorem zs3 (a0:List (List V)) (a1 a2:Int) (a3:Bool) (a4 a5:List (List V)) (a6 a7 a8:Int) (hl0:a0.length≤maxLen) (wf0:∀ e ∈ a0,HasRow [.int .i64] e) (wf1:(Lit.int .u32 a1).wf=true) (wf2:(Lit.int .u32 a2).wf=true) (hl4:a4.length≤maxLen) (wf4:∀ e ∈ a4,HasRow [.int .i64] e) (hl5:a5.length≤maxLen) (wf5:∀ e ∈ a5,HasRow [.int .u64] e) (wf6:(Lit.int .i64 a6).wf=true) (wf7:(Lit.int .i64 a7).wf=true) (wf8:(Lit.int .i64 a8).wf=true) :
  ∃ L,∀ k:Bool→Option Bool,zaI Bool L a0 a1 a2 a3 a4 a5 a6 a7 a8 k=k true:=by
 obtain ⟨l,rfl,_⟩:=zsV wf0
 obtain ⟨ps,rfl,_⟩:=zsV wf4
 obtain ⟨ds,rfl,hds⟩:=zsV wf5
 rw [zE] at hl0
 have hds':∀ d ∈ ds,0≤d:=fun d hd=>(zC6 (hds d hd)).1
 obtain ⟨L,hL⟩:∃ L:Nat,5000≤L:=⟨5000,Nat.le_refl _⟩
 refine ⟨L+100,fun k=>?_⟩
 unfold zaI ze5 zhy
 rw [zDo,Bool.not_true,yE,zE,zE]
 by_cases c1:60 < ps.length
 ·rw [xA (by omega)]
 rw [zz (by omega)]
 by_cases c2:10 < ds.length
 ·rw [xA (by omega)]
 rw [zz (by omega)]
 obtain ⟨d,e1,e2⟩:=zDC (L:=L) hl0
 obtain ⟨r,d1,h1,h2,h3,q1⟩:=zAQ (L:=L+100) (by omega) d
 obtain ⟨r',hr',q2⟩:=zBD (L:=L+100) (r:=r) (by omega) h2 h3 a7 a8
 have hr:r.Few:=⟨by omega,by omega,by omega⟩
 obtain ⟨x,d2,_,x0,x1,q3⟩:=zhs (L+100) d1 6 (by decide) (by decide)
 obtain ⟨m,rfl⟩:∃ m:Nat,x=m:=⟨x.toNat,by omega⟩
 obtain ⟨few,d3,w1,w2⟩:=zx3 (L+100) a1 a2 a3 (zC .i64 ps) (zC .u64 ds) a6 a7 a8 r.v (L+100) m d2 [] (by omega) (by simp; omega)
 have h1':=q1 Bool
 rw [e1,e2] at h1'
 rw [zC8,h1',zl8,yw,zon,q3]
 refine (w2 Bool _).trans ?_
 unfold zbg zcH
 rw [zcp,zcp,zmC,zv8,q2,zp ⟨rfl,by decide⟩,zp ⟨rfl,Nat.le_refl 10⟩,zDF]
 refine (zDk (L:=L+100) (by omega) [r,r'] (by intro x hx; simp only [List.mem_cons,List.not_mem_nil,or_false] at hx; exact hx.elim (fun h=>h ▸ hr.ok) (fun h=>h ▸ hr'.ok)) (by simp) (zAL wf1) (zAL wf2) a3 (by simp at w1; omega) (by omega) hds' (by omega) _ _ a6 r.v d3.es d3.a (L+100) 0 (by simp) (by simp)).trans ?_
 unfold za5 zcy
 obtain ⟨y,y0,y1,hy⟩:=zkL (L+100) a6 9 (by decide) (by decide)
 have e3:xc 1 2 [(V.sc (.int .i64 a6)),(V.sc (.int .i64 (IntKind.wrap .i64 (y - 1))))]=zC .i64 [a6,IntKind.wrap .i64 (y - 1)]:=rfl
 rw [hy,yw,e3,zE]
 refine (zxK (L+100) r h1 [a6,IntKind.wrap .i64 (y - 1)] (by simp) _ _ d3.es d3.a (L+100) 0 (by simp) (by simp)).trans ?_
 rfl
end
section
namespace relayBeginsL
open Go.ChangeShapes Go.WideShapes Go.ChangeAt Go.RowKit
set_option linter.unusedVariables false
theorem own:ownKnob Try.prog.godebug=none:=by kernel_rfl
theorem ziy:laidOutB Try.prog=true:=by kernel_rfl
set_option maxRecDepth 100000 in
theorem zDn (os:Os) (started:os.Started) (H:Type) (enc:TypeId × Value→H) :
  ReturnsInHanded {} Try.checked os 6 .any (Rows.relayBeginsSpec.pre6 enc Try.prog Try.f6 Rows.relayBeginsRow.domain false) (Rows.relayBeginsSpec.post enc Try.prog Try.f6 false true false false):=by
 refine returnsInHanded_of_change (C:=Try.checked) own started (by kernel_rfl) Try.func6
  (ChangeSpec.witness6 (enc:=enc) (C:=Try.checked) false ⟨#[],#[.slice none 0 0,.int .u32 0,.int .u32 0,.bool false,.slice none 0 0,.slice none 0 0,.int .i64 0,.int .i64 0,.int .i64 0],[]⟩ 8 (by kernel_rfl) (by kernel_rfl) (by kernel_rfl) (by kernel_rfl)) ?_
 intro W base args ds gs before hval0 hW hcnd _
 have hval:∀ (j:Nat) t v,Try.f6.params[j]?=some t→args[j]?=some v→Value.okWide Try.prog W .any base t v:=hval0
 have hW':=hW
 obtain ⟨p,q,hA0,hV,rfl,hfz,hnd⟩:=hW
 have hA:DataW.TrodAll enc Try.prog W 0 (fun _=>true) true Try.f6.params.toList args.toList ds p:=hA0
 rw [Try.params6] at hA hval
 obtain ⟨v0,vs0,d0,ds0,p0,q0,hargs,rfl,rfl,h0,r0⟩:=trodAll_cons hA
 obtain ⟨v1,vs1,d1,ds1,p1,q1,rfl,rfl,rfl,h1,r1⟩:=trodAll_cons r0
 obtain ⟨v2,vs2,d2,ds2,p2,q2,rfl,rfl,rfl,h2,r2⟩:=trodAll_cons r1
 obtain ⟨v3,vs3,d3,ds3,p3,q3,rfl,rfl,rfl,h3,r3⟩:=trodAll_cons r2
 obtain ⟨v4,vs4,d4,ds4,p4,q4,rfl,rfl,rfl,h4,r4⟩:=trodAll_cons r3
 obtain ⟨v5,vs5,d5,ds5,p5,q5,rfl,rfl,rfl,h5,r5⟩:=trodAll_cons r4
 obtain ⟨v6,vs6,d6,ds6,p6,q6,rfl,rfl,rfl,h6,r6⟩:=trodAll_cons r5
 obtain ⟨v7,vs7,d7,ds7,p7,q7,rfl,rfl,rfl,h7,r7⟩:=trodAll_cons r6
 obtain ⟨v8,vs8,d8,ds8,p8,q8,rfl,rfl,rfl,h8,r8⟩:=trodAll_cons r7
 obtain ⟨rfl,rfl,rfl⟩:=trodAll_nil r8
 obtain rfl:args=#[v0,v1,v2,v3,v4,v5,v6,v7,v8]:=by cases args; simp_all
 obtain ⟨rfl,rfl⟩:=trodVars_none hV
 have k0:=h0
 have lt0:∀ x ∈ p0,x.block < W.heap.size:=by obtain ⟨m,hm⟩:=k0; exact DataW.trod_lt m _ _ _ hm
 have k1:=h1
 have lt1:∀ x ∈ p1,x.block < W.heap.size:=by obtain ⟨m,hm⟩:=k1; exact DataW.trod_lt m _ _ _ hm
 have k2:=h2
 have lt2:∀ x ∈ p2,x.block < W.heap.size:=by obtain ⟨m,hm⟩:=k2; exact DataW.trod_lt m _ _ _ hm
 have k3:=h3
 have lt3:∀ x ∈ p3,x.block < W.heap.size:=by obtain ⟨m,hm⟩:=k3; exact DataW.trod_lt m _ _ _ hm
 have k4:=h4
 have lt4:∀ x ∈ p4,x.block < W.heap.size:=by obtain ⟨m,hm⟩:=k4; exact DataW.trod_lt m _ _ _ hm
 have k5:=h5
 have lt5:∀ x ∈ p5,x.block < W.heap.size:=by obtain ⟨m,hm⟩:=k5; exact DataW.trod_lt m _ _ _ hm
 have k6:=h6
 have lt6:∀ x ∈ p6,x.block < W.heap.size:=by obtain ⟨m,hm⟩:=k6; exact DataW.trod_lt m _ _ _ hm
 have k7:=h7
 have lt7:∀ x ∈ p7,x.block < W.heap.size:=by obtain ⟨m,hm⟩:=k7; exact DataW.trod_lt m _ _ _ hm
 have k8:=h8
 have lt8:∀ x ∈ p8,x.block < W.heap.size:=by obtain ⟨m,hm⟩:=k8; exact DataW.trod_lt m _ _ _ hm
 obtain ⟨A0,len0,cap0,rfl⟩:=okWide_slice Try.underlying22 (hval 0 22 v0 rfl rfl)
 obtain ⟨x0,hx0,rp0⟩:=zv6 (r:=.any) (b0:=base) (ren:=zP fg gls) (d:=20) (ct:=.sl ([.int .i64])) rfl h0 (by kernel_rfl)
 obtain ⟨a0,rfl,hl0,wf0⟩:=hx0.sl_inv
 obtain ⟨a1,rfl,rfl,rfl,wf1⟩:=open_int Try.underlying35 (hval 1 35 v1 rfl rfl) h1
 obtain ⟨a2,rfl,rfl,rfl,wf2⟩:=open_int Try.underlying35 (hval 2 35 v2 rfl rfl) h2
 obtain ⟨a3,rfl,rfl,rfl⟩:=open_bool Try.underlying4 (hval 3 4 v3 rfl rfl) h3
 obtain ⟨A4,len4,cap4,rfl⟩:=okWide_slice Try.underlying22 (hval 4 22 v4 rfl rfl)
 obtain ⟨x4,hx4,rp4⟩:=zv6 (r:=.any) (b0:=base) (ren:=zP fg gls) (d:=20) (ct:=.sl ([.int .i64])) rfl h4 (by kernel_rfl)
 obtain ⟨a4,rfl,hl4,wf4⟩:=hx4.sl_inv
 obtain ⟨A5,len5,cap5,rfl⟩:=okWide_slice Try.underlying36 (hval 5 36 v5 rfl rfl)
 obtain ⟨x5,hx5,rp5⟩:=zv6 (r:=.any) (b0:=base) (ren:=zP fg gls) (d:=20) (ct:=.sl ([.int .u64])) rfl h5 (by kernel_rfl)
 obtain ⟨a5,rfl,hl5,wf5⟩:=hx5.sl_inv
 obtain ⟨a6,rfl,rfl,rfl,wf6⟩:=open_int Try.underlying3 (hval 6 3 v6 rfl rfl) h6
 obtain ⟨a7,rfl,rfl,rfl,wf7⟩:=open_int Try.underlying3 (hval 7 3 v7 rfl rfl) h7
 obtain ⟨a8,rfl,rfl,rfl,wf8⟩:=open_int Try.underlying3 (hval 8 3 v8 rfl rfl) h8
 clear hA0 hval0
 obtain ⟨L,hL⟩:=zs3 a0 a1 a2 a3 a4 a5 a6 a7 a8 hl0 wf0 wf1 wf2 hl4 wf4 hl5 wf5 wf6 wf7 wf8
 have hd:ze8 zaI L Bool [(V.sl 1 a0),(V.sc (.int .u32 a1)),(V.sc (.int .u32 a2)),(V.sc (.bool a3)),(V.sl 1 a4),(V.sl 1 a5),(V.sc (.int .i64 a6)),(V.sc (.int .i64 a7)),(V.sc (.int .i64 a8))] [] zs0=some true:=by
  show (aL 1 (V.sl 1 a0) fun x0=>aI .u32 (V.sc (.int .u32 a1)) fun x1=>aI .u32 (V.sc (.int .u32 a2)) fun x2=>aB (V.sc (.bool a3)) fun x3=>aL 1 (V.sl 1 a4) fun x4=>aL 1 (V.sl 1 a5) fun x5=>aI .i64 (V.sc (.int .i64 a6)) fun x6=>aI .i64 (V.sc (.int .i64 a7)) fun x7=>aI .i64 (V.sc (.int .i64 a8)) fun x8=>zaI Bool L x0 x1 x2 x3 x4 x5 x6 x7 x8 (fun p=>zs0 (V.sc (.bool p)) []))=some true
  rw [zAe,zvt,zvt,zD0,zAe,zAe,zvt,zvt,zvt]
  exact (hL (fun p=>zs0 (V.sc (.bool p)) [])).trans rfl
 obtain ⟨v,b,hev,hk⟩:=zpV L 100 (by decide) Bool [(V.sl 1 a0),(V.sc (.int .u32 a1)),(V.sc (.int .u32 a2)),(V.sc (.bool a3)),(V.sl 1 a4),(V.sl 1 a5),(V.sc (.int .i64 a6)),(V.sc (.int .i64 a7)),(V.sc (.int .i64 a8))] [] zs0 true hd
 have hv:=zAA hk
 subst hv
 refine (zzI (us:=[.slice A0 len0 cap0,.int .u32 a1,.int .u32 a2,.bool a3,.slice A4 len4 cap4,.slice A5 len5 cap5,.int .i64 a6,.int .i64 a7,.int .i64 a8]) (w:=W) (fun _ _ h=>by cases h) (zDK L 100) (f:=6) (by kernel_rfl) rfl (fun i x u hx hu=>?_) hev).mono fun e W' ⟨he,bel0⟩=>?_
 ·match i,hx,hu with
  | 0,hx,hu=>cases hx; cases hu; exact rp0
  | 1,hx,hu=>cases hx; cases hu; exact .sc _ rfl
  | 2,hx,hu=>cases hx; cases hu; exact .sc _ rfl
  | 3,hx,hu=>cases hx; cases hu; exact .sc _ rfl
  | 4,hx,hu=>cases hx; cases hu; exact rp4
  | 5,hx,hu=>cases hx; cases hu; exact rp5
  | 6,hx,hu=>cases hx; cases hu; exact .sc _ rfl
  | 7,hx,hu=>cases hx; cases hu; exact .sc _ rfl
  | 8,hx,hu=>cases hx; cases hu; exact .sc _ rfl
  | n+9,hx,hu=>simp at hx
 ·have bel:=Kept.below bel0
  subst he
  exact ⟨_,rfl,_,_,_,[],_,[],hW',trodAll_mk1 (shut_bool Try.underlying4 _),(trodAll_cons_mk (Below.trod ziy (by kernel_rfl) (of_decide_eq_true (by kernel_rfl)) k0 bel lt0) (trodAll_cons_mk (Below.trod ziy (by kernel_rfl) (of_decide_eq_true (by kernel_rfl)) k1 bel lt1) (trodAll_cons_mk (Below.trod ziy (by kernel_rfl) (of_decide_eq_true (by kernel_rfl)) k2 bel lt2) (trodAll_cons_mk (Below.trod ziy (by kernel_rfl) (of_decide_eq_true (by kernel_rfl)) k3 bel lt3) (trodAll_cons_mk (Below.trod ziy (by kernel_rfl) (of_decide_eq_true (by kernel_rfl)) k4 bel lt4) (trodAll_cons_mk (Below.trod ziy (by kernel_rfl) (of_decide_eq_true (by kernel_rfl)) k5 bel lt5) (trodAll_cons_mk (Below.trod ziy (by kernel_rfl) (of_decide_eq_true (by kernel_rfl)) k6 bel lt6) (trodAll_cons_mk (Below.trod ziy (by kernel_rfl) (of_decide_eq_true (by kernel_rfl)) k7 bel lt7) (trodAll_cons_mk (Below.trod ziy (by kernel_rfl) (of_decide_eq_true (by kernel_rfl)) k8 bel lt8) trodAll_mk0))))))))),rfl,bel.frame _,fun h=>by cases h⟩
theorem over:Rows.relayBeginsRow.holds Try.pinned (OpenSpec.ofChange Rows.relayBeginsSpec) :=
 OpenClaim.holds_of_wide 6 Try.f6 rfl rfl rfl rfl rfl rfl rfl ⟨rfl,rfl,rfl,rfl,rfl⟩ rfl rfl rfl rfl rfl (by kernel_rfl) Try.func6 (by kernel_rfl)
  (of_decide_eq_true (by kernel_rfl)) (by unfold Func.isWrapper; first | (rw [if_pos (by decide +kernel)]; kernel_rfl) | (rw [if_neg (by decide +kernel)]; exact ⟨rfl,rfl⟩))
  (fun os started H enc _=>zDn os started H enc)
end relayBeginsL
theorem relayBegins_holds:Rows.RelayBeginsSaid:=relayBeginsL.over
end
end Go.Proofs.Ytpbbfpfmdckclaa
