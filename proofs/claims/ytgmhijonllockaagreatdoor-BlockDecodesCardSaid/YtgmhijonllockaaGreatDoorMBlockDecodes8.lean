/- Part 8 of the proof of BlockDecodes: an abstract machine over plain values, its soundness, and the functions of the program on plain values. -/
import Derived.ProofKit
import Derived.OpenShut
import Derived.ChangeOld
import Derived.Deep.Slices
import Derived.SizedLaws
import Derived.Test.YtgmhijonllockaaGreatDoorMBlockDecodes7
namespace Go.Proofs.YtgmhijonllockaaGreatDoor
set_option maxRecDepth 100000
set_option linter.unusedVariables false
set_option linter.unusedSimpArgs false
open Option renaming bind_eq_bind->Wb,bind_some->QT,map_some->QN,bind_eq_some_iff->Wa,map_eq_some_iff->Wj,pure_def->Wl,isSome_some->XA,isSome_none->XH
open Bool renaming false_eq_true->WP,and_eq_true->Wh,and_self->XC,true_or->XF
open List renaming range->Wy,getElem?_eq_getElem->Wc,getElem?_eq_some_iff->Wi,replicate->We,mem_of_find?_eq_some->Xw,flatten_cons->WL,getElem?_set->Xa,take_of_length_le->Xy,mem_map->Xz,getElem?_append_right->Wt,getElem?_append_left->Wv,ext_getElem?->Xd,all_eq_true->QO,find?_some->XG,drop_of_length_le->WK,mem_cons->Q9
open Nat renaming eq_of_beq_eq_true->Wd,mul_comm->Xx,beq->Wf,div_eq_of_lt->XD,mod_eq_of_lt->XE,add_zero->W1,add_mul->WG
open IntKind renaming wrap->QG
open Int renaming lt_of_le_of_lt->XB
section
structure Row where
 f:Nat
 g:Nat
 h:Hint
 c:CF
def zbv(fg:List (Nat × Nat))(gl:List (Nat × List V)):Rn:=⟨fun f=>(fg.find? (fun e=>e.1==f)).map (·.2),fun g=>(gl.find? (fun e=>e.1==g)).map (·.2)⟩
def zXR(fg:List (Nat × Nat)):Rn:=zbv fg []
def yn(rows:List Row)(g:Nat):Option CF:=(rows.find? (fun e=>e.g==g)).map (·.c)
def ccA:CC→CC
 | .seq a _=>a
 | .block _ a=>a
 | .loop _ _ a=>a
 | .cond _ a _=>a
 | .fork p _ _ _=>p
 | c=>c
def ccB:CC→CC
 | .seq _ b=>b
 | .cond _ _ b=>b
 | .fork _ _ _ b=>b
 | c=>c
def ccC:CC→CC
 | .fork _ _ a _=>a
 | c=>c
def yw:List Nat→CC→CC
 | [],c=>c
 | 0::p,c=>yw p (ccA c)
 | 1::p,c=>yw p (ccB c)
 | _::p,c=>yw p (ccC c)
def cfG(P:Program)(ren:Rn)(h:Hint)(f:Nat):CF:=(zv0 P ren h f).getD ⟨0,[],.skip⟩
def zTs(P:Program)(ren:Rn)(l:List (Nat × Nat × Hint)):List Row:=l.map fun x=>⟨x.1,x.2.1,x.2.2,cfG P ren x.2.2 x.1⟩
def zdc(P:Program)(ren:Rn)(fg:List (Nat × Nat))(l:List (Nat × Nat × Hint)):Bool:=l.all fun x=>fg.any (fun e=>Wf e.1 x.1&&Wf e.2 x.2.1)&&zel P x.1&&(zv0 P ren x.2.2 x.1).isSome
theorem zST{P:Program}{ren:Rn}{fg:List (Nat × Nat)}{l:List (Nat × Nat × Hint)}(h:zdc P ren fg l=true):∀ r∈zTs P ren l,(r.f,r.g)∈fg∧zel P r.f=true∧zv0 P ren r.h r.f=some r.c:=by
 intro r hr
 obtain ⟨x,hx,rfl⟩:=Xz.1 hr
 have:=QO.1 h x hx
 simp only [Wh,List.any_eq_true] at this
 obtain ⟨⟨⟨e,he,h1,h2⟩,h3⟩,h4⟩:=this
 refine ⟨?_,h3,?_⟩
 ·show (x.1,x.2.1)∈fg
  rw [← Wd h1,← Wd h2]; exact he
 ·show zv0 P ren x.2.2 x.1=some (cfG P ren x.2.2 x.1)
  obtain ⟨c,hc⟩:=Option.isSome_iff_exists.1 h4
  rw [cfG,hc]; rfl
def zXX:CB:=fun _ _ _=>none
def zR7(fg:List (Nat × Nat)):Bool:=zgi (fg.map (·.2))
theorem zGd:∀ (l:List (Nat × Nat)),zgi (l.map (·.2))=true→∀ a∈l,∀ b∈l,a.2=b.2→a=b
 | [],_,a,ha,_,_,_=>by cases ha
 | x::l,h,a,ha,b,hb,e=>by
  simp only [List.map_cons,zgi,Wh,Bool.not_eq_true',List.contains_eq_mem,decide_eq_false_iff_not] at h
  rcases Q9.1 ha with ea | ha'
  ·rcases Q9.1 hb with eb | hb'
   ·rw [ea,eb]
   ·exact absurd (Xz.2 ⟨b,hb',by rw [← e,ea]⟩) h.1
  ·rcases Q9.1 hb with eb | hb'
   ·exact absurd (Xz.2 ⟨a,ha',by rw [e,eb]⟩) h.1
   ·exact zGd l h.2 a ha' b hb' e
theorem zR2{P:Program}{fg:List (Nat × Nat)}{gl:List (Nat × List V)}{rows:List Row}(h1:zR7 fg=true)(h2:∀ r∈rows,(r.f,r.g)∈fg∧zel P r.f=true∧zv0 P (zbv fg gl) r.h r.f=some r.c) :
  ∀ g c,yn rows g=some c→∀ f,zbv fg gl f=some g→zel P f=true∧∃ h,zv0 P (zbv fg gl) h f=some c:=by
 intro g c hT f hf
 simp only [yn,Wj] at hT
 obtain ⟨r,hr,rfl⟩:=hT
 have hm:=Xw hr
 have hg:r.g=g:=by have:=XG hr; simpa using this
 simp only [zbv,Wj] at hf
 obtain ⟨x,hx,hx2⟩:=hf
 have hxm:=Xw hx
 have hxf:x.1=f:=by have:=XG hx; simpa using this
 obtain ⟨q1,q2,q3⟩:=h2 r hm
 have e:=zGd fg h1 _ q1 x hxm (by rw [hx2]; exact hg)
 have ef:r.f=f:=by rw [← hxf,← e]
 subst ef
 exact ⟨q2,r.h,q3⟩
def zPv(P:Program)(ren:Rn)(f:FuncId):Prop:=zel P f=true∧∀ n:Int,0≤n→n≤1000000000→PCall P ren f [.fr 1 [],.sc (.int .i64 n)] [] (.gs 1 []) []
def zTi(P:Program)(ren:Rn)(sz bytes:Nat)(f:FuncId):Prop:=zel P f=true∧∀ (n m:Nat) (i:Int) (cs vs:List V),zTw sz bytes n m i cs vs→PCall P ren f [.own 0 0 n sz,.sc (.int .i64 i),.own 1 0 m sz] [.live true cs,.live true vs] (.fr sz (zUX sz n m i.toNat cs vs)) [.dead cs.length,.live true vs]
theorem zUF{P:Program}{ren:Rn}(hg:∀ f,ren f=some 459→zPv P ren f)(hi:∀ f g sz bytes,ren f=some g→zKj g=some (sz,bytes)→zTi P ren sz bytes f):zhB P ren zx3:=by
 intro g args bor r bor' h f hf
 unfold zx3 at h
 split at h
 ·rename_i n
  split at h
  ·rename_i hc
   cases h
   obtain ⟨rfl,h0,h1⟩:=hc
   exact ⟨(hg f hf).1,(hg f hf).2 n h0 h1⟩
  ·cases h
 ·rename_i n s1 i m s2 cs vs
  split at h
  ·rename_i sz bytes he
   split at h
   ·rename_i hc
    cases h
    obtain ⟨rfl,rfl,hk⟩:=hc
    obtain ⟨q1,q2⟩:=hi f g _ bytes hf he
    exact ⟨q1,q2 n m i cs vs hk⟩
   ·cases h
  ·cases h
 ·cases h
theorem zLT{fg:List (Nat × Nat)}{gl:List (Nat × List V)}{f g:Nat}(h:zbv fg gl f=some g):(f,g)∈fg:=by
 simp only [zbv,Wj] at h
 obtain ⟨x,hx,hx2⟩:=h
 have hxf:x.1=f:=by have:=XG hx; simpa using this
 have:=Xw hx
 rw [← hxf,← hx2]; exact this
theorem zUB{P:Program}{fg:List (Nat × Nat)}{gl:List (Nat × List V)}(h:fg.all (fun e=>e.2 != 459)=true):∀ f,zbv fg gl f=some 459→zPv P (zbv fg gl) f:=by
 intro f hf
 have:=QO.1 h _ (zLT hf)
 simp at this
theorem zVn{P:Program}{fg:List (Nat × Nat)}{gl:List (Nat × List V)}(h:fg.all (fun e=>(zKj e.2).isNone)=true):∀ f g sz bytes,zbv fg gl f=some g→zKj g=some (sz,bytes)→zTi P (zbv fg gl) sz bytes f:=by
 intro f g sz bytes hf hs
 have:=QO.1 h _ (zLT hf)
 simp [hs] at this
theorem zUE{P:Program}{fg:List (Nat × Nat)}{gl:List (Nat × List V)}{rows:List Row}(hm:P.follows .mixedOrders=true)(h1:zR7 fg=true)(hp:zhB P (zbv fg gl) zx3)(h2:∀ r∈rows,(r.f,r.g)∈fg∧zel P r.f=true∧zv0 P (zbv fg gl) r.h r.f=some r.c)(L d:Nat):zhB P (zbv fg gl) (zrm (evF (yn rows) zx3 L d)):=
 zHB (zQj (zR2 h1 h2) hp (zVs hm) d)
end
section
open Go.ChangeShapes Go.WideShapes Go.RowKit Go.Deep
inductive CT where
 | int (k:IntKind)
 | bool
 | str
 | sl (cs:List CT)
inductive HasC:CT→V→Prop
 | int (k:IntKind) (n:Int) (h:(Lit.int k n).wf=true):HasC (.int k) (.sc (.int k n))
 | bool (b:Bool):HasC .bool (.sc (.bool b))
 | str (s:ByteArray) (h:s.size≤maxLen):HasC .str (.sc (.string s))
 | sl (cs:List CT) (es:Ls) (hl:es.length≤maxLen) (h0:∀ e∈es,e.length=cs.length) (h:∀ e∈es,∀ (i:Nat) (c:V) (ct:CT),e[i]?=some c→cs[i]?=some ct→HasC ct c):HasC (.sl cs) (.sl cs.length es)
def HasRow(cts:List CT)(vs:List V):Prop:=vs.length=cts.length∧∀ (i:Nat) (c:V) (ct:CT),vs[i]?=some c→cts[i]?=some ct→HasC ct c
def zBM(f:TypeId→Option (List CT))(size:TypeId→Nat):List Field→Nat→Option (List CT)
 | [],_=>some []
 | x::xs,off=>do
  let a ← f x.type
  if x.offset=off∧size x.type=a.length then
   let b ← zBM f size xs (off+a.length)
   some (a++b)
  else none
def zso(P:Program):Nat→TypeId→Option (List CT)
 | 0,_=>none
 | d+1,t=>match P.underlying t with
  | some .bool=>some [.bool]
  | some (.int k)=>some [.int k]
  | some .string=>some [.str]
  | some (.slice e)=>do
   let c ← zso P d e
   if P.cellsOf e=c.length∧0<c.length then some [.sl c] else none
  | some (.array n e)=>do
   let c ← zso P d e
   if P.cellsOf e=c.length∧P.cellsOf t=n*c.length then some (We n c).flatten else none
  | some (.struct fs)=>do
   let c ← zBM (zso P d) P.cellsOf fs.toList 0
   if P.cellsOf t=c.length then some c else none
  | _=>none
section
variable {H:Type} {enc:TypeId × Value→H} {P:Program} {w:World} {base:Nat} {spare:Nat→Bool} {held:Bool} {ren:Rn}
def RdC(ren:Rn)(w:World)(cts:List CT)(cs:List Value)(vs:List V):Prop:=
 cs.length=cts.length∧vs.length=cts.length∧∀ (i:Nat) (u:Value) (v:V) (ct:CT),cs[i]?=some u→vs[i]?=some v→cts[i]?=some ct→u.oneCell'=true∧RepP ren w zlz v u∧HasC ct v
theorem RdC.one{ct:CT}{u:Value}{v:V}(h1:u.oneCell'=true)(h2:RepP ren w zlz v u)(h3:HasC ct v):RdC ren w [ct] [u] [v]:=by
 refine ⟨rfl,rfl,fun i u' v' ct' hu hv hc=>?_⟩
 cases i with
 | zero=>simp at hu hv hc; subst hu; subst hv; subst hc; exact ⟨h1,h2,h3⟩
 | succ i=>simp at hu
theorem RdC.nil:RdC ren w [] [] []:=⟨rfl,rfl,fun i u v ct h=>by simp at h⟩
theorem RdC.app{c1 c2:List CT}{a1 a2:List Value}{b1 b2:List V}(h1:RdC ren w c1 a1 b1)(h2:RdC ren w c2 a2 b2):RdC ren w (c1++c2) (a1++a2) (b1++b2):=by
 obtain ⟨l1,m1,q1⟩:=h1
 obtain ⟨l2,m2,q2⟩:=h2
 refine ⟨by simp [l1,l2],by simp [m1,m2],fun i u v ct hu hv hc=>?_⟩
 by_cases hi:i<c1.length
 ·rw [Wv (by omega)] at hu hv hc
  exact q1 i u v ct hu hv hc
 ·rw [Wt (by omega)] at hu hv hc
  rw [l1] at hu; rw [m1] at hv
  exact q2 _ u v ct hu hv hc
theorem RdC.row{cts:List CT}{cs:List Value}{vs:List V}(h:RdC ren w cts cs vs):HasRow cts vs:=by
 refine ⟨h.2.1,fun i c ct hc ht=>?_⟩
 have hlt:i<cs.length:=by rw [h.1,← h.2.1]; exact (Wi.1 hc).1
 exact (h.2.2 i _ c ct (Wc hlt) hc ht).2.2
theorem zzM{f:TypeId→Option (List CT)}{size:TypeId→Nat}{cs:List Value}(rd:∀ (t:TypeId) (cts:List CT),f t=some cts→∀ x∈([]:List Nat),True) :
  ∀ (fs:List Field) (off:Nat) (cts:List CT),zBM f size fs off=some cts→(∀ x∈fs,∀ a,f x.type=some a→∃ vs,RdC ren w a ((cs.drop x.offset).take (size x.type)) vs)→∃ vs,RdC ren w cts ((cs.drop off).take cts.length) vs
 | [],off,cts,h,_=>by
  cases h
  exact ⟨[],by simpa using RdC.nil⟩
 | x::xs,off,cts,h,H=>by
  simp only [zBM,Wb,Wa] at h
  obtain ⟨a,ha,h⟩:=h
  split at h
  ·rename_i hc
   simp only [Wa,Option.some.injEq] at h
   obtain ⟨b,hb,rfl⟩:=h
   obtain ⟨vs1,r1⟩:=H x (by simp) a ha
   obtain ⟨vs2,r2⟩:=zzM rd xs _ b hb (fun y hy=>H y (by simp [hy]))
   refine ⟨vs1++vs2,?_⟩
   have e:(cs.drop off).take (a++b).length=(cs.drop x.offset).take (size x.type)++(cs.drop (off+a.length)).take b.length:=by
    rw [hc.1,hc.2,List.length_append,List.take_add,List.drop_drop]
   rw [e]
   exact r1.app r2
  ·cases h
theorem zDu{cs:List Value}{c:List CT}:∀ (n m:Nat),(∀ i,i<n→∃ vs,RdC ren w c ((cs.drop ((m+i)*c.length)).take c.length) vs)→∃ vs,RdC ren w (We n c).flatten ((cs.drop (m*c.length)).take (n*c.length)) vs
 | 0,m,H=>⟨[],by simpa using RdC.nil⟩
 | n+1,m,H=>by
  obtain ⟨vs1,r1⟩:=H 0 (by omega)
  obtain ⟨vs2,r2⟩:=zDu n (m+1) (fun i hi=>by
   obtain ⟨vs,r⟩:=H (i+1) (by omega)
   exact ⟨vs,by rw [show m+1+i=m+(i+1) by omega]; exact r⟩)
  refine ⟨vs1++vs2,?_⟩
  have e:(cs.drop (m*c.length)).take ((n+1)*c.length)=(cs.drop ((m+0)*c.length)).take c.length++(cs.drop ((m+1)*c.length)).take (n*c.length):=by
   rw [W1,WG n,Nat.one_mul,Nat.add_comm (n*c.length),List.take_add,List.drop_drop,show (m+1)*c.length=m*c.length+c.length by rw [WG,Nat.one_mul]]
   rw [show m+0=m from rfl]
  rw [e,List.replicate_succ,WL]
  exact r1.app r2
theorem zsL{α:Type}{n:Nat}:∀ (es:List (List α)),(∀ e∈es,e.length=n)→0<n→∀ (i:Nat),es.flatten[i]?=(es[i / n]?).bind (fun e=>e[i % n]?)
 | [],_,_,i=>by simp
 | e::es,h,hn,i=>by
  have he:=h e (by simp)
  rw [WL]
  by_cases hi:i<n
  ·rw [Wv (by omega),XD hi,XE hi]; simp
  ·rw [Wt (by omega),zsL es (fun x hx=>h x (by simp [hx])) hn,he]
   obtain ⟨j,rfl⟩:∃ j,i=j+n:=⟨i-n,by omega⟩
   rw [Nat.add_sub_cancel,Nat.add_div_right _ hn,Nat.add_mod_right]
   simp
theorem zxL:∀ (d:Nat) (t:TypeId) (cts:List CT),zso P d t=some cts→∀ (fuel:Nat) (cs:List Value) (x:DataW H × List MemPlace),DataW.trod enc P w base spare held fuel t cs=some x→∃ vs,RdC ren w cts cs vs
 | 0,t,cts,h,fuel,cs,x,hx=>by cases h
 | d+1,t,cts,h,fuel,cs,x,hx=>by
  unfold zso at h
  split at h
  ·rename_i ht
   cases h
   obtain ⟨b,rfl,_⟩:=DataW.trod_bool ht hx
   exact ⟨[.sc (.bool b)],.one rfl (.sc _ rfl) (.bool b)⟩
  ·rename_i k ht
   cases h
   obtain ⟨n,rfl,_,hw⟩:=DataW.trod_int ht hx
   exact ⟨[.sc (.int k n)],.one rfl (.sc _ rfl) (.int k n hw)⟩
  ·rename_i ht
   cases h
   obtain ⟨s,rfl,_,hw⟩:=DataW.trod_string ht hx
   exact ⟨[.sc (.string s)],.one rfl (.sc _ rfl) (.str s hw)⟩
  ·rename_i e ht
   simp only [Wb,Wa] at h
   obtain ⟨c,hc,h⟩:=h
   split at h
   ·rename_i hsz
    obtain ⟨hsz,hpos⟩:=hsz
    cases h
    rcases open_slice ht hx with ⟨rfl,_⟩ | ⟨a,len,cap,m,n,D,Pl,rfl,_,hl,hm,hmm,_,hi⟩
    ·refine ⟨[.sl c.length []],.one rfl (.sl _ [] none 0 (fun _=>undef) (Nat.le_refl _) (by simp) 0 0 (by simp) (by simp) (by simp) (by simp)) (.sl c [] (by simp) (by simp) (by simp))⟩
    ·have hlm:len≤m:=by rw [hmm]; split <;> omega
     have each:∀ i,i<len→∃ (us:List Value) (vs:List V),RdC ren w c us vs∧∀ j,j<c.length→w.cell? ((a.add (i*c.length)).add j)=us[j]?:=by
      intro i hil
      obtain ⟨cs',h1,h2⟩:=hi i (by omega)
      rw [hsz] at h1
      obtain ⟨_,hcl,hat⟩:=World.cells?_some h1
      obtain ⟨vs,r⟩:=zxL d e c hc _ _ _ h2
      exact ⟨cs',vs,r,hat⟩
     have hex:∃ (us:Nat→List Value) (vs:Nat→List V),∀ i,i<len→RdC ren w c (us i) (vs i)∧∀ j,j<c.length→w.cell? ((a.add (i*c.length)).add j)=(us i)[j]?:=by
      have:∀ i,∃ p:List Value × List V,i<len→RdC ren w c p.1 p.2∧∀ j,j<c.length→w.cell? ((a.add (i*c.length)).add j)=p.1[j]?:=by
       intro i
       by_cases hil:i<len
       ·obtain ⟨us,vs,q⟩:=each i hil; exact ⟨(us,vs),fun _=>q⟩
       ·exact ⟨([],[]),fun h=>absurd h hil⟩
      refine ⟨fun i=>(Classical.choose (this i)).1,fun i=>(Classical.choose (this i)).2,fun i hil=>Classical.choose_spec (this i) hil⟩
     obtain ⟨us,vs,hrow⟩:=hex
     have hget:∀ i,i<len→((Wy len).map vs)[i]?=some (vs i):=fun i hil=>by simp [hil]
     have hsz2:∀ e∈(Wy len).map vs,e.length=c.length:=by
      intro e he
      obtain ⟨i,hil,rfl⟩:=Xz.1 he
      exact (hrow i (List.mem_range.1 hil)).1.2.1
     have cell:∀ (i:Nat) (v:V),((Wy len).map vs).flatten[i]?=some v→0<c.length∧i / c.length<len∧(vs (i / c.length))[i % c.length]?=some v∧∃ u,(us (i / c.length))[i % c.length]?=some u∧u.oneCell'=true∧RepP ren w zlz v u∧w.cell? ((a.add (i / c.length*c.length)).add (i % c.length))=some u:=by
      intro i v hv
      have hpos:0<c.length:=by
       rcases Nat.eq_zero_or_pos c.length with h0 | h0
       ·have:((Wy len).map vs).flatten=[]:=by
         rw [List.flatten_eq_nil_iff]
         intro l hl'
         exact List.length_eq_zero_iff.1 ((hsz2 l hl').trans h0)
        rw [this] at hv; simp at hv
       ·exact h0
      rw [zsL _ hsz2 hpos] at hv
      have hlt:i / c.length<len:=by
       cases hq:((Wy len).map vs)[i / c.length]? with
       | none=>rw [hq] at hv; simp at hv
       | some e=>have:=(Wi.1 hq).1; simpa using this
      rw [hget _ hlt] at hv
      have hv:(vs (i / c.length))[i % c.length]?=some v:=hv
      have hr:=hrow _ hlt
      have hm:=Nat.mod_lt i hpos
      have hu:(us (i / c.length))[i % c.length]?=some ((us (i / c.length))[i % c.length]'(by rw [hr.1.1]; exact hm)):=Wc _
      obtain ⟨q1,q2,q3⟩:=hr.1.2.2 _ _ _ _ hu hv (Wc hm)
      exact ⟨hpos,hlt,hv,_,hu,q1,q2,by rw [hr.2 _ hm]; exact hu⟩
     have spot:((Wy len).map vs).flatten≠[]→a.spot=none:=by
      intro hne
      have hl0:0<((Wy len).map vs).flatten.length:=List.length_pos_iff.2 hne
      obtain ⟨_,_,_,u,_,_,_,hcell⟩:=cell 0 _ (Wc hl0)
      have hcell:w.cell? a=some u:=by simpa [Addr.add] using hcell
      unfold World.cell? at hcell
      split at hcell
      ·split at hcell
       ·cases hcell
       ·rename_i hs; simpa using hs
      ·cases hcell
     have addr:((Wy len).map vs).flatten≠[]→a=⟨a.block,a.off,none⟩:=by
      intro hne
      have:=spot hne
      cases a; simp_all
     have addto:∀ i v,((Wy len).map vs).flatten[i]?=some v→(a.add (i / c.length*c.length)).add (i % c.length)=⟨a.block,a.off+i,none⟩:=by
      intro i v hv
      have hne:((Wy len).map vs).flatten≠[]:=by intro h0; rw [h0] at hv; simp at hv
      rw [addr hne,zc6,zc6]
      have:=Nat.div_add_mod i c.length
      rw [Xx] at this
      show (⟨a.block,a.off+i / c.length*c.length+i % c.length,none⟩:Addr)=⟨a.block,a.off+i,none⟩
      congr 1; omega
     have hcap:len≤maxLen:=by omega
     have hlen:((Wy len).map vs).length=len:=by simp
     have rp:RepP ren w zlz (.sl c.length ((Wy len).map vs)) (.slice (some a) ((Wy len).map vs).length cap):=by
      by_cases hne:((Wy len).map vs).flatten=[]
      ·
       have:(Wy len).map vs=[]:=by
        cases hes:(Wy len).map vs with
        | nil=>rfl
        | cons e es=>
         have h1:=hsz2 e (by rw [hes]; simp)
         rw [hes,WL,List.append_eq_nil_iff] at hne
         rw [hne.1] at h1
         simp at h1; omega
       rw [this]
       exact .sl _ [] (some a) cap (fun _=>undef) (Nat.zero_le _) (by simp) 0 0 (by simp) (by simp) (by simp) (by simp)
      ·refine .sl _ _ (some a) cap (fun i=>(w.cell? ⟨a.block,a.off+i,none⟩).getD undef) (by rw [hlen]; exact hl) hsz2 a.block a.off (fun _=>by rw [← addr hne]) (fun i v hv=>?_) (fun i v hv=>?_) (fun i v hv=>?_) <;>
        (obtain ⟨hpos,hlt,hv',u,hu,q1,q2,hcell⟩:=cell i v hv
         rw [addto i v hv] at hcell
         simp only [hcell,Option.getD_some])
       ·exact ⟨fun h=>h,trivial⟩
       ·exact q1
       ·exact q2
     refine ⟨[.sl c.length ((Wy len).map vs)],.one rfl (by rw [hlen] at rp; exact rp) (.sl c _ (by rw [hlen]; exact hcap) hsz2 (fun e he i v ct hv hct=>?_))⟩
     obtain ⟨q,hq,rfl⟩:=Xz.1 he
     exact (hrow q (List.mem_range.1 hq)).1.row.2 i v ct hv hct
   ·cases h
  ·rename_i n e ht
   simp only [Wb,Wa] at h
   obtain ⟨c,hc,h⟩:=h
   split at h
   ·rename_i hsz
    cases h
    obtain ⟨xs,m,_,_,hl,hxl,hi⟩:=DataW.trod_array ht hx
    have:=zDu (ren:=ren) (w:=w) (cs:=cs) (c:=c) n 0 (fun i hin=>by
     have:=hi i hin
     rw [Wc (by omega)] at this
     rw [hsz.1] at this
     obtain ⟨vs,r⟩:=zxL d e c hc _ _ _ this
     exact ⟨vs,by rw [Nat.zero_add]; exact r⟩)
    rw [Nat.zero_mul,List.drop_zero,Xy (by omega)] at this
    exact this
   ·cases h
  ·rename_i fs ht
   simp only [Wb,Wa] at h
   obtain ⟨c,hc,h⟩:=h
   split at h
   ·rename_i hsz
    cases h
    obtain ⟨xs,m,_,_,hl,hxl,hi⟩:=DataW.trod_struct ht hx
    have:=zzM (ren:=ren) (w:=w) (cs:=cs) (fun _ _ _ _ h=>by cases h) fs.toList 0 cts hc (fun y hy a ha=>by
     obtain ⟨i,hil,rfl⟩:=List.getElem_of_mem hy
     have hil':i<fs.size:=by simpa using hil
     have:=hi i fs[i] (Array.getElem?_eq_getElem hil')
     rw [Wc (by omega)] at this
     exact zxL d _ a ha _ _ _ (by simpa using this))
    rw [List.drop_zero,Xy (by omega)] at this
    exact this
   ·cases h
  ·cases h
theorem zT8{r:Reach}{b0:Nat}{t:TypeId}{v:Value}{dd:DataW H}{p:List MemPlace}{ct:CT}{d:Nat}(hv1:v.cells=#[v])(h:DataW.Trod enc P w base spare held t v dd p)(hc:zso P d t=some [ct]) :
  ∃ x,HasC ct x∧RepP ren w zlz x v:=by
 obtain ⟨fuel,hf⟩:=h
 obtain ⟨vs,rd⟩:=zxL (ren:=ren) d t [ct] hc _ _ _ hf
 rw [hv1] at rd
 have hl:vs.length=1:=rd.2.1
 obtain ⟨x,rfl⟩:∃ x,vs=[x]:=by
  match vs,hl with
  | [x],_=>exact ⟨x,rfl⟩
 obtain ⟨q1,q2,q3⟩:=rd.2.2 0 v x ct rfl rfl rfl
 exact ⟨x,q3,q2⟩
theorem HasC.int_inv{k:IntKind}{v:V}(h:HasC (.int k) v):∃ n,v=.sc (.int k n)∧(Lit.int k n).wf=true:=by
 cases h with | int _ n h=>exact ⟨n,rfl,h⟩
theorem HasC.sl_inv{cs:List CT}{v:V}(h:HasC (.sl cs) v):∃ es,v=.sl cs.length es∧es.length≤maxLen∧∀ e∈es,HasRow cs e:=by
 cases h with | sl _ es hl h0 h=>exact ⟨es,rfl,hl,fun e he=>⟨h0 e he,h e he⟩⟩
end
def zBY:V→Bor→Option Bool:=fun v _=>match v with
 | .sc (.bool true)=>some true
 | _=>none
theorem zQ4{v:V}{b:Bor}(h:zBY v b=some true):v=.sc (.bool true):=by
 unfold zBY at h
 split at h
 ·rfl
 ·cases h
end
section
def hi0(n:Nat):Nat:=n
def hi1(n:Nat):Nat:=hi0 n
def hi2(n:Nat):Nat:=hi1 n
def hi3(n:Nat):Nat:=hi2 n
def hi4(n:Nat):Nat:=hi3 n
def hi5(n:Nat):Nat:=hi4 n
def hi6(n:Nat):Nat:=hi5 n
def hi7(n:Nat):Nat:=hi6 n
def hi8(n:Nat):Nat:=hi7 n
def hi9(n:Nat):Nat:=hi8 n
def zXD(n:Nat):Nat:=hi9 n
def zXG(n:Nat):Nat:=zXD n
def zXz(n:Nat):Nat:=zXG n
def zXs(n:Nat):Nat:=zXz n
def zXK(n:Nat):Nat:=zXs n
def zXy(n:Nat):Nat:=zXK n
def zXw(n:Nat):Nat:=zXy n
def zXl(n:Nat):Nat:=zXw n
def zXk(n:Nat):Nat:=zXl n
def zXo(n:Nat):Nat:=zXk n
def zXF(n:Nat):Nat:=zXo n
def zXM(n:Nat):Nat:=zXF n
def zXj(n:Nat):Nat:=zXM n
def zXq(n:Nat):Nat:=zXj n
def zDX(n:Nat):Nat:=zXq n
section
variable {β:Type}
def chk(p:Prop)[inst:Decidable p](k:Option β):Option β:=(fun (_:Nat→Nat)=>match inst with
 | .isTrue _=>k
 | .isFalse _=>none) hi0
theorem zfl(p:Prop)[inst:Decidable p](k:Option β):chk p k=if p then k else none:=by
 cases inst <;> rfl
def ifb(t:Bool)(a b:Option β):Option β:=(fun (_:Nat→Nat)=>match t with
 | true=>a
 | false=>b) hi0
def lt{α:Type}(a:α)(k:α→Option β):Option β:=k a
def aI(kd:IntKind)(v:V)(k:Int→Option β):Option β:=match v with
 | .sc (.int kd' n)=>chk (kd'=kd) (k n)
 | _=>none
def zuZ(v:V)(k:Int→Option β):Option β:=(fun (_:Nat→Nat)=>match v with
 | .sc (.int _ n)=>k n
 | _=>none) hi0
def aB(v:V)(k:Bool→Option β):Option β:=(fun (_:Nat→Nat)=>match v with
 | .sc (.bool b)=>k b
 | _=>none) hi0
def aS(v:V)(k:ByteArray→Option β):Option β:=(fun (_:Nat→Nat)=>match v with
 | .sc (.string s)=>k s
 | _=>none) hi0
def aL(sz:Nat)(v:V)(k:Ls→Option β):Option β:=match v with
 | .sl sz' es=>chk (sz'=sz) (k es)
 | _=>none
def aLd(sz:Nat)(v:V)(k:Ls→Option β):Option β:=match v with
 | .sl sz' es=>chk (sz'=sz) (k es)
 | .gs sz' es=>chk (sz'=sz) (k es)
 | _=>none
def aGw(sz:Nat)(v:V)(k:Ls→Option β):Option β:=match v with
 | .gs sz' es=>chk (sz'=sz) (k es)
 | _=>none
def aA(n:Nat)(v:V)(k:List V→Option β):Option β:=match v with
 | .agg cs=>chk (cs.length=n) (k cs)
 | _=>none
def aG(v:V)(k:List V→Option β):Option β:=(fun (_:Nat→Nat)=>match v with
 | .agg cs=>k cs
 | _=>none) hi0
def aGs(sz:Nat)(v:V)(k:Ls→Option β):Option β:=match v with
 | .gs sz' es=>chk (sz'=sz) (k es)
 | _=>none
def aP(id off:Nat)(v:V)(k:Option β):Option β:=match v with
 | .ptr i o=>chk (i=id∧o=off) (k)
 | _=>none
def aM(id:Nat)(v:V)(k:Option β):Option β:=match v with
 | .mp i=>chk (i=id) (k)
 | _=>none
def aO(id sz:Nat)(v:V)(k:Nat→Nat→Option β):Option β:=match v with
 | .own i o l s=>chk (i=id∧s=sz) (k o l)
 | _=>none
def aO0(id sz:Nat)(v:V)(k:Nat→Option β):Option β:=match v with
 | .own i o l s=>chk (i=id∧s=sz∧o=0) (k l)
 | _=>none
def aFp(n:Nat)(v:V)(k:List V→Option β):Option β:=match v with
 | .fp m cs=>chk (m=n) (k cs)
 | _=>none
def aV(u:Value)(v:V)(k:Option β):Option β:=match u,v with
 | .nilFunc,.sc .nilFunc=>k
 | .pointer none,.sc (.pointer none)=>k
 | .map none,.sc (.map none)=>k
 | _,_=>none
def zBW:List (Nat × Nat)→List V→Bool
 | [],[]=>true
 | (i,o)::r,.ptr a b::s=>Wf i a&&(Wf o b&&zBW r s)
 | _,_=>false
def aF(f:Nat)(caps:List (Nat × Nat))(v:V)(k:Option β):Option β:=match v with
 | .fn g cs=>match Wf f g&&zBW caps cs with
  | true=>k
  | false=>none
 | _=>none
def zdn(cs:List V)(off:Nat)(k:V→Option β):Option β:=match cs[off]? with
 | some v=>k v
 | none=>none
def xU(kb:List Bool)(cs:List V):List V:=cs.map (zk3 fun id=>!(kb.getD id false))
def cG(sz:Nat)(cs:List V)(off:Nat)(k:Ls→Option β):Option β:=zdn cs off fun v=>aGw sz v k
def idx(es:Ls)(j:Int)(k:List V→Option β):Option β:=chk (0≤j) (match es[j.toNat]? with
 | some c=>k c
 | none=>none)
def eqC(n:Nat)(a b:List V)(k:Bool→Option β):Option β:=chk (a.length=n∧b.length=n) (match ze0 a b with
 | some r=>k r
 | none=>none)
def zIx(es:Ls)(k:ByteArray→Option β):Option β:=match zfZ es with
 | some l=>k ⟨l.toArray⟩
 | none=>none
def zU7(es fs:Ls)(k:Int→Option β):Option β:=match zfZ es with
 | some a=>match zfZ fs with
  | some b=>k (Lib.compareBytes a b)
  | none=>none
 | none=>none
def zb4(cs:List V)(k:List V→Option β):Option β:=match cs.mapM V.plain with
 | some vs=>k vs
 | none=>none
def zNW(cs:List V)(k:List V→Option β):Option β:=match cs.mapM V.refd with
 | some vs=>k vs
 | none=>none
def mAt(kd:Nat)(key:V)(es:Lm)(k:Option V→Option β):Option β:=match zld kd key with
 | true=>match zyt key es with
  | some r=>k r
  | none=>none
 | false=>none
def zVc(kd:Nat)(key val:V)(es:Lm)(k:Lm→Option β):Option β:=match zld kd key with
 | true=>match zMn key val es with
  | some r=>k r
  | none=>none
 | false=>none
def cI(kd:IntKind)(cs:List V)(off:Nat)(k:Int→Option β):Option β:=zdn cs off (fun v=>aI kd v k)
def cB(cs:List V)(off:Nat)(k:Bool→Option β):Option β:=zdn cs off (fun v=>aB v k)
def cS(cs:List V)(off:Nat)(k:ByteArray→Option β):Option β:=zdn cs off (fun v=>aS v k)
def cL(sz:Nat)(cs:List V)(off:Nat)(k:Ls→Option β):Option β:=zdn cs off (fun v=>aL sz v k)
def cLd(sz:Nat)(cs:List V)(off:Nat)(k:Ls→Option β):Option β:=zdn cs off (fun v=>aLd sz v k)
end
def zep(k:IntKind)(a b:Int):Int:=k.wrap (BitVec.ofInt k.bits a &&& BitVec.ofInt k.bits b).toNat
def ior(k:IntKind)(a b:Int):Int:=k.wrap (BitVec.ofInt k.bits a ||| BitVec.ofInt k.bits b).toNat
def zcc(k:IntKind)(a b:Int):Int:=k.wrap (BitVec.ofInt k.bits a ^^^ BitVec.ofInt k.bits b).toNat
def zXP(k:IntKind)(a b:Int):Int:=k.wrap (BitVec.ofInt k.bits a &&& ~~~ BitVec.ofInt k.bits b).toNat
def zLh(k:IntKind)(n:Int):Int:=k.wrap (BitVec.ofInt k.bits (if k.signed then -1 else k.max) ^^^ BitVec.ofInt k.bits n).toNat
def zct(k:IntKind)(a b:Int):Int:=k.wrap (a*2 ^ (min b.toNat k.bits))
def zcS(k:IntKind)(a b:Int):Int:=a.fdiv (2 ^ (min b.toNat k.bits))
def zXU(a b:Int):Int:=if b>a then b else a
def zXV(a b:Int):Int:=if b<a then b else a
inductive Sh where
 | any
 | int (k:IntKind)
 | bool
 | str
 | sl (sz:Nat)
 | gs (sz:Nat)
 | row (l:List Sh)
def asc{β:Type}(s:Sh)(v:V)(k:V→Option β):Option β:=match s with
 | .any=>k v
 | .int kd=>aI kd v (fun n=>k (.sc (.int kd n)))
 | .bool=>aB v (fun b=>k (.sc (.bool b)))
 | .str=>aS v (fun t=>k (.sc (.string t)))
 | .sl sz=>aL sz v (fun es=>k (.sl sz es))
 | .gs sz=>aGw sz v (fun es=>k (.gs sz es))
 | .row _=>none
def zSH{β:Type}(s:Sh)(v:V)(k:V→Option β):Option β:=match s with
 | .gs sz=>aGw sz v (fun es=>k (.gs sz es))
 | _=>k v
def zVK{β:Type}(s:Sh)(v:V)(k:V→Option β):Option β:=match s with
 | .any=>k v.dem
 | .int kd=>aI kd v (fun n=>k (.sc (.int kd n)))
 | .bool=>aB v (fun b=>k (.sc (.bool b)))
 | .str=>aS v (fun t=>k (.sc (.string t)))
 | .sl sz=>aLd sz v (fun es=>k (.sl sz es))
 | .gs sz=>aLd sz v (fun es=>k (.sl sz es))
 | .row _=>none
def zK0{β:Type}:List Sh→Nat→List V→(List V→Option β)→Option β
 | [],_,_,k=>k []
 | s::ss,i,cs,k=>zdn cs i fun v=>asc s v fun v=>zK0 ss (i+1) cs fun r=>k (v::r)
def zBT{β:Type}(s:Sh)(cs:List V)(k:List V→Option β):Option β:=match s with
 | .row ss=>chk (cs.length=ss.length) (zK0 ss 0 cs k)
 | _=>k cs
abbrev CBC:=∀ (β:Type),Nat→List V→Bor→(V→Bor→Option β)→Option β
section
variable {β:Type}
abbrev zj5(o:Option St)(κ:St→Option β):Option β:=match o with
 | some σ=>κ σ
 | none=>none
def ltV(v:Value)(k:Value→Option β):Option β:=match v with
 | .int kd n=>lt n fun n=>k (.int kd n)
 | v=>k v
def zTe:V→V
 | .gs sz _=>.gs sz []
 | .sl sz _=>.sl sz []
 | v=>v
def zO5(t:Bool)(a b:V)(k:V→Option β):Option β:=match a,b with
 | .sc (.bool x),.sc (.bool y)=>k (.sc (.bool (cond t x y)))
 | .sc (.int kd x),.sc (.int kd' y)=>chk (kd=kd') (lt (cond t x y) (fun n=>k (.sc (.int kd n))))
 | a,b=>ifb t (k a) (k b)
def zGM(σ:St):List (Nat × Nat × Src)→List V→(List V→Option β)→Option β
 | [],cs,k=>k cs
 | (off,n,x)::rest,cs,k=>match (x.get σ).plain with
  | some v=>chk (v.cells.length=n∧off+n≤cs.length) (zGM σ rest (xd cs off v.cells) k)
  | none=>none
def zA3(sh:Nat→Sh)(σ:St):List (Nat × Nat × Src)→List V→(List V→Option β)→Option β
 | [],cs,k=>k cs
 | (off,n,x)::rest,cs,k=>match x.get σ with
  | .agg us=>zBT (sh ((x.slot).getD 0)) us fun us=>chk (us.length=n∧off+n≤cs.length) (zA3 sh σ rest (xd cs off us) k)
  | v=>match v.refd with
   | some v=>chk (v.cells.length=n∧off+n≤cs.length) (zA3 sh σ rest (xd cs off v.cells) k)
   | none=>none
def zSW(op:BinOp)(x y:Value)(k:Value→Option β):Option β:=
 match op,x,y with
 | .shl,.int kd a,.int _ b=>chk (0≤b) (k (.int kd (kd.wrap (a*2 ^ (min b.toNat kd.bits)))))
 | .shr,.int kd a,.int _ b=>chk (0≤b) (k (.int kd (a.fdiv (2 ^ (min b.toNat kd.bits)))))
 | .quo,.int kd a,.int kd' b=>chk (kd=kd') (chk (b≠0) (k (.int kd (kd.wrap (a.tdiv b)))))
 | .rem,.int kd a,.int kd' b=>chk (kd=kd') (chk (b≠0) (k (.int kd (a.tmod b))))
 | op,x,y=>match zr5 op x y with
  | some r=>k r
  | none=>none
def zzy(σ:St)(x:Option Src)(dflt:Nat)(most:Nat)(k:Nat→Option β):Option β:=
 match x with
 | none=>k dflt
 | some s=>zuZ (s.get σ) fun i=>chk (0≤i∧i≤most) (k i.toNat)
def zst(σ:St)(len:Nat)(lo hi mx:Option Src)(k:Nat→Nat→Nat→Option β):Option β:=
 zzy σ mx len len fun m=>zzy σ hi len m fun h=>zzy σ lo 0 h fun l=>k l h m
def zTH(l h m id off sz:Nat)(k:V→Option β):Option β:=ifb (decide (m=l)) (k (.gs sz [])) (k (.own id (off+l*sz) (h-l) sz))
def zmC(b:List B)(v:V)(k:V→Option β):Option β:=match zbc b v with
 | some u=>k u
 | none=>none
def zFZ(sh:Sh)(cs:List V)(off:Nat)(k:V→Option β):Option β:=zdn cs off (fun v=>asc sh v k)
def zQl(sh:Sh)(cs:List V)(off:Nat)(k:V→Option β):Option β:=zdn cs off (fun v=>zVK sh v k)
def zKh(nb:Nat)(σ:St)(dst:Option Nat)(pin:Bool)(v:V)(κ:St→Option β):Option β:=match v with
 | .fr sz es=>match pin with
  | true=>zj5 (σ.putG nb dst true sz es) κ
  | false=>κ (σ.put dst (.gs sz es))
 | v=>zj5 (σ.putR nb dst pin v) κ
def lc{α β:Type}(l:List α)(a:Option β)(b:α→List α→Option β):Option β:=match l with
 | []=>a
 | x::xs=>b x xs
def zHi(b:List B)(id:Nat)(κ:List B→Option β):Option β:=match b[id]? with
 | some (.live true cs)=>ifb cs.isEmpty (κ b) (κ (b.set id (.fz cs)))
 | _=>κ b
def zsu(σ:St):List (Src × Nat)→List B→(List B→Option β)→Option β
 | [],b,κ=>κ b
 | s::rest,b,κ=>match decide (2≤s.2) with
  | true=>zsu σ rest b κ
  | false=>match zam (s.1.get σ) with
   | some id=>zHi b id fun b=>zsu σ rest b κ
   | none=>zsu σ rest b κ
def zOs(b:List B)(v:V)(k:V→Option β):Option β:=match v with
 | .own id off len sz=>match b[id]? with
  | some (.fz cs)=>k (.sl sz (yf sz len (cs.drop off)))
  | some (.live _ [])=>chk (len=0) (k (.sl sz []))
  | _=>none
 | v=>match v.plain with
  | some u=>k u
  | none=>none
def zOm(b:List B):List V→(List V→Option β)→Option β
 | [],k=>k []
 | v::vs,k=>zOs b v fun u=>zOm b vs fun us=>k (u::us)
def zhN(nb:Nat):List Nat→St→(St→Option β)→Option β
 | [],σ,κ=>κ σ
 | d::fz,σ,κ=>match Nat.blt d 100000 with
  | true=>match σ.b[nb+d]? with
   | some (.live true cs)=>lc cs (zhN nb fz { σ with b:=σ.b.set (nb+d) (.live true []) } κ) (fun c cs=>zhN nb fz { σ with b:=σ.b.set (nb+d) (.fz (c::cs)) } κ)
   | _=>zhN nb fz σ κ
  | false=>match σ.b[nb+(d-100000)]? with
   | some (.live false cs)=>lc cs (zhN nb fz { σ with b:=σ.b.set (nb+(d-100000)) (.live false []) } κ) (fun c cs=>zb4 (c::cs) fun vs=>zhN nb fz { σ with b:=σ.b.set (nb+(d-100000)) (.fz vs) } κ)
   | some (.fz _)=>zhN nb fz σ κ
   | _=>none
def frK(r:V)(k:V→Option β):Option β:=match r with
 | .gs sz es=>ifb (zHF es) (k (.fr sz es)) (k .junk)
 | .tup (.gs sz es::vs)=>match vs.all zKi with
  | true=>ifb (zHF es) (k (.tup (.fr sz es::vs))) (k (.tup (.junk::vs)))
  | false=>none
 | _=>none
def frD(d:∀ (β:Type),List V→Bor→(V→Bor→Option β)→Option β)(β:Type)(args:List V)(bor:Bor)(k:V→Bor→Option β):Option β:=match bor with
 | []=>match args.all zFK with
  | true=>d β args [] (fun r b=>match b with
   | []=>frK r (fun r'=>k r' [])
   | _=>none)
  | false=>none
 | _=>none
def zBK(cb:CBC)(nb:Nat)(σ:St)(dst:Option Nat)(pin:Bool)(f:Nat)(args:List V)(srcs:List (Src × Nat))(xs:List Nat)(κ:St→Option β):Option β:=
 zsu σ srcs σ.b fun b1=>
 let σ1:St:={ σ with b:=b1 }
 let ids:=zar σ1.b args
 match ze5 σ1.b ids ids with
 | none=>none
 | some bor=>cb β f (args.map (zdS (yN ids))) bor fun r bor'=>
  let ids':=ids++(xs.map (nb+·)).take (bor'.length-ids.length)
  chk ((bor'.take ids.length).map B.len=bor.map B.len)
   (match decide (bor'.length=ids'.length)&&(args.all (fun a=>(yG a).all ids.contains)&&(zGE r&&((zj1 r).all (fun k=>decide (k<ids'.length))&&(bor'.all (B.lend (Wy ids'.length))&&(ziQ (bor'.take ids.length) bor&&((bor'.drop ids.length).all B.isRow&&zkV σ1.b nb xs)))))) with
   | true=>zKh nb { σ1 with b:=zas (fun k=>ids'.getD k 0) ids' bor' σ1.b } dst pin (zoI (fun k=>ids'.getD k 0) r) κ
   | false=>none)
def za0(sh:Nat→Sh)(cb:CBC)(nb:Nat)(σ:St)(dst:Option Nat)(pin:Bool)(k:K)(κ:St→Option β):Option β:=
 match k with
 | .pick c a b=>aB (c.get σ) fun t=>zO5 t (a.get σ).dem (b.get σ).dem fun v=>κ (σ.put dst v)
 | .build zero parts=>zGM σ parts zero fun cs=>κ (σ.put dst (.agg cs))
 | .buildSt zero parts=>zA3 sh σ parts zero fun cs=>κ (σ.put dst (.st cs))
 | .nilT neg x=>match (x.get σ).dem with
  | .sl _ es=>match x with
   | .tmp t=>ifb es.isEmpty (lt { σ with t:=σ.t.set t (zTe (x.get σ)) } fun σ=>κ (σ.put dst .ub)) (κ (σ.put dst (.sc (.bool neg))))
   | .const _=>none
  | _=>none
 | .un op x=>match x.get σ with
  | .sc a=>match zOO op a with
   | some r=>ltV r fun r=>κ (σ.put dst (.sc r))
   | none=>none
  | _=>none
 | .conv k x=>zuZ (x.get σ) fun n=>lt (k.wrap n) fun n=>κ (σ.put dst (.sc (.int k n)))
 | .adc sub x y c=>match x.get σ,y.get σ,c.get σ with
  | .sc (.int .u64 a),.sc (.int .u64 b),.sc (.int .u64 d)=>chk (d=0∨d=1) (lt (zHP sub a b d) fun s=>lt (zHK sub a b d) fun c=>κ (σ.put dst (.tup [.sc (.int .u64 s),.sc (.int .u64 c)])))
  | _,_,_=>none
 | .mm isMax x y=>match x.get σ,y.get σ with
  | .sc (.int k a),.sc (.int _ b)=>lt (if isMax then (if b>a then b else a) else (if b<a then b else a)) fun n=>κ (σ.put dst (.sc (.int k n)))
  | _,_=>none
 | .copy sz d s=>match d.get σ with
  | .own id off len sz1=>zmC σ.b (s.get σ) fun u=>match u with
   | .sl sz2 es=>match σ.b[id]? with
    | some (.live true cs)=>chk (sz1=sz∧sz2=sz) (lt (xd cs off (es.take (min es.length len)).flatten) fun cs'=>κ ((σ.setB id (.live true cs')).put dst (.sc (.int .i64 ((min es.length len:Nat):Int)))))
    | _=>none
   | _=>none
  | _=>none
 | .box p x=>match x.get σ with
  | .st cs=>match p with
   | true=>none
   | false=>zj5 (σ.newB nb dst (.live false cs) (fun id=>.ptr id 0)) κ
  | v=>match v.plain with
   | some v=>match p with
    | true=>zj5 (σ.newB nb dst (.live true v.cells) (fun id=>.ptr id 0)) κ
    | false=>zBT (sh (dst.getD 0)) v.cells fun cs=>zj5 (σ.newB nb dst (.live false cs) (fun id=>.ptr id 0)) κ
   | none=>none
 | .buildSlice sz n zero parts=>zGM σ parts (We n zero).flatten fun cs=>match decide (n=0∧pin=true) with
  | true=>κ (σ.put dst (.fr sz []))
  | false=>zj5 (σ.putG nb dst pin sz (yf sz n cs)) κ
 | .bin op x y=>match x.get σ,y.get σ with
  | .sc a,.sc b=>zSW op a b fun r=>ltV r fun r=>κ (σ.put dst (.sc r))
  | _,_=>none
 | .eqAgg neg n x y=>match x.get σ,y.get σ with
  | .agg a,.agg b=>eqC n a b fun r=>κ (σ.put dst (.sc (.bool (if neg then !r else r))))
  | _,_=>none
 | .toStr x=>zmC σ.b (x.get σ) fun v=>match v with
  | .sl 1 es=>zIx es fun s=>κ (σ.put dst (.sc (.string s)))
  | _=>none
 | .see x=>match x.get σ with
  | .own id off len sz=>match σ.b[id]? with
   | some (.fz cs)=>κ (σ.put dst (.sl sz (yf sz len (cs.drop off))))
   | some (.live true [])=>chk (len=0) (κ (σ.put dst (.sl sz [])))
   | _=>none
  | _=>none
 | .cmpB x y=>zmC σ.b (x.get σ) fun u=>zmC σ.b (y.get σ) fun v=>match u,v with
  | .sl 1 es,.sl 1 fs=>zU7 es fs fun n=>lt n fun n=>κ (σ.put dst (.sc (.int .i64 n)))
  | _,_=>none
 | .makeSlice sz bytes zero l c=>zuZ (l.get σ) fun l=>zuZ (c.get σ) fun c=>
  match pin with
  | true=>chk (0≤l∧l≤c∧c.toNat*bytes≤zg∧c≤zg) (zj5 (σ.newB nb dst (.live true (We c.toNat zero).flatten) (fun id=>.own id 0 l.toNat sz)) κ)
  | false=>chk (0≤l∧l≤c∧c.toNat*bytes≤zg∧c≤zg) (zj5 (σ.putG nb dst false sz (We l.toNat zero)) κ)
 | .sliceA n sz x lo hi mx=>zst σ n lo hi mx fun l h m=>
  match x.get σ with
  | .ptr id off=>match σ.b[id]? with
   | some (.live _ cs)=>chk (off+n*sz≤cs.length) (zTH l h m id off sz fun v=>κ (σ.put dst v))
   | some (.fz cs)=>chk (off+n*sz≤cs.length) (ifb (decide (m=l)) (κ (σ.put dst (.gs sz []))) (κ (σ.put dst (.sl sz (yf sz (h-l) (cs.drop (off+l*sz)))))))
   | _=>none
  | .fp q cs=>chk (n*sz≤q) (κ (σ.put dst (.sl sz (yf sz (h-l) (cs.drop (l*sz))))))
  | _=>none
 | .sliceS sz x lo hi mx=>match (x.get σ).dem with
  | .sl sz' es=>zst σ es.length lo hi mx fun l h m=>
   chk (sz=sz') (match mx with
    | none=>κ (σ.put dst (.sl sz ((es.drop l).take (h-l))))
    | some _=>ifb (decide (m=l)) (κ (σ.put dst (.fr sz []))) (κ (σ.put dst (.sl sz ((es.drop l).take (h-l))))))
  | .own id off len sz'=>zst σ len lo hi mx fun l h m=>chk (sz=sz') (match mx with
    | none=>κ (σ.put dst (.own id (off+l*sz) (h-l) sz))
    | some _=>ifb (decide (m=l)) (κ (σ.put dst (.fr sz []))) (κ (σ.put dst .junk)))
  | .cut id off _ cap sz'=>match hi with
   | some _=>match mx with
    | none=>zst σ cap lo hi none fun l h _=>chk (sz=sz') (κ (σ.put dst (.own id (off+l*sz) (h-l) sz)))
    | some _=>none
   | none=>none
  | _=>none
 | .sliceC sz x hi=>match x.get σ with
  | .own id off len sz'=>match hi with
   | some _=>zst σ len none hi none fun _ h _=>chk (sz=sz') (κ (σ.put dst (.cut id off h len sz)))
   | none=>none
  | _=>none
 | .field agg o n x=>match x.get σ with
  | .agg cs=>match agg with
   | true=>κ (σ.put dst (.agg ((cs.drop o).take n)))
   | false=>zFZ (sh (dst.getD 0)) cs o fun v=>κ (σ.put dst v)
  | .st cs=>match agg with
   | true=>none
   | false=>match cs[o]? with
    | some v=>κ (σ.put dst v)
    | none=>none
  | _=>none
 | .indexAddrA len sz x i=>zuZ (i.get σ) fun j=>chk (0≤j∧j<len) (match x.get σ with
   | .ptr id off=>κ (σ.put dst (.ptr id (off+j.toNat*sz)))
   | .fp n cs=>chk (len*sz≤n) (κ (σ.put dst (.fp (n-j.toNat*sz) (cs.drop (j.toNat*sz)))))
   | _=>none)
 | .indexAddrS sz x i=>zuZ (i.get σ) fun j=>match (x.get σ).dem with
   | .sl sz' es=>chk (sz=sz') (idx es j fun c=>κ (σ.put dst (.fp sz c)))
   | .own id off len sz'=>chk (sz=sz') (chk (0≤j∧j<len) (κ (σ.put dst (.ptr id (off+j.toNat*sz)))))
   | _=>none
 | .arrP n sz x=>match (x.get σ).dem with
   | .sl sz' es=>chk (sz=sz') (chk (0<n) (chk (n≤es.length) (κ (σ.put dst (.fp (n*sz) (es.take n).flatten)))))
   | .own id off len sz'=>chk (sz=sz') (chk (0<n) (chk (n≤len) (κ (σ.put dst (.ptr id off)))))
   | _=>none
 | .indexA agg len sz x i=>zuZ (i.get σ) fun j=>chk (0≤j∧j<len) (match x.get σ with
   | .agg cs=>match agg with
    | true=>κ (σ.put dst (.agg ((cs.drop (j.toNat*sz)).take sz)))
    | false=>zFZ (sh (dst.getD 0)) cs (j.toNat*sz) fun v=>κ (σ.put dst v)
   | _=>none)
 | .load agg n a take=>match a.get σ with
  | .ptr id off=>match σ.b[id]? with
   | some (.live p cs)=>match agg with
    | true=>chk (off+n≤cs.length) (match p with
     | true=>κ (σ.put dst (.agg ((cs.drop off).take n)))
     | false=>match take with
      | true=>zNW ((cs.drop off).take n) fun vs=>κ (σ.put dst (.st vs))
      | false=>zb4 ((cs.drop off).take n) fun vs=>κ (σ.put dst (.agg vs)))
    | false=>match take with
     | true=>match p with
      | true=>none
      | false=>zdn cs off fun v=>zSH (sh (dst.getD 0)) v fun v=>κ ((σ.setB id (.live p (cs.set off v.dem))).put dst v.tk)
     | false=>zQl (sh (dst.getD 0)) cs off fun v=>κ (σ.put dst v)
   | some (.fz cs)=>match agg with
    | true=>chk (off+n≤cs.length) (κ (σ.put dst (.agg ((cs.drop off).take n))))
    | false=>zFZ (sh (dst.getD 0)) cs off fun v=>κ (σ.put dst v)
   | _=>none
  | .fp m cs=>match agg with
   | true=>chk (n≤m) (κ (σ.put dst (.agg (cs.take n))))
   | false=>zFZ (sh (dst.getD 0)) cs 0 fun v=>κ (σ.put dst v)
  | _=>none
 | .store n a x=>match dst with
  | some _=>none
  | none=>match a.get σ with
   | .ptr id off=>match σ.b[id]? with
    | some (.live true cs)=>match (x.get σ).plain with
     | some v=>chk (v.cells.length=n∧off+n≤cs.length) (lt (xd cs off v.cells) fun cs'=>κ (σ.setB id (.live true cs')))
     | none=>none
    | some (.live false cs)=>match x.get σ with
     | .agg us=>zBT (sh ((x.slot).getD 0)) us fun us=>chk (us.length=n∧off+n≤cs.length) (κ (σ.setB id (.live false (xd cs off us))))
     | .st us=>chk (us.length=n∧off+n≤cs.length) (κ (σ.setB id (.live false (xd cs off us))))
     | .tup _=>none
     | .bx _ _=>none
     | .junk=>none
     | v=>chk (n=1∧off<cs.length) (κ ((σ.demote x).setB id (.live false (cs.set off v))))
    | _=>none
   | _=>none
 | .append sz bytes s x=>match s.get σ with
  | .gs sz1 es=>zmC σ.b (x.get σ) fun u=>match u with
   | .sl sz2 es2=>chk (sz1=sz∧sz2=sz) (chk ((es.length+es2.length)*bytes≤zg∧es.length+es2.length≤zg) (match pin with
    | true=>match s,es with
     | .const _,[]=>zj5 (σ.putG nb dst true sz es2) κ
     | _,_=>none
    | false=>lt (es++es2) fun es'=>κ ((σ.demote s).put dst (.gs sz es'))))
   | _=>none
  | .fr sz1 []=>zmC σ.b (x.get σ) fun u=>match u with
   | .sl sz2 es2=>chk (sz1=sz∧sz2=sz) (chk ((0+es2.length)*bytes≤zg∧0+es2.length≤zg) (zj5 ((σ.demote s).putG nb dst pin sz es2) κ))
   | _=>none
  | .own id off len sz1=>zmC σ.b (x.get σ) fun u=>match u with
   | .sl sz2 es2=>match σ.b[id]? with
    | some (.live true cs)=>chk (sz1=sz∧sz2=sz∧off=0) (chk ((len+es2.length)*bytes≤zg∧len+es2.length≤zg∧(len+es2.length≠0∨cs.length=0)) (lt (cs.take (len*sz)++es2.flatten) fun cs'=>
     zj5 ((σ.setB id (.dead cs.length)).newB nb dst (.live true cs') (fun id'=>.own id' 0 (len+es2.length) sz)) κ))
    | _=>none
   | _=>none
  | .cut id off len cap sz1=>zmC σ.b (x.get σ) fun u=>match u with
   | .sl sz2 es2=>match σ.b[id]? with
    | some (.live true cs)=>match pin with
     | false=>chk (sz1=sz∧sz2=sz∧off=0) (chk (len+es2.length≤cap) (lt (xd cs (len*sz) es2.flatten) fun cs'=>κ ((σ.setB id (.live true cs')).put dst (.cut id 0 (len+es2.length) cap sz))))
     | true=>none
    | _=>none
   | _=>none
  | _=>none
 | .appendF sz bytes s x=>match pin with
  | true=>none
  | false=>match s.get σ with
   | .gs sz1 []=>zmC σ.b (x.get σ) fun u=>match u with
    | .sl sz2 es2=>chk (sz1=sz∧sz2=sz) (chk ((0+es2.length)*bytes≤zg∧0+es2.length≤zg∧0+es2.length≠0) (κ ((σ.demote s).put dst (.fr sz es2))))
    | _=>none
   | .fr sz1 es=>zmC σ.b (x.get σ) fun u=>match u with
    | .sl sz2 es2=>chk (sz1=sz∧sz2=sz) (chk ((es.length+es2.length)*bytes≤zg∧es.length+es2.length≤zg∧es.length+es2.length≠0) (lt (es++es2) fun es'=>κ ((σ.demote s).put dst (.fr sz es'))))
    | _=>none
   | _=>none
 | .pinC p sz a=>match a.get σ with
  | .ptr id off=>match σ.b[id]? with
   | some (.live false cs)=>zdn cs off fun v=>match v with
    | .fr sz1 es=>match dst with
     | some d=>chk (sz1=sz) (lt es.flatten fun cs'=>zj5 ((σ.setB id (.live false (cs.set off (.own (nb+d) 0 es.length sz)))).newB nb dst (.live p cs') (fun id'=>.own id' 0 es.length sz)) κ)
     | none=>none
    | _=>none
   | _=>none
  | _=>none
 | .storeF n a x xs=>match dst with
  | some _=>none
  | none=>match a.get σ with
   | .ptr id off=>match σ.b[id]? with
    | some (.live false cs)=>match x.get σ with
     | .st us=>chk (us.length=n∧off+n≤cs.length) (κ (σ.setB id (.live false (xd cs off (frz xs us)))))
     | _=>none
    | _=>none
   | _=>none
 | .loadS n a=>match a.get σ with
  | .ptr id off=>match σ.b[id]? with
   | some (.live false cs)=>chk (off+n≤cs.length) (zOm σ.b ((cs.drop off).take n) fun vs=>κ (σ.put dst (.agg vs)))
   | _=>none
  | _=>none
 | .pinS p sz x=>match x.get σ with
  | .fr sz1 es=>match x,dst with
   | .tmp t,some d=>chk (sz1=sz∧t≠d) (lt es.flatten fun cs'=>zj5 ((σ.put (some t) (.own (nb+d) 0 es.length sz)).newB nb dst (.live p cs') (fun id'=>.own id' 0 es.length sz)) κ)
   | _,_=>none
  | _=>none
 | .unpin x=>match pin with
  | true=>none
  | false=>match x.get σ with
   | .own id off len sz=>match σ.b[id]? with
    | some (.live true cs)=>chk (off=0∧len*sz≤cs.length∧cs.length≠0) (κ ((σ.setB id (.dead cs.length)).put dst (.gs sz (yf sz len cs))))
    | _=>none
   | .gs sz es=>κ ((σ.demote x).put dst (.gs sz es))
   | _=>none
 | .clear sz zero x=>match x.get σ with
  | .own id off len sz1=>match σ.b[id]? with
   | some (.live true cs)=>chk (sz1=sz) (lt (xd cs off (We len zero).flatten) fun cs'=>κ ((σ.setB id (.live true cs')).put dst (.tup [])))
   | _=>none
  | _=>none
 | .extract x i=>match x.get σ with
  | .tup vs=>match vs[i]?,x with
   | some v,.tmp t=>match vs.all zMg&&decide (dst≠some t) with
    | true=>match v.isHeld with
     | true=>zKh nb { σ with t:=σ.t.set t (.tup (vs.set i .junk)) } dst pin v κ
     | false=>match pin&&!v.isJunk with
      | true=>none
      | false=>κ (σ.put dst v.dem)
    | false=>none
   | _,_=>none
  | _=>none
 | .appendZ sz bytes zero s x=>match s.get σ with
  | .gs sz1 es=>zuZ (x.get σ) fun n=>chk (sz1=sz) (chk (0≤n∧(es.length+n.toNat)*bytes≤zg∧es.length+n.toNat≤zg) (match pin with
   | true=>none
   | false=>lt (es++We n.toNat zero) fun es'=>κ ((σ.demote s).put dst (.gs sz es'))))
  | _=>none
 | .mlook kd ok zero x y=>match x.get σ with
  | .mp id=>match σ.b[id]? with
   | some (.mp es)=>mAt kd (y.get σ) es fun r=>asc (sh (dst.getD 0)) (r.getD zero) fun v=>match ok with
    | true=>κ (σ.put dst (.tup [v,.sc (.bool r.isSome)]))
    | false=>κ (σ.put dst v)
   | _=>none
  | _=>none
 | .mput kd x y z=>match dst with
  | some _=>none
  | none=>match x.get σ with
   | .mp id=>match σ.b[id]? with
    | some (.mp es)=>match (z.get σ).plain with
     | some v=>zVc kd (y.get σ) v es fun es'=>κ (σ.setB id (.mp es'))
     | none=>none
    | _=>none
   | _=>none
 | .call f args xs=>match args.mapM (zby σ) with
  | some vs=>zBK cb nb σ dst pin f vs args xs κ
  | none=>none
 | .callv f args xs=>match f.get σ with
  | .fn g caps=>match args.mapM (zby σ) with
   | some vs=>zBK cb nb σ dst pin g (vs++caps) args xs κ
   | none=>none
  | _=>none
 | k=>zj5 (yd (fun _ _ _=>none) nb σ dst pin k) κ
def zBR(sh:Nat→Sh)(cb:CBC)(nb:Nat)(σ:St)(o:COp)(κ:St→St→Option β):Option β:=
 match o.guard with
 | none=>za0 sh cb nb σ o.dst o.pin o.k (κ σ)
 | some (j,want)=>match σ.t[j]? with
  | some (.sc (.bool b))=>match want with
   | true=>ifb b (lt { σ with t:=σ.t.set j (.sc (.bool true)) } fun σ=>za0 sh cb nb σ o.dst o.pin o.k (κ σ)) (lt { σ with t:=σ.t.set j (.sc (.bool false)) } fun σ=>κ σ (σ.put o.dst (.tup [])))
   | false=>ifb b (lt { σ with t:=σ.t.set j (.sc (.bool true)) } fun σ=>κ σ (σ.put o.dst (.tup []))) (lt { σ with t:=σ.t.set j (.sc (.bool false)) } fun σ=>za0 sh cb nb σ o.dst o.pin o.k (κ σ))
  | some (.tup [])=>κ σ (σ.put o.dst (.tup []))
  | _=>none
def zEq(sh:Nat→Sh)(cb:CBC)(nb:Nat):List COp→St→(St→Option β)→Option β
 | [],σ,κ=>κ σ
 | o::rest,σ,κ=>zBR sh cb nb σ o fun _ σ'=>zEq sh cb nb rest σ' κ
def zLY(sh:Nat→Sh)(cb:CBC)(nb:Nat):List (COp × Fl)→St→(St→Option β)→Option β
 | [],σ,κ=>κ σ
 | (o,q)::rest,σ,κ=>zBR sh cb nb σ o fun σr σ'=>match flT nb σr o q σ' with
  | true=>zLY sh cb nb rest σ' κ
  | false=>none
abbrev KT(β:Type):=Ex→St→Option β
def zy(rb:St→KT β→Option β)(K:KT β):KT β:=(fun (_:Nat→Nat)=>fun ex σ=>match ex with
 | .normal=>rb σ K
 | .exit j=>K (.exit j) σ
 | .ret=>K .ret σ) zDX
def zl(id:Nat)(K:KT β):KT β:=(fun (_:Nat→Nat)=>fun ex σ=>match ex with
 | .normal=>K .normal σ
 | .exit j=>match Wf j id with
  | true=>K .normal σ
  | false=>K (.exit j) σ
 | .ret=>K .ret σ) zDX
def xS(norm:St→St)(X:St→Option β)(K:KT β):KT β:=(fun (_:Nat→Nat)=>fun ex σ=>match ex with
 | .normal=>X (norm σ)
 | .exit j=>K (.exit j) σ
 | .ret=>K .ret σ) zDX
def yx(body:St→KT β→Option β)(norm:St→St):Nat→St→KT β→Option β
 | 0,_,_=>none
 | n+1,σ,K=>body σ (xS norm (fun σ=>yx body norm n σ K) K)
def onR(o:Option (Ex × St))(K:KT β):Option β:=(fun (_:Nat→Nat)=>match o with
 | some (ex,σ)=>K ex σ
 | none=>none) zDX
def xf(sh:Nat→Sh)(cb:CBC)(nb:Nat)(L:Nat):CC→St→KT β→Option β
 | .skip,σ,K=>K .normal σ
 | .reg ops,σ,K=>zEq sh cb nb ops σ (K .normal)
 | .dreg fz ops,σ,K=>zhN nb fz σ fun σ=>zLY sh cb nb ops σ (K .normal)
 | .seq a b,σ,K=>xf sh cb nb L a σ (zy (xf sh cb nb L b) K)
 | .fork p c a b,σ,K=>xf sh cb nb L p σ (zy (fun σ K=>match c.get σ with
  | .ub=>match zKm (run (fun _ _ _=>none) nb L a σ) (run (fun _ _ _=>none) nb L b σ) with
   | true=>onR (run (fun _ _ _=>none) nb L b σ) K
   | false=>none
  | v=>aB v fun t=>ifb t (xf sh cb nb L a σ (zy (xf sh cb nb L b) K)) (xf sh cb nb L b σ K)) K)
 | .cond c a b,σ,K=>match c.get σ with
  | .ub=>match zG7 (run (fun _ _ _=>none) nb L a σ) (run (fun _ _ _=>none) nb L b σ) with
   | true=>onR (run (fun _ _ _=>none) nb L b σ) K
   | false=>none
  | v=>aB v fun t=>ifb t (xf sh cb nb L a σ K) (xf sh cb nb L b σ K)
 | .block id a,σ,K=>xf sh cb nb L a σ (zl id K)
 | .loop kt kb a,σ,K=>yx (xf sh cb nb L a) (zN nb kt kb) L (zN nb kt kb σ) K
 | .mask kt kb,σ,K=>K .normal (zN nb kt kb σ)
 | .exit id,σ,K=>K (.exit id) σ
 | .ret,σ,K=>K .ret σ
def zsw(nb:Nat)(σ:St)(r:RV)(k:V→Option β):Option β:=match r with
 | .cellS _ _ _=>none
 | .tmp t=>match σ.t.getD t .junk with
  | .own id off len sz=>match decide (nb≤id) with
   | true=>match σ.b[id]? with
    | some (.live true cs)=>match decide (off=0∧0<sz) with
     | true=>chk (len≠0∨cs.length=0) (k (.fr sz (yf sz len cs)))
     | false=>none
    | _=>none
   | false=>k (.own id off len sz)
  | .ptr id off=>match σ.b[id]? with
   | some (.live p cs)=>match decide (off=0∧nb≤id) with
    | true=>chk (cs.length≠0) (match p with
     | true=>k (.bx p cs)
     | false=>zb4 cs fun cs=>k (.bx false cs))
    | false=>none
   | _=>none
  | _=>match zaT nb σ (.tmp t) with
   | some v=>k v
   | none=>none
 | .tmpP t=>match σ.t.getD t .junk with
  | .own id off len sz=>match decide (nb≤id∧off=0∧0<sz) with
   | true=>match σ.b[id]? with
    | some (.live true cs)=>k (.gs sz (yf sz len cs))
    | _=>none
   | false=>none
  | _=>match zaT nb σ (.tmpP t) with
   | some v=>k v
   | none=>none
 | .cell t agg n=>match σ.t.getD t .junk with
  | .ptr id off=>match σ.b[id]? with
   | some (.live p cs)=>match agg with
    | true=>chk (off=0∧cs.length=n∧n≠0) (match p with
     | true=>k (.agg cs)
     | false=>zb4 cs fun cs=>k (.agg cs))
    | false=>match decide (n=1∧off=0) with
     | true=>zdn cs 0 fun v=>match v.plain with
      | some v=>k v
      | none=>none
     | false=>none
   | _=>none
  | _=>none
def zD8(nb:Nat)(σ:St):List RV→(List V→Option β)→Option β
 | [],k=>k []
 | r::rs,k=>zsw nb σ r fun v=>zD8 nb σ rs fun vs=>k (v::vs)
def zyo(nb:Nat)(σ:St)(rs:List RV)(k:V→Option β):Option β:=
 match zl0 rs&&zgi (zi5 nb σ rs) with
 | true=>match rs with
  | [r]=>zsw nb σ r k
  | rs=>zD8 nb σ rs fun vs=>k (.tup vs)
 | false=>none
def zBG(b:List B)(nb:Nat)(ids:List Nat):List Nat→(Bor→Option β)→Option β
 | [],k=>k []
 | id::rest,k=>match b[id]? with
  | some (.live p cs)=>match p with
   | true=>zBG b nb ids rest fun l=>k (.live true cs::l)
   | false=>match decide (id<nb) with
    | true=>chk (cs.all (zce ids)=true) (zBG b nb ids rest fun l=>k (.live false (cs.map (zdS (yN ids)))::l))
    | false=>none
  | some (.mp es)=>match decide (id<nb) with
   | true=>zBG b nb ids rest fun l=>k (.mp es::l)
   | false=>none
  | some (.dead n)=>match decide (id<nb) with
   | true=>zBG b nb ids rest fun l=>k (.dead n::l)
   | false=>none
  | _=>none
def zG(nb:Nat)(rs:List RV)(k:V→Bor→Option β):KT β:=fun ex σ=>match ex with
 | .exit _=>none
 | _=>match zjP σ.t.length rs σ with
  | some (σ,rs)=>zyo nb σ rs fun r=>zBG σ.b nb (zfn nb r) (zfn nb r) fun b=>match zgi (zfn nb r) with
   | true=>k (zoI (yN (zfn nb r)) r) b
   | false=>none
  | none=>none
def zHe:CC→Bool
 | .fork _ _ _ _=>true
 | .seq a b=>zHe a||zHe b
 | _=>false
def zKn(sh:Nat→Sh)(cb:CBC)(L:Nat)(c:CF)(args:List V)(bor:Bor)(k:V→Bor→Option β):Option β:=
 xf sh cb bor.length L c.body (enter c.ntmps args bor) (zG bor.length c.res k)
def zj(sh:Nat→Sh)(cb:CBC)(L:Nat)(c:CF)(args:List V)(bor:Bor)(k:V→Bor→Option β):Option β:=
 match zHe c.body,args with
 | true,.sl sz es::rest=>lc es (zKn sh cb L c (.sl sz []::rest) bor k) (fun x xs=>zKn sh cb L c (.sl sz (x::xs)::rest) bor k)
 | _,args=>zKn sh cb L c args bor k
end
def zPn(x:Nat):Nat→Nat→List Bool
 | 0,_=>[]
 | n+1,i=>x.testBit i::zPn x n (i+1)
def bl(x n:Nat):List Bool:=zPn x n 0
def yD:List (Nat × Sh)→Nat→Sh
 | [],_=>.any
 | (m,s)::r,n=>match Wf m n with
  | true=>s
  | false=>yD r n
def zRW:V→Nat
 | .sc (.int _ _)=>1
 | .sc (.bool _)=>2
 | .sc _=>3
 | .agg _=>4
 | .tup _=>5
 | .sl _ _=>6
 | .gs _ _=>7
 | .own _ _ _ _=>8
 | .ptr _ _=>9
 | .fp _ _=>10
 | .fn f _=>100+f
 | .mp _=>12
 | .st _=>13
 | _=>11
def zW1:V→List Nat
 | .st cs=>13::cs.map zRW
 | v=>[zRW v]
def zz1:Bor→List Nat
 | []=>[]
 | .live true _::r=>20::zz1 r
 | .live false cs::r=>21::(cs.map zRW++zz1 r)
 | .mp _::r=>22::zz1 r
 | _::r=>23::zz1 r
def zQz:List Nat→List Nat→Bool
 | [],[]=>true
 | a::l,b::m=>Wf a b&&zQz l m
 | _,_=>false
def zXW(g:Nat)(tags:List Nat)(d:∀ (β:Type),List V→Bor→(V→Bor→Option β)→Option β)(c:CBC):CBC:=fun β f args bor k=>match Wf f g&&zQz tags (args.flatMap zW1++zz1 bor) with
 | true=>d β args bor k
 | false=>c β f args bor k
def noC:CBC:=fun _ _ _ _ _=>none
def zq(g:Nat)(d:∀ (β:Type),List V→Bor→(V→Bor→Option β)→Option β)(c:CBC):CBC:=fun β f args bor k=>match Wf f g with
 | true=>d β args bor k
 | false=>c β f args bor k
abbrev tq(n:Nat):Src:=.tmp n
abbrev oo(d:Nat)(k:K):COp:=⟨some d,false,none,k⟩
abbrev oz(k:K):COp:=⟨none,false,none,k⟩
abbrev KK(β:Type):=V→Bor→Option β
def rp:Nat→V→List V→List V
 | 0,_,l=>l
 | n+1,v,l=>v::rp n v l
def jn:Nat→List V→List V
 | 0,l=>l
 | n+1,l=>.junk::jn n l
def gn:Nat→List B→List B
 | 0,l=>l
 | n+1,l=>.gone::gn n l
abbrev Qf (n:Int):Src:=.const (.sc (.int .i64 n))
abbrev Qg (b:Bool):Src:=.const (.sc (.bool b))
abbrev Qh (d:Nat)(s:Src):COp:=oo d (.move s false)
abbrev Qi (d:Nat)(s:Src):COp:=oo d (.move s true)
abbrev Qj (d n:Nat)(s:Src):COp:=oo d (.load false n s false)
abbrev Qk (d n:Nat)(s:Src):COp:=oo d (.load true n s false)
abbrev Ql (d n:Nat)(s:Src):COp:=oo d (.fieldAddr n s)
abbrev Qm (n:Nat)(a x:Src):COp:=oz (.store n a x)
abbrev Qn (d n z:Nat)(a x:Src):COp:=oo d (.indexAddrA n z a x)
abbrev Qo (d z:Nat)(a x:Src):COp:=oo d (.indexAddrS z a x)
abbrev Qp (d:Nat)(o:BinOp)(a x:Src):COp:=oo d (.bin o a x)
abbrev Qq (d:Nat)(s:Src)(i:Nat):COp:=oo d (.pull s i)
abbrev Qr (d:Nat)(s:Src):COp:=oo d (.lenS s)
abbrev Qs (d f:Nat)(a:List (Src×Nat)):COp:=oo d (.call f a [])
abbrev Qt (d:Nat)(s:Src):COp:=oo d (.un .not s)
abbrev Qu (d:Nat)(k:IntKind)(s:Src):COp:=oo d (.conv k s)
abbrev Qv (d:Nat)(s:Src):COp:=oo d (.box true s)
abbrev Qw (n:Nat):Src×Nat:=(tq n,0)
end
section
section
variable {β:Type} {r:β}
theorem zr{p:Prop}[Decidable p]{k:Option β}(h:chk p k=some r):p∧k=some r:=by
 rw [zfl] at h; split at h
 ·exact ⟨‹_›,h⟩
 ·cases h
theorem zjj{t:Bool}{a b:Option β}(h:ifb t a b=some r):(t=true∧a=some r)∨(t=false∧b=some r):=by
 cases t
 ·exact .inr ⟨rfl,h⟩
 ·exact .inl ⟨rfl,h⟩
theorem zY{kd:IntKind}{v:V}{k:Int→Option β}(h:aI kd v k=some r):∃ n,v=.sc (.int kd n)∧k n=some r:=by
 unfold aI at h; simp only [zfl] at h; split at h
 ·split at h
  ·rename_i e; subst e; exact ⟨_,rfl,h⟩
  ·cases h
 ·cases h
theorem zkf{v:V}{k:Int→Option β}(h:zuZ v k=some r):∃ kd n,v=.sc (.int kd n)∧k n=some r:=by
 unfold zuZ at h; split at h
 ·exact ⟨_,_,rfl,h⟩
 ·cases h
theorem zAm{v:V}{k:Bool→Option β}(h:aB v k=some r):∃ b,v=.sc (.bool b)∧k b=some r:=by
 unfold aB at h; split at h
 ·exact ⟨_,rfl,h⟩
 ·cases h
theorem zQ2{v:V}{k:ByteArray→Option β}(h:aS v k=some r):∃ s,v=.sc (.string s)∧k s=some r:=by
 unfold aS at h; split at h
 ·exact ⟨_,rfl,h⟩
 ·cases h
theorem zeO{sz:Nat}{v:V}{k:Ls→Option β}(h:aL sz v k=some r):∃ es,v=.sl sz es∧k es=some r:=by
 unfold aL at h; simp only [zfl] at h; split at h
 ·split at h
  ·rename_i e; subst e; exact ⟨_,rfl,h⟩
  ·cases h
 ·cases h
theorem zNc{sz:Nat}{v:V}{k:Ls→Option β}(h:aLd sz v k=some r):∃ es,v.dem=.sl sz es∧k es=some r:=by
 unfold aLd at h; simp only [zfl] at h; split at h
 ·split at h
  ·rename_i e; subst e; exact ⟨_,rfl,h⟩
  ·cases h
 ·split at h
  ·rename_i e; subst e; exact ⟨_,rfl,h⟩
  ·cases h
 ·cases h
theorem zUZ{v:V}{k:List V→Option β}(h:aG v k=some r):∃ cs,v=.agg cs∧k cs=some r:=by
 unfold aG at h; split at h
 ·exact ⟨_,rfl,h⟩
 ·cases h
theorem zeV{id off:Nat}{v:V}{k:Option β}(h:aP id off v k=some r):v=.ptr id off∧k=some r:=by
 unfold aP at h; simp only [zfl] at h; split at h
 ·split at h
  ·rename_i e; rw [e.1,e.2]; exact ⟨rfl,h⟩
  ·cases h
 ·cases h
theorem zGn:∀ {caps:List (Nat × Nat)} {cs:List V},zBW caps cs=true→cs=caps.map (fun p=>.ptr p.1 p.2)
 | [],[],_=>rfl
 | (i,o)::r,.ptr a b::s,h=>by
  simp only [zBW,Wh] at h
  rw [Wd h.1,Wd h.2.1,zGn h.2.2]
  rfl
 | [],_::_,h=>by cases h
 | _::_,[],h=>by cases h
 | (i,o)::_,.sc _::_,h=>by cases h
 | (i,o)::_,.agg _::_,h=>by cases h
 | (i,o)::_,.tup _::_,h=>by cases h
 | (i,o)::_,.sl _ _::_,h=>by cases h
 | (i,o)::_,.gs _ _::_,h=>by cases h
 | (i,o)::_,.own _ _ _ _::_,h=>by cases h
 | (i,o)::_,.fp _ _::_,h=>by cases h
 | (i,o)::_,.fn _ _::_,h=>by cases h
 | (i,o)::_,.bx _ _::_,h=>by cases h
 | (i,o)::_,.fr _ _::_,h=>by cases h
 | (i,o)::_,.junk::_,h=>by cases h
theorem zBu{f:Nat}{caps:List (Nat × Nat)}{v:V}{k:Option β}(h:aF f caps v k=some r):v=.fn f (caps.map (fun p=>.ptr p.1 p.2))∧k=some r:=by
 unfold aF at h; split at h
 ·split at h
  ·rename_i e
   simp only [Wh] at e
   rw [Wd e.1,zGn e.2]
   exact ⟨rfl,h⟩
  ·cases h
 ·cases h
theorem zk5{cs:List V}{off:Nat}{k:V→Option β}(h:zdn cs off k=some r):∃ v,cs[off]?=some v∧k v=some r:=by
 unfold zdn at h; split at h
 ·exact ⟨_,‹_›,h⟩
 ·cases h
theorem zTA{es:Ls}{j:Int}{k:List V→Option β}(h:idx es j k=some r):0≤j∧∃ c,es[j.toNat]?=some c∧k c=some r:=by
 unfold idx at h; simp only [zfl] at h; split at h
 ·split at h
  ·exact ⟨‹_›,_,‹_›,h⟩
  ·cases h
 ·cases h
theorem zUJ{n:Nat}{a b:List V}{k:Bool→Option β}(h:eqC n a b k=some r):(a.length=n∧b.length=n)∧∃ t,ze0 a b=some t∧k t=some r:=by
 unfold eqC at h; simp only [zfl] at h; split at h
 ·split at h
  ·exact ⟨‹_›,_,‹_›,h⟩
  ·cases h
 ·cases h
theorem zRF{es:Ls}{k:ByteArray→Option β}(h:zIx es k=some r):∃ l,zfZ es=some l∧k ⟨l.toArray⟩=some r:=by
 unfold zIx at h; split at h
 ·exact ⟨_,‹_›,h⟩
 ·cases h
theorem zuX{cs:List V}{k:List V→Option β}(h:zb4 cs k=some r):∃ vs,cs.mapM V.plain=some vs∧k vs=some r:=by
 unfold zb4 at h; split at h
 ·exact ⟨_,‹_›,h⟩
 ·cases h
theorem zPL{cs:List V}{k:List V→Option β}(h:zNW cs k=some r):∃ vs,cs.mapM V.refd=some vs∧k vs=some r:=by
 unfold zNW at h
 split at h
 ·exact ⟨_,‹_›,h⟩
 ·cases h
theorem zdG{o:Option St}{κ:St→Option β}(h:zj5 o κ=some r):∃ σ,o=some σ∧κ σ=some r:=by
 unfold zj5 at h; split at h
 ·exact ⟨_,rfl,h⟩
 ·cases h
theorem zfR{b:List B}{v:V}{k:V→Option β}(h:zmC b v k=some r):∃ u,zbc b v=some u∧k u=some r:=by
 unfold zmC at h; split at h
 ·exact ⟨_,‹_›,h⟩
 ·cases h
theorem zM3{sz:Nat}{v:V}{k:Ls→Option β}(h:aGw sz v k=some r):∃ es,v=.gs sz es∧k es=some r:=by
 unfold aGw at h
 split at h
 ·obtain ⟨e,h2⟩:=zr h; subst e; exact ⟨_,rfl,h2⟩
 ·cases h
theorem zRG{s:Sh}{v:V}{k:V→Option β}(h:zSH s v k=some r):k v=some r:=by
 unfold zSH at h
 split at h
 ·obtain ⟨es,e,h'⟩:=zM3 h; subst e; exact h'
 ·exact h
theorem zHv{s:Sh}{v:V}{k:V→Option β}(h:asc s v k=some r):k v=some r:=by
 cases s with
 | any=>exact h
 | int kd=>obtain ⟨n,e,h'⟩:=zY h; subst e; exact h'
 | bool=>obtain ⟨n,e,h'⟩:=zAm h; subst e; exact h'
 | str=>obtain ⟨n,e,h'⟩:=zQ2 h; subst e; exact h'
 | sl sz=>obtain ⟨n,e,h'⟩:=zeO h; subst e; exact h'
 | gs sz=>obtain ⟨n,e,h'⟩:=zM3 h; subst e; exact h'
 | row l=>cases h
theorem zSZ{s:Sh}{v:V}{k:V→Option β}(h:zVK s v k=some r):k v.dem=some r:=by
 cases s with
 | any=>exact h
 | int kd=>obtain ⟨n,e,h'⟩:=zY h; subst e; exact h'
 | bool=>obtain ⟨n,e,h'⟩:=zAm h; subst e; exact h'
 | str=>obtain ⟨n,e,h'⟩:=zQ2 h; subst e; exact h'
 | sl sz=>obtain ⟨n,e,h⟩:=zNc h; rw [e]; exact h
 | gs sz=>obtain ⟨n,e,h⟩:=zNc h; rw [e]; exact h
 | row l=>cases h
theorem zFE:∀ {ss:List Sh} {i:Nat} {cs:List V} {k:List V→Option β},zK0 ss i cs k=some r→i+ss.length=cs.length→k (cs.drop i)=some r
 | [],i,cs,k,h,hl=>by
  rw [WK (by simp at hl; omega)]
  exact h
 | s::ss,i,cs,k,h,hl=>by
  obtain ⟨v,e,h⟩:=zk5 h
  have h:=zFE (zHv h) (by simp at hl; omega)
  obtain ⟨hi,rfl⟩:=Wi.1 e
  rw [List.drop_eq_getElem_cons hi]
  exact h
theorem zvs{s:Sh}{cs:List V}{k:List V→Option β}(h:zBT s cs k=some r):k cs=some r:=by
 cases s with
 | row ss=>
  obtain ⟨hl,h⟩:=zr h
  have:=zFE h (by omega)
  simpa using this
 | _=>exact h
theorem zt9{s:Sh}{cs:List V}{off:Nat}{k:V→Option β}(h:zFZ s cs off k=some r):∃ v,cs[off]?=some v∧k v=some r:=by
 obtain ⟨v,e,h⟩:=zk5 h; exact ⟨v,e,zHv h⟩
theorem zOt{s:Sh}{cs:List V}{off:Nat}{k:V→Option β}(h:zQl s cs off k=some r):∃ v,cs[off]?=some v∧k v.dem=some r:=by
 obtain ⟨v,e,h⟩:=zk5 h; exact ⟨v,e,zSZ h⟩
theorem zNB{v:Value}{k:Value→Option β}(h:ltV v k=some r):k v=some r:=by
 cases v <;> exact h
theorem zQ7{t:Bool}{a b:V}{k:V→Option β}(h:zO5 t a b k=some r):k (if t then a else b)=some r:=by
 unfold zO5 at h; simp only [zfl] at h
 split at h
 ·cases t <;> exact h
 ·split at h
  ·rename_i e; subst e; cases t <;> exact h
  ·cases h
 ·rcases zjj h with ⟨rfl,h⟩ | ⟨rfl,h⟩ <;> exact h
theorem zAO{σ:St}:∀ {ps:List (Nat × Nat × Src)} {cs:List V} {k:List V→Option β},zGM σ ps cs k=some r→∃ cs',zcA σ ps cs=some cs'∧k cs'=some r
 | [],cs,k,h=>⟨cs,rfl,h⟩
 | (off,n,x)::ps,cs,k,h=>by
  unfold zGM at h
  split at h
  ·rename_i v hv
   obtain ⟨hc,h⟩:=zr h
   obtain ⟨cs',e,h⟩:=zAO h
   refine ⟨cs',?_,h⟩
   simp only [zcA,hv,Wb,QT,hc,and_self,if_true]
   exact e
  ·cases h
theorem zyd{sh:Nat→Sh}{σ:St}:∀ {ps:List (Nat × Nat × Src)} {cs:List V} {k:List V→Option β},zA3 sh σ ps cs k=some r→∃ cs',zff σ ps cs=some cs'∧k cs'=some r
 | [],cs,k,h=>⟨cs,rfl,h⟩
 | (off,n,x)::ps,cs,k,h=>by
  unfold zA3 at h
  split at h
  ·rename_i us hx
   have h:=zvs h
   obtain ⟨hc,h⟩:=zr h
   obtain ⟨cs',e,h⟩:=zyd h
   refine ⟨cs',?_,h⟩
   simp only [zff,hx,V.refd,V.plain,V.cells,Wb,QT,hc,and_self,if_true]
   exact e
  ·split at h
   ·rename_i v hv
    obtain ⟨hc,h⟩:=zr h
    obtain ⟨cs',e,h⟩:=zyd h
    refine ⟨cs',?_,h⟩
    simp only [zff,hv,Wb,QT,hc,and_self,if_true]
    exact e
   ·cases h
theorem zR4{op:BinOp}{x y:Value}{k:Value→Option β}(h:zSW op x y k=some r):∃ z,zr5 op x y=some z∧k z=some r:=by
 unfold zSW at h
 split at h
 ·obtain ⟨hc,h⟩:=zr h
  exact ⟨_,by simp only [zr5]; rw [if_neg (by omega)],h⟩
 ·obtain ⟨hc,h⟩:=zr h
  exact ⟨_,by simp only [zr5]; rw [if_neg (by omega)],h⟩
 ·obtain ⟨e,h2⟩:=zr h
  clear h
  subst e
  obtain ⟨hc,h⟩:=zr h2
  exact ⟨_,by simp [zr5,hc],h⟩
 ·obtain ⟨e,h2⟩:=zr h
  clear h
  subst e
  obtain ⟨hc,h⟩:=zr h2
  exact ⟨_,by simp [zr5,hc],h⟩
 ·split at h
  ·exact ⟨_,‹_›,h⟩
  ·cases h
theorem zyb{σ:St}{x:Option Src}{dflt most:Nat}{k:Nat→Option β}(h:zzy σ x dflt most k=some r):∃ n,znP σ x dflt most=some n∧k n=some r:=by
 unfold zzy at h
 split at h
 ·exact ⟨_,rfl,h⟩
 ·obtain ⟨kd,n,e,h⟩:=zkf h
  obtain ⟨hc,h⟩:=zr h
  exact ⟨_,by simp [znP,e,V.int?,hc],h⟩
theorem zl1{σ:St}{len:Nat}{lo hi mx:Option Src}{k:Nat→Nat→Nat→Option β}(h:zst σ len lo hi mx k=some r):∃ l hh m,zhR σ len lo hi mx=some (l,hh,m)∧k l hh m=some r:=by
 obtain ⟨m,e1,h⟩:=zyb h
 obtain ⟨hh,e2,h⟩:=zyb h
 obtain ⟨l,e3,h⟩:=zyb h
 exact ⟨l,hh,m,by simp [zhR,e1,e2,e3],h⟩
end
def zms(c:CBC)(cb:CB):Prop:=∀ (β:Type) (f:Nat) (args:List V) (bor:Bor) (k:V→Bor→Option β) (r:β),c β f args bor k=some r→∃ v b,cb f args bor=some (v,b)∧k v b=some r
section
variable {β:Type} {r:β} {c:CBC} {cb:CB} {sh:Nat→Sh} {nb L:Nat}
theorem zLg{σ:St}{dst:Option Nat}{pin:Bool}{v:V}{κ:St→Option β}(h:zKh nb σ dst pin v κ=some r):∃ σ',σ.putR nb dst pin v=some σ'∧κ σ'=some r:=by
 cases v with
 | fr sz es=>
  cases pin with
  | true=>
   simp only [zKh] at h
   obtain ⟨σ',e,h⟩:=zdG h
   exact ⟨σ',by simp only [St.putR]; exact e,h⟩
  | false=>exact ⟨_,by simp only [St.putR,St.putG,WP,if_false],h⟩
 | _=>exact zdG h
theorem zOS(b:List B)(id:Nat)(κ:List B→Option β):zHi b id κ=κ (yX b id):=by
 unfold zHi yX
 split
 ·rename_i cs h
  cases cs with
  | nil=>simp [ifb,h]
  | cons c cs=>simp [ifb,h]
 ·rename_i h
  split
  ·rename_i c cs h2; exact absurd h2 (h _)
  ·rfl
theorem zrZ(σ:St):∀ (srcs:List (Src × Nat)) (b:List B) (κ:List B→Option β),zsu σ srcs b κ=κ (xo σ srcs b)
 | [],b,κ=>rfl
 | s::rest,b,κ=>by
  unfold zsu xo
  by_cases h:2≤s.2
  ·rw [if_pos h]; simp only [h,decide_true]; exact zrZ σ rest b κ
  ·rw [if_neg h]; simp only [h,decide_false]
   cases zam (s.1.get σ) with
   | none=>exact zrZ σ rest b κ
   | some id=>simp only [zOS]; exact zrZ σ rest _ κ
theorem zI8{b:List B}{i:Nat}{x:B}(hb:b[i]?=some x):b.set i x=b:=by
 apply Xd
 intro k
 rw [Xa]
 split
 ·rename_i hi; subst hi
  rw [hb,if_pos (Wi.1 hb).1]
 ·rfl
theorem ziW(nb:Nat){r:β}:∀ (fz:List Nat) (σ:St) (κ:St→Option β),zhN nb fz σ κ=some r→κ (zmA nb fz σ)=some r
 | [],σ,κ,h=>h
 | d::fz,σ,κ,h=>by
  unfold zhN at h
  unfold zmA
  cases hd:Nat.blt d 100000 with
  | true=>
   rw [hd] at h
   simp only at h ⊢
   split at h
   ·rename_i cs hb
    cases cs with
    | nil=>
     have e:yX σ.b (nb+d)=σ.b:=by unfold yX; rw [hb]
     have h:zhN nb fz { σ with b:=σ.b.set (nb+d) (.live true []) } κ=some r:=h
     rw [zI8 hb] at h
     rw [e]; exact ziW nb fz _ κ h
    | cons c cs=>
     have e:yX σ.b (nb+d)=σ.b.set (nb+d) (.fz (c::cs)):=by unfold yX; rw [hb]
     have h:zhN nb fz { σ with b:=σ.b.set (nb+d) (.fz (c::cs)) } κ=some r:=h
     rw [e]; exact ziW nb fz _ κ h
   ·rename_i hb
    have e:yX σ.b (nb+d)=σ.b:=by
     unfold yX
     split
     ·rename_i c cs h2; exact absurd h2 (hb _)
     ·rfl
    rw [e]; exact ziW nb fz _ κ h
  | false=>
   rw [hd] at h
   simp only at h ⊢
   split at h
   ·rename_i cs hb
    cases cs with
    | nil=>
     have e:zcj σ.b (nb+(d-100000))=σ.b:=by unfold zcj; rw [hb]
     have h:zhN nb fz { σ with b:=σ.b.set (nb+(d-100000)) (.live false []) } κ=some r:=h
     rw [zI8 hb] at h
     rw [e]; exact ziW nb fz _ κ h
    | cons c cs=>
     have h:zb4 (c::cs) (fun vs=>zhN nb fz { σ with b:=σ.b.set (nb+(d-100000)) (.fz vs) } κ)=some r:=h
     unfold zb4 at h
     split at h
     ·rename_i vs hvs
      have e:zcj σ.b (nb+(d-100000))=σ.b.set (nb+(d-100000)) (.fz vs):=by unfold zcj; rw [hb]; simp only [hvs]
      rw [e]; exact ziW nb fz _ κ h
     ·cases h
   ·rename_i vs hb
    have e:zcj σ.b (nb+(d-100000))=σ.b:=by unfold zcj; rw [hb]
    rw [e]; exact ziW nb fz _ κ h
   ·cases h
theorem zP5{b:List B}{v:V}{k:V→Option β}{r:β}(h:zOs b v k=some r):∃ u,zo4 b v=some u∧k u=some r:=by
 unfold zOs at h
 split at h
 ·rename_i id off len sz
  split at h
  ·rename_i cs hb; exact ⟨_,by simp only [zo4,hb],h⟩
  ·rename_i hb
   obtain ⟨h0,h⟩:=zr h
   exact ⟨_,by simp only [zo4,hb]; rw [if_pos h0],h⟩
  ·cases h
 ·rename_i hn
  split at h
  ·rename_i u hu
   refine ⟨u,?_,h⟩
   cases v <;> first | exact hu | exact absurd rfl (hn _ _ _ _)
  ·cases h
theorem zJf{b:List B}{r:β}:∀ {vs:List V} {k:List V→Option β},zOm b vs k=some r→∃ us,vs.mapM (zo4 b)=some us∧k us=some r
 | [],k,h=>⟨[],rfl,h⟩
 | v::vs,k,h=>by
  obtain ⟨u,e,h⟩:=zP5 h
  obtain ⟨us,e2,h⟩:=zJf h
  exact ⟨u::us,by simp [List.mapM_cons,e,e2],h⟩
theorem zFp(hc:zms c cb){σ:St}{dst:Option Nat}{pin:Bool}{f:Nat}{args:List V}{srcs:List (Src × Nat)}{xs:List Nat}{κ:St→Option β}(h:zBK c nb σ dst pin f args srcs xs κ=some r):∃ σ',zd7 cb nb σ dst pin f args srcs xs=some σ'∧κ σ'=some r:=by
 unfold zBK at h
 rw [zrZ] at h
 simp only at h
 split at h
 ·cases h
 ·rename_i bor hb
  obtain ⟨v,b,e,h⟩:=hc _ _ _ _ _ _ h
  obtain ⟨hl,h⟩:=zr h
  split at h
  ·rename_i ht
   obtain ⟨σ',e2,h⟩:=zLg h
   refine ⟨σ',?_,h⟩
   simp only [Wh,decide_eq_true_eq] at ht
   obtain ⟨t1,t2,t3,t4,t5,t6,t7,t8⟩:=ht
   unfold zd7
   simp only [hb,Wb,QT,e]
   rw [if_pos ⟨hl,t1,t2,t3,t4,t5,t6,t7,t8⟩]
   exact e2
  ·cases h
theorem zT6{σ:St}{dst:Option Nat}{pin:Bool}{k:K}{κ:St→Option β}(hk:yd (fun _ _ _=>none) nb σ dst pin k=yd cb nb σ dst pin k)(h:zj5 (yd (fun _ _ _=>none) nb σ dst pin k) κ=some r):∃ σ',yd cb nb σ dst pin k=some σ'∧κ σ'=some r:=by
 obtain ⟨σ',e,h⟩:=zdG h
 exact ⟨σ',by rw [← hk]; exact e,h⟩
theorem St.set_same{σ:St}{j:Nat}{v:V}(h:σ.t[j]?=some v):({ σ with t:=σ.t.set j v }:St)=σ:=by
 have:σ.t.set j v=σ.t:=by
  apply Xd
  intro i
  rw [Xa]
  split
  ·rename_i e; subst e
   split
   ·exact h.symm
   ·rename_i hlt
    rw [List.getElem?_eq_none (by omega)]
  ·rfl
 rw [this]
theorem zEY(hc:zms c cb){σ:St}{dst:Option Nat}{pin:Bool}{k:K}{κ:St→Option β}(h:za0 sh c nb σ dst pin k κ=some r):∃ σ',yd cb nb σ dst pin k=some σ'∧κ σ'=some r:=by
 cases k with
 | pick c a b=>
  obtain ⟨t,e,h⟩:=zAm h
  exact ⟨_,by simp only [yd,xj,e,V.bool?]; rfl,by have:=zQ7 h; cases t <;> exact this⟩
 | build zero parts=>
  obtain ⟨cs,e,h⟩:=zAO h
  exact ⟨_,by simp only [yd,xj,e]; rfl,h⟩
 | buildSt zero parts=>
  obtain ⟨cs,e,h⟩:=zyd h
  exact ⟨_,by simp only [yd,xj,e]; rfl,h⟩
 | box p x=>
  simp only [za0] at h
  split at h
  ·rename_i cs hx
   cases p with
   | true=>cases h
   | false=>
    obtain ⟨σ',e,h⟩:=zdG h
    exact ⟨σ',by simp only [yd,hx,WP,if_false]; exact e,h⟩
  ·rename_i hx
   split at h
   ·rename_i v hv
    have hk:∀ p,yd cb nb σ dst pin (.box p x)=σ.newB nb dst (.live p v.cells) (fun id=>.ptr id 0):=by
     intro p
     cases hxx:x.get σ with
     | st cs=>exact absurd hxx (hx cs)
     | _=>rw [hxx] at hv; simp only [yd,hxx,hv]
    cases p with
    | true=>
     obtain ⟨σ',e,h⟩:=zdG h
     exact ⟨σ',by rw [hk]; exact e,h⟩
    | false=>
     obtain ⟨σ',e,h⟩:=zdG (zvs h)
     exact ⟨σ',by rw [hk]; exact e,h⟩
   ·cases h
 | nilT neg x=>
  simp only [za0] at h
  split at h
  ·rename_i sz es hx
   split at h
   ·rename_i t
    rcases zjj h with ⟨hq,h⟩ | ⟨hq,h⟩
    ·have he:es=[]:=by simpa using hq
     subst he
     have hget:∃ v,σ.t[t]?=some v∧Src.get σ (.tmp t)=v∧zTe v=v:=by
      simp only [Src.get,List.getD_eq_getElem?_getD] at hx ⊢
      cases ht:σ.t[t]? with
      | none=>rw [ht] at hx; simp [V.dem] at hx
      | some v=>
       rw [ht] at hx
       refine ⟨v,rfl,rfl,?_⟩
       have hx:v.dem=.sl sz []:=hx
       match v,hx with
       | .gs a es,hx=>
        have:es=[]:=by simp [V.dem] at hx; exact hx.2
        rw [this]; rfl
       | .sl a es,hx=>
        have:es=[]:=by simp [V.dem] at hx; exact hx.2
        rw [this]; rfl
       | .tup [],hx=>rfl
       | .tup (_::_),hx=>rfl
       | .sc _,hx=>rfl
       | .agg _,hx=>rfl
       | .own _ _ _ _,hx=>rfl
       | .ptr _ _,hx=>rfl
       | .fp _ _,hx=>rfl
       | .fn _ _,hx=>rfl
       | .bx _ _,hx=>rfl
       | .fr _ _,hx=>rfl
       | .ub,hx=>rfl
       | .junk,hx=>rfl
     obtain ⟨v,g1,g2,g3⟩:=hget
     simp only [lt] at h
     rw [g2,g3,St.set_same g1] at h
     exact ⟨_,by simp only [yd,xj,hx]; rfl,h⟩
    ·exact ⟨_,by simp only [yd,xj,hx,hq]; rfl,h⟩
   ·cases h
  ·cases h
 | un op x=>
  simp only [za0] at h
  split at h
  ·rename_i a ha
   split at h
   ·rename_i z hz
    exact ⟨_,by simp only [yd,xj,ha,hz]; rfl,zNB h⟩
   ·cases h
  ·cases h
 | conv k x=>
  obtain ⟨kd,n,e,h⟩:=zkf h
  exact ⟨_,by simp only [yd,xj,e,V.int?]; rfl,h⟩
 | adc s x y c=>
  simp only [za0] at h
  split at h
  ·rename_i a b d ha hb hd
   obtain ⟨h0,h⟩:=zr h
   exact ⟨_,by simp only [yd,xj,ha,hb,hd,if_pos h0]; rfl,h⟩
  ·cases h
 | mm isMax x y=>
  simp only [za0] at h
  split at h
  ·rename_i k a k' b ha hb
   exact ⟨_,by simp only [yd,xj,ha,hb]; rfl,h⟩
  ·cases h
 | copy sz d s=>
  simp only [za0] at h
  split at h
  ·rename_i id off len sz1 hd
   obtain ⟨u,e,h⟩:=zfR h
   split at h
   ·rename_i sz2 es
    split at h
    ·rename_i cs hb
     obtain ⟨hc,h⟩:=zr h
     exact ⟨_,by simp only [yd,hd,e,hb]; rw [if_pos hc],h⟩
    ·cases h
   ·cases h
  ·cases h
 | buildSlice sz n zero parts=>
  obtain ⟨cs,e,h⟩:=zAO h
  split at h
  ·rename_i hc
   exact ⟨_,by simp only [yd,e,Wb,QT]; rw [if_pos (of_decide_eq_true hc)],h⟩
  ·rename_i hc
   obtain ⟨σ',e2,h⟩:=zdG h
   exact ⟨σ',by simp only [yd,e,Wb,QT]; rw [if_neg (of_decide_eq_false hc)]; exact e2,h⟩
 | bin op x y=>
  simp only [za0] at h
  split at h
  ·rename_i a b ha hb
   obtain ⟨z,e,h⟩:=zR4 h
   exact ⟨_,by simp only [yd,xj,ha,hb,e]; rfl,zNB h⟩
  ·cases h
 | eqAgg neg n x y=>
  simp only [za0] at h
  split at h
  ·rename_i a b ha hb
   obtain ⟨hl,t,e,h⟩:=zUJ h
   exact ⟨_,by simp only [yd,xj,ha,hb,hl,and_self,if_true,e]; rfl,h⟩
  ·cases h
 | toStr x=>
  obtain ⟨u,e,h⟩:=zfR h
  split at h
  ·obtain ⟨l,e2,h⟩:=zRF h
   exact ⟨_,by simp only [yd,xj,e,e2]; rfl,h⟩
  ·cases h
 | see x=>
  simp only [za0] at h
  split at h
  ·rename_i id off len sz hx
   split at h
   ·rename_i cs hb; exact ⟨_,by simp only [yd,xj,hx,hb]; rfl,h⟩
   ·rename_i hb
    obtain ⟨h0,h⟩:=zr h
    exact ⟨_,by simp only [yd,xj,hx,hb,h0,if_true]; rfl,h⟩
   ·cases h
  ·cases h
 | cmpB x y=>
  obtain ⟨u,e,h⟩:=zfR h
  obtain ⟨v,e',h⟩:=zfR h
  split at h
  ·unfold zU7 at h
   split at h
   ·rename_i a ha
    split at h
    ·rename_i b hb
     exact ⟨_,by simp only [yd,xj,e,e',ha,hb]; rfl,h⟩
    ·cases h
   ·cases h
  ·cases h
 | makeSlice sz bytes zero l c=>
  obtain ⟨k1,l',e1,h⟩:=zkf h
  obtain ⟨k2,c',e2,h⟩:=zkf h
  cases pin with
  | true=>
   obtain ⟨hc,h⟩:=zr h
   obtain ⟨σ',e3,h⟩:=zdG h
   exact ⟨σ',by simp only [yd,e1,e2,V.int?]; rw [if_pos hc,if_pos trivial]; exact e3,h⟩
  | false=>
   obtain ⟨hc,h⟩:=zr h
   obtain ⟨σ',e3,h⟩:=zdG h
   exact ⟨σ',by simp only [yd,e1,e2,V.int?]; rw [if_pos hc]; simpa using e3,h⟩
 | sliceA n sz x lo hi mx=>
  obtain ⟨l,hh,m,e,h⟩:=zl1 h
  split at h
  ·rename_i id off hx
   split at h
   ·rename_i p cs hb
    obtain ⟨hl,h⟩:=zr h
    refine ⟨_,by simp only [yd,xj,e,Wb,QT,hx,hb,hl,if_true,QN]; rfl,?_⟩
    rcases zjj h with ⟨q,h⟩ | ⟨q,h⟩
    ·rw [if_pos (by simpa using q)]; exact h
    ·rw [if_neg (by simpa using q)]; exact h
   ·rename_i cs hb
    obtain ⟨hl,h⟩:=zr h
    refine ⟨_,by simp only [yd,xj,e,Wb,QT,hx,hb,hl,if_true,QN]; rfl,?_⟩
    rcases zjj h with ⟨q,h⟩ | ⟨q,h⟩
    ·rw [if_pos (by simpa using q)]; exact h
    ·rw [if_neg (by simpa using q)]; exact h
   ·cases h
  ·rename_i q cs hx
   obtain ⟨hl,h⟩:=zr h
   exact ⟨_,by simp only [yd,xj,e,Wb,QT,hx,hl,if_true,QN],h⟩
  ·cases h
 | sliceS sz x lo hi mx=>
  simp only [za0] at h
  split at h
  ·rename_i sz' es hx
   obtain ⟨l,hh,m,e,h⟩:=zl1 h
   obtain ⟨hs,h⟩:=zr h
   cases mx with
   | none=>exact ⟨σ.put dst (.sl sz ((es.drop l).take (hh-l))),by simp [yd,xj,e,hx,hs],h⟩
   | some s=>
    refine ⟨_,by simp only [yd,xj,e,hx,hs,Wb,QT,if_true,QN]; rfl,?_⟩
    rcases zjj h with ⟨q,h⟩ | ⟨q,h⟩
    ·rw [if_pos ⟨by simp,by simpa using q⟩]; rw [← hs]; exact h
    ·rw [if_neg (by simpa using q)]; rw [← hs]; exact h
  ·rename_i id off len sz' hx
   obtain ⟨l,hh,m,e,h⟩:=zl1 h
   obtain ⟨hs,h2⟩:=zr h
   subst hs
   cases mx with
   | none=>exact ⟨_,by simp only [yd,xj,e,hx,Wb,QT,if_true,QN,XH,WP,if_false],h2⟩
   | some s=>
    refine ⟨_,by simp only [yd,xj,e,hx,Wb,QT,if_true,QN,XA]; rfl,?_⟩
    rcases zjj h2 with ⟨q,h⟩ | ⟨q,h⟩
    ·rw [if_pos (by simpa using q)]; exact h
    ·rw [if_neg (by simpa using q)]; exact h
  ·rename_i id off len cap sz' hx
   cases hi with
   | none=>cases h
   | some s0=>
    cases mx with
    | some _=>cases h
    | none=>
     obtain ⟨l,hh,m,e,h⟩:=zl1 h
     obtain ⟨hs,h2⟩:=zr h
     subst hs
     exact ⟨_,by simp only [yd,xj,e,hx,Wb,QT,if_true,QN,XA,Option.isNone_none,and_self],h2⟩
  ·cases h
 | sliceC sz x hi=>
  simp only [za0] at h
  split at h
  ·rename_i id off len sz' hx
   cases hi with
   | none=>cases h
   | some s0=>
    obtain ⟨l,hh,m,e,h⟩:=zl1 h
    obtain ⟨hs,h2⟩:=zr h
    subst hs
    exact ⟨_,by simp only [yd,xj,e,hx,Wb,QT,if_true,QN,XA,and_self],h2⟩
  ·cases h
 | field agg o n x=>
  simp only [za0] at h
  split at h
  ·rename_i cs hx
   cases agg with
   | true=>exact ⟨_,by simp [yd,xj,hx],h⟩
   | false=>
    obtain ⟨v,e,h⟩:=zt9 h
    exact ⟨_,by simp [yd,xj,hx,e],h⟩
  ·rename_i cs hx
   cases agg with
   | true=>cases h
   | false=>
    simp only at h
    split at h
    ·rename_i v e
     exact ⟨_,by simp [yd,xj,hx,e],h⟩
    ·cases h
  ·cases h
 | indexAddrA len sz x i=>
  obtain ⟨k1,j,e1,h⟩:=zkf h
  obtain ⟨hj,h⟩:=zr h
  split at h
  ·rename_i id off hx
   exact ⟨_,by simp [yd,xj,hx,e1,V.int?,hj],h⟩
  ·rename_i q cs hx
   obtain ⟨hl,h⟩:=zr h
   exact ⟨_,by simp [yd,xj,hx,e1,V.int?,hj,hl],h⟩
  ·cases h
 | indexAddrS sz x i=>
  obtain ⟨k1,j,e1,h⟩:=zkf h
  split at h
  ·rename_i sz' es hx
   obtain ⟨hs,h2⟩:=zr h
   obtain ⟨hj,cc,e,h3⟩:=zTA h2
   subst hs
   exact ⟨_,by simp [yd,xj,hx,e1,V.int?,hj,e],h3⟩
  ·rename_i id off len sz' hx
   obtain ⟨hs,h2⟩:=zr h
   obtain ⟨hj,h3⟩:=zr h2
   subst hs
   exact ⟨_,by simp [yd,xj,hx,e1,V.int?,hj],h3⟩
  ·cases h
 | arrP n sz x=>
  simp only [za0] at h
  split at h
  ·rename_i sz' es hx
   obtain ⟨hs,h2⟩:=zr h
   obtain ⟨hp,h3⟩:=zr h2
   obtain ⟨hl,h4⟩:=zr h3
   subst hs
   exact ⟨_,by simp [yd,xj,hx,hp,hl],h4⟩
  ·rename_i id off len sz' hx
   obtain ⟨hs,h2⟩:=zr h
   obtain ⟨hp,h3⟩:=zr h2
   obtain ⟨hl,h4⟩:=zr h3
   subst hs
   exact ⟨_,by simp [yd,xj,hx,hp,hl],h4⟩
  ·cases h
 | indexA agg len sz x i=>
  obtain ⟨k1,j,e1,h⟩:=zkf h
  obtain ⟨hj,h⟩:=zr h
  split at h
  ·rename_i cs hx
   cases agg with
   | true=>exact ⟨_,by simp [yd,xj,hx,e1,V.int?,hj],h⟩
   | false=>
    obtain ⟨v,e,h⟩:=zt9 h
    exact ⟨_,by simp [yd,xj,hx,e1,V.int?,hj,e],h⟩
  ·cases h
 | load agg n a take=>
  simp only [za0] at h
  split at h
  ·rename_i id off hx
   split at h
   ·rename_i p cs hb
    cases agg with
    | true=>
     obtain ⟨hl,h⟩:=zr h
     cases p with
     | true=>exact ⟨_,by simp [yd,hx,hb,hl],h⟩
     | false=>
      cases take with
      | true=>
       obtain ⟨vs,e,h⟩:=zPL h
       exact ⟨_,by simp [yd,hx,hb,hl,e],h⟩
      | false=>
       obtain ⟨vs,e,h⟩:=zuX h
       exact ⟨_,by simp [yd,hx,hb,hl,e],h⟩
    | false=>
     cases take with
     | true=>
      cases p with
      | true=>cases h
      | false=>
       obtain ⟨v,e,h⟩:=zk5 h
       exact ⟨_,by simp [yd,hx,hb,e],zRG h⟩
     | false=>
      obtain ⟨v,e,h⟩:=zOt h
      exact ⟨_,by simp [yd,hx,hb,e],h⟩
   ·rename_i cs hb
    cases agg with
    | true=>
     obtain ⟨hl,h⟩:=zr h
     exact ⟨_,by simp [yd,hx,hb,hl],h⟩
    | false=>
     obtain ⟨v,e,h⟩:=zt9 h
     exact ⟨_,by simp [yd,hx,hb,e],h⟩
   ·cases h
  ·rename_i q cs hx
   cases agg with
   | true=>
    obtain ⟨hl,h⟩:=zr h
    exact ⟨_,by simp [yd,hx,hl],h⟩
   | false=>
    obtain ⟨v,e,h⟩:=zt9 h
    exact ⟨_,by simp [yd,hx,e],h⟩
  ·cases h
 | store n a x=>
  cases dst with
  | some d=>cases h
  | none=>
  simp only [za0] at h
  split at h
  ·rename_i id off hx
   split at h
   ·rename_i cs hb
    split at h
    ·rename_i v hv
     obtain ⟨hl,h⟩:=zr h
     exact ⟨_,by simp [yd,hx,hb,hv,hl],h⟩
    ·cases h
   ·rename_i cs hb
    cases hxv:x.get σ <;> simp only [hxv] at h
    case agg us=>
     obtain ⟨hl,h⟩:=zr (zvs h)
     exact ⟨_,by simp [yd,hx,hb,hxv,hl],h⟩
    case st us=>
     obtain ⟨hl,h⟩:=zr h
     exact ⟨_,by simp [yd,hx,hb,hxv,hl],h⟩
    case tup=>cases h
    case bx=>cases h
    case junk=>cases h
    all_goals
     obtain ⟨hl,h⟩:=zr h
     exact ⟨_,by simp [yd,hx,hb,hxv,hl],h⟩
   ·cases h
  ·cases h
 | append sz bytes s x=>
  simp only [za0] at h
  split at h
  ·rename_i sz1 es hs
   obtain ⟨u,e,h⟩:=zfR h
   split at h
   ·rename_i sz2 es2
    obtain ⟨⟨h1,h2⟩,h⟩:=zr h
    obtain ⟨h3,h⟩:=zr h
    cases pin with
    | true=>
     simp only at h
     split at h
     ·obtain ⟨σ',e3,h⟩:=zdG h
      refine ⟨σ',?_,h⟩
      simp only [yd,hs,e]
      rw [if_pos ⟨h1,.inl h2,h3⟩]
      exact e3
     ·cases h
    | false=>
     refine ⟨_,?_,h⟩
     simp only [yd,hs,e]
     rw [if_pos ⟨h1,.inl h2,h3⟩]
     rfl
   ·cases h
  ·rename_i sz1 hs
   obtain ⟨u,e,h⟩:=zfR h
   split at h
   ·rename_i sz2 es2
    obtain ⟨⟨h1,h2⟩,h⟩:=zr h
    obtain ⟨h3,h⟩:=zr h
    obtain ⟨σ',e3,h⟩:=zdG h
    refine ⟨σ',?_,h⟩
    simp only [yd,hs,e]
    rw [if_pos ⟨h1,.inl h2,h3⟩]
    exact e3
   ·cases h
  ·rename_i id off len sz1 hs
   obtain ⟨u,e,h⟩:=zfR h
   split at h
   ·rename_i sz2 es2
    split at h
    ·rename_i cs hb
     obtain ⟨⟨h1,h2,h0⟩,h⟩:=zr h
     obtain ⟨h3,h⟩:=zr h
     obtain ⟨σ',e3,h⟩:=zdG h
     refine ⟨σ',?_,h⟩
     simp only [yd,hs,e,hb]
     rw [if_pos ⟨h1,.inl h2,h0,h3⟩]
     exact e3
    ·cases h
   ·cases h
  ·rename_i id off len cap sz1 hs
   obtain ⟨u,e,h⟩:=zfR h
   split at h
   ·rename_i sz2 es2
    split at h
    ·rename_i cs hb
     split at h
     ·obtain ⟨⟨h1,h2,h0⟩,h⟩:=zr h
      obtain ⟨h3,h⟩:=zr h
      refine ⟨_,?_,h⟩
      simp only [yd,hs,e,hb]
      rw [if_pos ⟨h1,.inl h2,h0,h3,trivial⟩]
     ·cases h
    ·cases h
   ·cases h
  ·cases h
 | appendF sz bytes s x=>
  cases pin with
  | true=>simp only [za0] at h; cases h
  | false=>
   simp only [za0] at h
   split at h
   ·rename_i sz1 hs
    obtain ⟨u,e,h⟩:=zfR h
    split at h
    ·rename_i sz2 es2
     obtain ⟨⟨h1,h2⟩,h⟩:=zr h
     obtain ⟨h3,h⟩:=zr h
     refine ⟨_,?_,h⟩
     simp only [yd,hs,zIe,e,WP,if_false]
     rw [if_pos ⟨h1,.inl h2,by simpa using h3.1,by simpa using h3.2.1,by simpa using h3.2.2⟩]
     rfl
    ·cases h
   ·rename_i sz1 es hs
    obtain ⟨u,e,h⟩:=zfR h
    split at h
    ·rename_i sz2 es2
     obtain ⟨⟨h1,h2⟩,h⟩:=zr h
     obtain ⟨h3,h⟩:=zr h
     refine ⟨_,?_,h⟩
     simp only [yd,hs,zIe,e,WP,if_false]
     rw [if_pos ⟨h1,.inl h2,h3⟩]
    ·cases h
   ·cases h
 | pinC p sz a=>
  simp only [za0] at h
  split at h
  ·rename_i id off hx
   split at h
   ·rename_i cs hb
    obtain ⟨v,hv,h⟩:=zk5 h
    split at h
    ·rename_i sz1 es
     split at h
     ·rename_i d
      obtain ⟨h1,h⟩:=zr h
      obtain ⟨σ',e,h⟩:=zdG h
      exact ⟨σ',by simp only [yd,hx,hb,hv]; rw [if_pos h1]; exact e,h⟩
     ·cases h
    ·cases h
   ·cases h
  ·cases h
 | storeF n a x xs=>
  cases dst with
  | some d=>cases h
  | none=>
  simp only [za0] at h
  split at h
  ·rename_i id off hx
   split at h
   ·rename_i cs hb
    split at h
    ·rename_i us hy
     obtain ⟨h0,h⟩:=zr h
     exact ⟨_,by simp only [yd,hx,hb,hy]; rw [if_neg (by simp),if_pos h0],h⟩
    ·cases h
   ·cases h
  ·cases h
 | loadS n a=>
  simp only [za0] at h
  split at h
  ·rename_i id off hx
   split at h
   ·rename_i cs hb
    obtain ⟨h0,h⟩:=zr h
    obtain ⟨us,e,h⟩:=zJf h
    exact ⟨_,by simp only [yd,hx,hb]; rw [if_pos h0]; simp only [e]; rfl,h⟩
   ·cases h
  ·cases h
 | pinS p sz x=>
  simp only [za0] at h
  split at h
  ·rename_i sz1 es hx
   split at h
   ·rename_i t d
    obtain ⟨h1,h⟩:=zr h
    obtain ⟨σ',e,h⟩:=zdG h
    exact ⟨σ',by simp only [yd,hx]; rw [if_pos h1]; exact e,h⟩
   ·cases h
  ·cases h
 | unpin x=>
  cases pin with
  | true=>simp only [za0] at h; cases h
  | false=>
   simp only [za0] at h
   split at h
   ·rename_i id off len sz hx
    split at h
    ·rename_i cs hb
     obtain ⟨h1,h2⟩:=zr h
     exact ⟨_,by simp only [yd,hx,hb]; rw [if_neg (by simp),if_pos h1],h2⟩
    ·cases h
   ·rename_i sz es hx
    exact ⟨_,by simp only [yd,hx]; rw [if_neg (by simp)],h⟩
   ·cases h
 | clear sz zero x=>
  simp only [za0] at h
  split at h
  ·rename_i id off len sz1 hx
   split at h
   ·rename_i cs hb
    obtain ⟨h1,h⟩:=zr h
    exact ⟨_,by simp only [yd,hx,hb,h1,if_true],h⟩
   ·cases h
  ·cases h
 | appendZ sz bytes zero s x=>
  simp only [za0] at h
  split at h
  ·rename_i sz1 es hs
   obtain ⟨kd,n,e,h⟩:=zkf h
   obtain ⟨h1,h⟩:=zr h
   obtain ⟨h2,h⟩:=zr h
   cases pin with
   | true=>cases h
   | false=>
    refine ⟨_,?_,h⟩
    simp only [yd,hs,e,V.int?]
    rw [if_pos ⟨h1,h2⟩]
    rfl
  ·cases h
 | extract x i=>
  simp only [za0] at h
  split at h
  ·rename_i vs hx
   split at h
   ·rename_i v t hvi
    split at h
    ·rename_i hall
     simp only [Wh,decide_eq_true_eq] at hall
     split at h
     ·rename_i hh
      obtain ⟨σ',e,h⟩:=zLg h
      refine ⟨σ',?_,h⟩
      simp only [yd,hx,hvi]
      rw [if_pos hall,if_pos hh]
      exact e
     ·rename_i hh
      split at h
      ·cases h
      ·rename_i hp
       refine ⟨_,?_,h⟩
       simp only [yd,hx,hvi]
       rw [if_pos hall,if_neg (by simp [hh]),if_neg (by simp [hp])]
    ·cases h
   ·cases h
  ·cases h
 | call f args xs=>
  simp only [za0] at h
  split at h
  ·rename_i vs e
   obtain ⟨σ',e2,h⟩:=zFp hc h
   exact ⟨σ',by simp only [yd,e]; exact e2,h⟩
  ·cases h
 | callv f args xs=>
  simp only [za0] at h
  split at h
  ·rename_i g caps hg
   split at h
   ·rename_i vs e
    obtain ⟨σ',e2,h⟩:=zFp hc h
    exact ⟨σ',by simp only [yd,hg,e]; exact e2,h⟩
   ·cases h
  ·cases h
 | mlook kd ok zero x y=>
  simp only [za0] at h
  split at h
  ·rename_i id hx
   split at h
   ·rename_i es hes
    unfold mAt at h
    split at h
    ·rename_i hko
     split at h
     ·rename_i q hq
      have h:=zHv h
      cases ok with
      | true=>exact ⟨_,by simp only [yd,hx,hes,hko,if_true,hq,Wb,QT,Wl],h⟩
      | false=>exact ⟨_,by simp only [yd,hx,hes,hko,if_true,hq,Wb,QT,Wl,WP,if_false],h⟩
     ·cases h
    ·cases h
   ·cases h
  ·cases h
 | mput kd x y z=>
  simp only [za0] at h
  split at h
  ·cases h
  ·split at h
   ·rename_i id hx
    split at h
    ·rename_i es hes
     split at h
     ·rename_i v hv
      unfold zVc at h
      split at h
      ·rename_i hko
       split at h
       ·rename_i q hq
        refine ⟨_,?_,h⟩
        simp only [yd,XH,WP,if_false,hx,hes,hko,if_true,hv,hq,Wb,QT,Wl]
       ·cases h
      ·cases h
     ·cases h
    ·cases h
   ·cases h
 | _=>exact zT6 rfl h
theorem zF8(hc:zms c cb){σ:St}{o:COp}{κ:St→St→Option β}(h:zBR sh c nb σ o κ=some r):∃ σ',xk cb nb σ o=some σ'∧κ σ σ'=some r:=by
 unfold zBR at h
 split at h
 ·rename_i hg
  obtain ⟨σ',e,h⟩:=zEY hc h
  exact ⟨σ',by simp only [xk,hg,zad]; exact e,h⟩
 ·rename_i j want hg
  split at h
  ·rename_i b hj
   cases want with
   | true=>
    rcases zjj h with ⟨rfl,h⟩ | ⟨rfl,h⟩
    ·simp only [lt] at h
     rw [St.set_same hj] at h
     obtain ⟨σ',e,h⟩:=zEY hc h
     exact ⟨σ',by simp only [xk,hg,zad,hj]; exact e,h⟩
    ·simp only [lt] at h
     rw [St.set_same hj] at h
     exact ⟨_,by simp only [xk,hg,zad,hj]; rfl,h⟩
   | false=>
    rcases zjj h with ⟨rfl,h⟩ | ⟨rfl,h⟩
    ·simp only [lt] at h
     rw [St.set_same hj] at h
     exact ⟨_,by simp only [xk,hg,zad,hj]; rfl,h⟩
    ·simp only [lt] at h
     rw [St.set_same hj] at h
     obtain ⟨σ',e,h⟩:=zEY hc h
     exact ⟨σ',by simp only [xk,hg,zad,hj]; exact e,h⟩
  ·rename_i hj
   exact ⟨_,by simp only [xk,hg,zad,hj],h⟩
  ·cases h
theorem zDF(hc:zms c cb):∀ {ops:List COp} {σ:St} {κ:St→Option β},zEq sh c nb ops σ κ=some r→∃ σ',zih cb nb ops σ=some σ'∧κ σ'=some r
 | [],σ,κ,h=>⟨σ,rfl,h⟩
 | o::ops,σ,κ,h=>by
  obtain ⟨σ1,e1,h⟩:=zF8 hc h
  obtain ⟨σ2,e2,h⟩:=zDF hc h
  exact ⟨σ2,by simp only [zih,e1,QT]; exact e2,h⟩
theorem zIM(hc:zms c cb):∀ {ops:List (COp × Fl)} {σ:St} {κ:St→Option β},zLY sh c nb ops σ κ=some r→∃ σ',zmx cb nb ops σ=some σ'∧κ σ'=some r
 | [],σ,κ,h=>⟨σ,rfl,h⟩
 | (o,q)::ops,σ,κ,h=>by
  obtain ⟨σ1,e1,h⟩:=zF8 hc h
  split at h
  ·rename_i hq
   obtain ⟨σ2,e2,h⟩:=zIM hc h
   exact ⟨σ2,by simp only [zmx,e1,hq,if_true]; exact e2,h⟩
  ·cases h
theorem zLL{body:St→KT β→Option β}{bodyN:St→Option (Ex × St)}{norm:St→St}(hb:∀ σ K,body σ K=some r→∃ ex σ',bodyN σ=some (ex,σ')∧K ex σ'=some r):∀ (n:Nat) (σ:St) (K:KT β),yx body norm n (norm σ) K=some r→∃ ex σ',znO bodyN norm n σ=some (ex,σ')∧K ex σ'=some r
 | 0,σ,K,h=>by cases h
 | n+1,σ,K,h=>by
  obtain ⟨ex,σ1,e,h⟩:=hb _ _ h
  cases ex with
  | normal=>
   obtain ⟨ex,σ2,e2,h⟩:=zLL hb n σ1 K h
   exact ⟨ex,σ2,by simp only [znO,e]; exact e2,h⟩
  | exit j=>exact ⟨_,_,by simp only [znO,e],h⟩
  | ret=>exact ⟨_,_,by simp only [znO,e],h⟩
theorem zSC{σ σ':St}{dst:Option Nat}{pin:Bool}{k:K}(h:yd (fun _ _ _=>none) nb σ dst pin k=some σ'):yd cb nb σ dst pin k=some σ':=by
 cases k with
 | call f args xs=>
  simp only [yd,zd7,Wb,Wa,Prod.exists] at h
  obtain ⟨_,_,_,_,_,_,h,_⟩:=h
  cases h
 | callv f args xs=>
  simp only [yd] at h
  split at h
  ·simp only [zd7,Wb,Wa,Prod.exists] at h
   obtain ⟨_,_,_,_,_,_,h,_⟩:=h
   cases h
  ·cases h
 | _=>exact h
theorem zJu{σ σ':St}{o:COp}(h:xk (fun _ _ _=>none) nb σ o=some σ'):xk cb nb σ o=some σ':=by
 unfold xk at h ⊢
 split at h
 ·exact zSC h
 ·exact h
 ·cases h
theorem zFI:∀ {ops:List COp} {σ σ':St},zih (fun _ _ _=>none) nb ops σ=some σ'→zih cb nb ops σ=some σ'
 | [],σ,σ',h=>h
 | o::ops,σ,σ',h=>by
  simp only [zih,Wa] at h ⊢
  obtain ⟨σ1,h1,h2⟩:=h
  exact ⟨σ1,zJu h1,zFI h2⟩
theorem zMk:∀ {ops:List (COp × Fl)} {σ σ':St},zmx (fun _ _ _=>none) nb ops σ=some σ'→zmx cb nb ops σ=some σ'
 | [],σ,σ',h=>h
 | (o,q)::ops,σ,σ',h=>by
  simp only [zmx] at h ⊢
  split at h
  ·rename_i σ1 h1
   rw [zJu h1]
   split at h
   ·rename_i hq
    simp only [hq,if_true]
    exact zMk h
   ·cases h
  ·cases h
theorem zGP:∀ (cc:CC) (σ:St) (r:Ex × St),run (fun _ _ _=>none) nb L cc σ=some r→run cb nb L cc σ=some r:=by
 intro cc
 induction cc with
 | skip=>intro σ r h; exact h
 | reg ops=>
  intro σ r h
  simp only [run,Wj] at h ⊢
  obtain ⟨σ1,h1,h2⟩:=h
  exact ⟨σ1,zFI h1,h2⟩
 | dreg fz ops=>
  intro σ r h
  simp only [run,Wj] at h ⊢
  obtain ⟨σ1,h1,h2⟩:=h
  exact ⟨σ1,zMk h1,h2⟩
 | seq a b iha ihb=>
  intro σ r h
  simp only [run] at h ⊢
  split at h
  ·rename_i σ1 h1
   rw [iha _ _ h1]
   exact ihb _ _ h
  ·rename_i hne
   obtain ⟨ex,σ1⟩:=r
   rw [iha _ _ h]
   cases ex with
   | normal=>exact absurd h (hne _)
   | exit j=>rfl
   | ret=>rfl
 | fork p s a b ihp iha ihb=>
  intro σ r h
  simp only [run] at h ⊢
  split at h
  ·rename_i σ1 h1
   rw [ihp _ _ h1]
   simp only
   split at h
   ·split at h
    ·rename_i hs
     obtain ⟨e,_⟩:=zD1 hs
     rw [iha _ _ (e.trans h),ihb _ _ h]
     rw [e,h] at hs
     simp only [hs,if_true]
    ·cases h
   ·split at h
    ·split at h
     ·rename_i σ2 h2
      rw [iha _ _ h2]
      exact ihb _ _ h
     ·rename_i hne
      obtain ⟨ex,σ2⟩:=r
      rw [iha _ _ h]
      cases ex with
      | normal=>exact absurd h (hne _)
      | exit j=>rfl
      | ret=>rfl
    ·exact ihb _ _ h
    ·cases h
  ·rename_i hne
   obtain ⟨ex,σ1⟩:=r
   rw [ihp _ _ h]
   cases ex with
   | normal=>exact absurd h (hne _)
   | exit j=>rfl
   | ret=>rfl
 | cond s a b iha ihb=>
  intro σ r h
  simp only [run] at h ⊢
  split at h
  ·split at h
   ·rename_i hs
    have e:=zxu hs
    rw [iha _ _ (e.trans h),ihb _ _ h]
    rw [e,h] at hs
    simp only [hs,if_true]
   ·cases h
  ·rename_i hne
   split at h
   ·rename_i t ht
    cases t with
    | true=>simp only [if_true] at h ⊢; exact iha _ _ h
    | false=>simp only [WP,if_false] at h ⊢; exact ihb _ _ h
   ·cases h
 | block id a ih=>
  intro σ r h
  simp only [run] at h ⊢
  cases ha:run (fun _ _ _=>none) nb L a σ with
  | none=>rw [ha] at h; cases h
  | some q=>rw [ha] at h; rw [ih _ _ ha]; exact h
 | loop kt kb a ih=>
  intro σ r h
  simp only [run] at h ⊢
  have key:∀ (n:Nat) (σ:St),znO (run (fun _ _ _=>none) nb L a) (zN nb kt kb) n σ=some r→znO (run cb nb L a) (zN nb kt kb) n σ=some r:=by
   intro n
   induction n with
   | zero=>intro σ h; cases h
   | succ n ihn=>
    intro σ h
    simp only [znO] at h ⊢
    cases ha:run (fun _ _ _=>none) nb L a (zN nb kt kb σ) with
    | none=>rw [ha] at h; cases h
    | some q=>
     obtain ⟨ex,σ1⟩:=q
     rw [ha] at h
     rw [ih _ _ ha]
     cases ex with
     | normal=>exact ihn _ h
     | exit j=>exact h
     | ret=>exact h
  exact key L σ h
 | mask kt kb=>intro σ r h; exact h
 | exit id=>intro σ r h; exact h
 | ret=>intro σ r h; exact h
theorem zUz(hc:zms c cb):∀ (cc:CC) (σ:St) (K:KT β),xf sh c nb L cc σ K=some r→∃ ex σ',run cb nb L cc σ=some (ex,σ')∧K ex σ'=some r:=by
 intro cc
 induction cc with
 | skip=>intro σ K h; exact ⟨_,_,rfl,h⟩
 | reg ops=>
  intro σ K h
  obtain ⟨σ',e,h⟩:=zDF hc h
  exact ⟨_,σ',by simp only [run,e]; rfl,h⟩
 | dreg fz ops=>
  intro σ K h
  obtain ⟨σ',e,h⟩:=zIM hc (ziW nb fz σ _ h)
  exact ⟨_,σ',by simp only [run,e]; rfl,h⟩
 | seq a b iha ihb=>
  intro σ K h
  obtain ⟨ex,σ1,e,h⟩:=iha _ _ h
  cases ex with
  | normal=>
   obtain ⟨ex,σ2,e2,h⟩:=ihb _ _ h
   exact ⟨ex,σ2,by simp only [run,e]; exact e2,h⟩
  | exit j=>exact ⟨_,_,by simp only [run,e],h⟩
  | ret=>exact ⟨_,_,by simp only [run,e],h⟩
 | fork p s a b ihp iha ihb=>
  intro σ K h
  obtain ⟨ex,σ1,e,h⟩:=ihp _ _ h
  cases ex with
  | exit j=>exact ⟨_,_,by simp only [run,e],h⟩
  | ret=>exact ⟨_,_,by simp only [run,e],h⟩
  | normal=>
   simp only [zy] at h
   split at h
   ·rename_i hub
    split at h
    ·rename_i hsame
     unfold onR at h
     split at h
     ·rename_i ex σ2 e1
      obtain ⟨e0,_⟩:=zD1 hsame
      have ra:=zGP (cb:=cb) _ _ _ (e0.trans e1)
      have rb:=zGP (cb:=cb) _ _ _ e1
      rw [e0,e1] at hsame
      refine ⟨ex,σ2,?_,h⟩
      simp only [run,e,hub,ra,rb,hsame,if_true]
     ·cases h
    ·cases h
   ·rename_i hne
    obtain ⟨t,et,h⟩:=zAm h
    rcases zjj h with ⟨rfl,h⟩ | ⟨rfl,h⟩
    ·obtain ⟨ex,σ2,e1,h⟩:=iha _ _ h
     cases ex with
     | normal=>
      obtain ⟨ex,σ3,e2,h⟩:=ihb _ _ h
      exact ⟨ex,σ3,by simp only [run,e,et,V.bool?,e1]; exact e2,h⟩
     | exit j=>exact ⟨_,_,by simp only [run,e,et,V.bool?,e1],h⟩
     | ret=>exact ⟨_,_,by simp only [run,e,et,V.bool?,e1],h⟩
    ·obtain ⟨ex,σ2,e1,h⟩:=ihb _ _ h
     exact ⟨ex,σ2,by simp only [run,e,et,V.bool?]; exact e1,h⟩
 | cond s a b iha ihb=>
  intro σ K h
  simp only [xf] at h
  split at h
  ·rename_i hub
   split at h
   ·rename_i hsame
    unfold onR at h
    split at h
    ·rename_i ex σ1 e1
     have e0:=zxu hsame
     have ra:=zGP (cb:=cb) _ _ _ (e0.trans e1)
     have rb:=zGP (cb:=cb) _ _ _ e1
     rw [e0,e1] at hsame
     refine ⟨ex,σ1,?_,h⟩
     simp only [run,hub,ra,rb,hsame,if_true]
    ·cases h
   ·cases h
  ·rename_i hne
   obtain ⟨t,e,h⟩:=zAm h
   rcases zjj h with ⟨rfl,h⟩ | ⟨rfl,h⟩
   ·obtain ⟨ex,σ1,e1,h⟩:=iha _ _ h
    exact ⟨ex,σ1,by simp only [run,e,V.bool?,if_true]; exact e1,h⟩
   ·obtain ⟨ex,σ1,e1,h⟩:=ihb _ _ h
    exact ⟨ex,σ1,by simp only [run,e,V.bool?,WP,if_false]; exact e1,h⟩
 | block id a ih=>
  intro σ K h
  obtain ⟨ex,σ1,e,h⟩:=ih _ _ h
  cases ex with
  | normal=>exact ⟨_,_,by simp only [run,e],h⟩
  | exit j=>
   simp only [zl] at h
   split at h
   ·rename_i hj
    have hj:=Wd hj
    exact ⟨_,_,by simp only [run,e,hj,if_true],h⟩
   ·rename_i hj
    have:j≠id:=Nat.ne_of_beq_eq_false hj
    exact ⟨_,_,by simp only [run,e,this,if_false],h⟩
  | ret=>exact ⟨_,_,by simp only [run,e],h⟩
 | loop kt kb a ih=>
  intro σ K h
  obtain ⟨ex,σ',e,h⟩:=zLL ih L σ K h
  exact ⟨ex,σ',by simp only [run]; exact e,h⟩
 | mask kt kb=>intro σ K h; exact ⟨_,_,rfl,h⟩
 | exit id=>intro σ K h; exact ⟨_,_,rfl,h⟩
 | ret=>intro σ K h; exact ⟨_,_,rfl,h⟩
theorem zG3{σ:St}{rv:RV}{k:V→Option β}(h:zsw nb σ rv k=some r):∃ v,zaT nb σ rv=some v∧k v=some r:=by
 cases rv with
 | cellS t n p=>cases h
 | tmp t=>
  simp only [zsw] at h
  split at h
  ·rename_i id off len sz ht
   split at h
   ·rename_i hge
    have hge:=of_decide_eq_true hge
    split at h
    ·rename_i cs hb
     split at h
     ·rename_i hd
      have hd:=of_decide_eq_true hd
      obtain ⟨hl,h⟩:=zr h
      exact ⟨_,by simp only [zaT,ht]; rw [if_pos hge,if_pos hd]; simp only [hb]; rw [if_pos hl],h⟩
     ·cases h
    ·cases h
   ·rename_i hge
    have hge:=of_decide_eq_false hge
    exact ⟨_,by simp only [zaT,ht]; rw [if_neg hge],h⟩
  ·rename_i id off ht
   split at h
   ·rename_i p cs hb
    split at h
    ·rename_i hd
     have hd:=of_decide_eq_true hd
     obtain ⟨hl,h⟩:=zr h
     cases p with
     | true=>exact ⟨_,by simp only [zaT,ht]; rw [if_pos hd]; simp only [hb]; rw [if_pos hl]; rfl,h⟩
     | false=>
      obtain ⟨vs,e,h⟩:=zuX h
      exact ⟨_,by simp only [zaT,ht]; rw [if_pos hd]; simp only [hb]; rw [if_pos hl]; simp only [WP,if_false,e,QN],h⟩
    ·cases h
   ·cases h
  ·split at h
   ·exact ⟨_,‹_›,h⟩
   ·cases h
 | tmpP t=>
  simp only [zsw] at h
  split at h
  ·rename_i id off len sz ht
   split at h
   ·rename_i hge
    have hge:=of_decide_eq_true hge
    split at h
    ·rename_i cs hb
     exact ⟨_,by simp only [zaT,ht]; rw [if_pos hge]; simp only [hb],h⟩
    ·cases h
   ·cases h
  ·split at h
   ·exact ⟨_,‹_›,h⟩
   ·cases h
 | cell t agg n=>
  simp only [zsw] at h
  split at h
  ·rename_i id off ht
   split at h
   ·rename_i p cs hb
    cases agg with
    | true=>
     obtain ⟨hl,h⟩:=zr h
     cases p with
     | true=>exact ⟨_,by simp only [zaT,ht,hb,if_true]; rw [if_pos hl],h⟩
     | false=>
      obtain ⟨vs,e,h⟩:=zuX h
      exact ⟨_,by simp only [zaT,ht,hb,if_true]; rw [if_pos hl]; simp only [WP,if_false,e,QN],h⟩
    | false=>
     simp only at h
     split at h
     ·rename_i hd
      have hd:=of_decide_eq_true hd
      obtain ⟨v,e,h⟩:=zk5 h
      split at h
      ·rename_i v' hv
       exact ⟨_,by simp only [zaT,ht,hb,WP,if_false,hd,and_self,if_true,e,QT]; exact hv,h⟩
      ·cases h
     ·cases h
   ·cases h
  ·cases h
theorem zDk{σ:St}:∀ {rs:List RV} {k:List V→Option β},zD8 nb σ rs k=some r→∃ vs,rs.mapM (zaT nb σ)=some vs∧k vs=some r
 | [],k,h=>⟨[],rfl,h⟩
 | x::rs,k,h=>by
  obtain ⟨v,e,h⟩:=zG3 h
  obtain ⟨vs,e2,h⟩:=zDk h
  exact ⟨v::vs,by simp [List.mapM_cons,e,e2],h⟩
theorem zMG{σ:St}{rs:List RV}{k:V→Option β}(h:zyo nb σ rs k=some r):∃ v,results nb σ rs=some v∧k v=some r:=by
 unfold zyo at h
 split at h
 ·rename_i hd
  split at h
  ·obtain ⟨v,e,h⟩:=zG3 h
   exact ⟨v,by simp only [results,hd,if_true]; exact e,h⟩
  ·rename_i hne
   obtain ⟨vs,e,h⟩:=zDk h
   refine ⟨.tup vs,?_,h⟩
   simp only [results,hd,if_true,e,QN]
 ·cases h
theorem zw0{b:List B}{ids:List Nat}:∀ {l:List Nat} {k:Bor→Option β},zBG b nb ids l k=some r→∃ bor,zpY b nb ids l=some bor∧k bor=some r
 | [],k,h=>⟨[],rfl,h⟩
 | id::l,k,h=>by
  simp only [zBG] at h
  split at h
  ·rename_i p cs hb
   cases p with
   | true=>
    obtain ⟨bor,e,h⟩:=zw0 (l:=l) h
    exact ⟨_,by simp only [zpY,hb,B.lend,B.isRow,XF,Bool.or_true,XC,if_true,e,QN,B.ren],h⟩
   | false=>
    simp only at h
    split at h
    ·rename_i hd
     obtain ⟨hl,h⟩:=zr h
     obtain ⟨bor,e,h⟩:=zw0 (l:=l) h
     exact ⟨_,by simp only [zpY,hb,B.lend,Bool.false_or,hl,hd,XF,XC,if_true,e,QN,B.ren,WP,if_false],h⟩
    ·cases h
  ·rename_i es hb
   split at h
   ·rename_i hd
    obtain ⟨bor,e,h⟩:=zw0 (l:=l) h
    exact ⟨_,by simp only [zpY,hb,B.lend,hd,XF,XC,if_true,e,QN,B.ren],h⟩
   ·cases h
  ·rename_i n hb
   split at h
   ·rename_i hd
    obtain ⟨bor,e,h⟩:=zw0 (l:=l) h
    exact ⟨_,by simp only [zpY,hb,B.lend,hd,XF,XC,if_true,e,QN,B.ren],h⟩
   ·cases h
  ·cases h
theorem zNL{σ:St}{rs:List RV}{k:V→Bor→Option β}(h:(match zjP σ.t.length rs σ with
  | some (σ,rs)=>zyo nb σ rs fun v=>zBG σ.b nb (zfn nb v) (zfn nb v) fun b=>match zgi (zfn nb v) with
   | true=>k (zoI (yN (zfn nb v)) v) b
   | false=>none
  | none=>none)=some r):∃ v b,zxq nb σ rs=some (v,b)∧k v b=some r:=by
 split at h
 rotate_left
 ·cases h
 rename_i σ1 rs1 hu
 obtain ⟨v,e1,h⟩:=zMG h
 obtain ⟨b,e2,h⟩:=zw0 h
 split at h
 ·rename_i hd
  refine ⟨_,b,?_,h⟩
  simp only [zxq,hu,zBZ,e1,e2,Wb,QT,hd,if_true,Wl]
 ·cases h
theorem zNv{T:Nat→Option CF}{pr:CB}{d:Nat}{f:Nat}(hc:zms c (zrm (evF T pr L d))){cf:CF}(hT:T f=some cf){args:List V}{bor:Bor}{k:V→Bor→Option β}(h:zj sh c L cf args bor k=some r):∃ v b,evF T pr L (d+1) f args bor=some (v,b)∧k v b=some r:=by
 have h:zKn sh c L cf args bor k=some r:=by
  unfold zj at h
  split at h
  ·rename_i sz es rest _
   cases es with
   | nil=>exact h
   | cons a l=>exact h
  ·exact h
 obtain ⟨ex,σ',e,h⟩:=zUz hc _ _ _ h
 cases ex with
 | exit j=>cases h
 | normal=>
  obtain ⟨v,b,e1,h⟩:=zNL h
  exact ⟨v,b,by simp only [evF,hT,e,e1],h⟩
 | ret=>
  obtain ⟨v,b,e1,h⟩:=zNL h
  exact ⟨v,b,by simp only [evF,hT,e,e1],h⟩
def FOk(T:Nat→Option CF)(L g:Nat)(d:∀ (β:Type),List V→Bor→(V→Bor→Option β)→Option β)(D:Nat):Prop:=∀ n,D≤n→∀ (β:Type) (args:List V) (bor:Bor) (k:V→Bor→Option β) (r:β),d β args bor k=some r→∃ v b,zrm (evF T zx3 L n) g args bor=some (v,b)∧k v b=some r
theorem xu{cb:CB}:zms noC cb:=by
 intro β f args bor k r h; cases h
theorem yk{c:CBC}{cb:CB}(hc:zms c cb){g:Nat}{d:∀ (β:Type),List V→Bor→(V→Bor→Option β)→Option β}(hd:∀ (β:Type) (args:List V) (bor:Bor) (k:V→Bor→Option β) (r:β),d β args bor k=some r→∃ v b,cb g args bor=some (v,b)∧k v b=some r):zms (zq g d c) cb:=by
 intro β f args bor k r h
 unfold zq at h
 split at h
 ·rename_i hf
  rw [Wd hf]
  exact hd _ _ _ _ _ h
 ·exact hc _ _ _ _ _ _ h
theorem zTa{cb:CB}{g:Nat}(hg:frN g=false)(args:List V)(bor:Bor):zrm cb g args bor=cb g args bor:=by
 unfold zrm; rw [hg]
theorem yv{T:Nat→Option CF}{L g:Nat}{cf:CF}(hT:T g=some cf){d:∀ (β:Type),List V→Bor→(V→Bor→Option β)→Option β}{D:Nat}
  (h:∀ m,D≤m→∃ (sh:Nat→Sh) (c:CBC),zms c (zrm (evF T zx3 L m))∧∀ (β:Type) (args:List V) (bor:Bor) (k:V→Bor→Option β) (r:β),d β args bor k=some r→zj sh c L cf args bor k=some r) (hg:frN g=false:=by rfl):FOk T L g d (D+1):=by
 intro n hn β args bor k r hr
 obtain ⟨m,rfl⟩:∃ m,n=m+1:=⟨n-1,by omega⟩
 obtain ⟨sh,c,hc,hd⟩:=h m (by omega)
 rw [zTa hg]
 exact zNv hc hT (hd _ _ _ _ _ hr)
abbrev Dk:=∀ (β:Type),List V→Bor→(V→Bor→Option β)→Option β
def d0(f:∀ (β:Type),(V→Bor→Option β)→Option β):Dk:=fun β a b k=>(fun (_:Nat→Nat)=>match a with
 | []=>(match b with
  | []=>f β k
  | _::_=>none)
 | _::_=>none) zDX
def dA{α:Type}(acc:∀ (β:Type),V→(α→Option β)→Option β)(f:α→Dk):Dk:=fun β a b k=>(fun (_:Nat→Nat)=>match a with
 | v::r=>acc β v (fun p=>f p β r b k)
 | []=>none) zDX
def dN(acc:∀ (β:Type),V→Option β→Option β)(f:Dk):Dk:=fun β a b k=>(fun (_:Nat→Nat)=>match a with
 | v::r=>acc β v (f β r b k)
 | []=>none) zDX
def DK(d X:Dk):Prop:=∀ β args bor k r,d β args bor k=some r→X β args bor k=some r
theorem zLF{f:∀ (β:Type),(V→Bor→Option β)→Option β}{β:Type}{a:List V}{b:Bor}{k:V→Bor→Option β}{r:β}(e:d0 f β a b k=some r):a=[]∧b=[]∧f β k=some r:=by
 cases a with
 | cons v a=>have e:none=some r:=e; cases e
 | nil=>cases b with
  | cons v b=>have e:none=some r:=e; cases e
  | nil=>exact ⟨rfl,rfl,e⟩
theorem xO{f:∀ (β:Type),(V→Bor→Option β)→Option β}{X:Dk}(h:∀ β k,X β [] [] k=f β k):DK (d0 f) X:=by
 intro β a b k r e
 obtain ⟨rfl,rfl,e2⟩:=zLF e
 rw [h]; exact e2
def zJ7{α:Type}(acc:∀ (β:Type),V→(α→Option β)→Option β)(mk:α→V):Prop:=∀ β v k r,acc β v k=some r→∃ p,v=mk p∧k p=some r
def zXS(acc:∀ (β:Type),V→Option β→Option β)(u:V):Prop:=∀ β v k r,acc β v k=some r→v=u∧k=some r
theorem xp{α:Type}{acc:∀ (β:Type),V→(α→Option β)→Option β}{mk:α→V}(hi:zJ7 acc mk){f:α→Dk}{X:Dk}(h:∀ p,DK (f p) (fun β a b k=>X β (mk p::a) b k)):DK (dA acc f) X:=by
 intro β a b k r e
 cases a with
 | nil=>have e:none=some r:=e; cases e
 | cons v a=>
  have e:acc β v (fun p=>f p β a b k)=some r:=e
  obtain ⟨p,rfl,e2⟩:=hi _ _ _ _ e
  exact h p _ _ _ _ _ e2
theorem zUL{X:Nat→Dk}{c:Nat}{v:V}(e:∀ (β:Type) (n:Nat) (k:V→Bor→Option β),X (n+c) β [] [] k=k v [])(L:Nat):DK (d0 fun _ k=>chk (c≤L) (k v [])) (X L):=by
 refine fun β args bor k r h=>?_
 obtain ⟨rfl,rfl,h2⟩:=zLF h
 rw [zfl] at h2
 split at h2
 ·rename_i hc
  obtain ⟨n,rfl⟩:∃ n,L=n+c:=⟨L-c,by omega⟩
  rw [e]; exact h2
 ·cases h2
abbrev AI(kd:IntKind)(β:Type)(v:V)(k:Int→Option β):Option β:=aI kd v k
abbrev AB(β:Type)(v:V)(k:Bool→Option β):Option β:=aB v k
abbrev AS(β:Type)(v:V)(k:ByteArray→Option β):Option β:=aS v k
abbrev AL(sz:Nat)(β:Type)(v:V)(k:Ls→Option β):Option β:=aL sz v k
abbrev AGs(sz:Nat)(β:Type)(v:V)(k:Ls→Option β):Option β:=aGs sz v k
abbrev AG(β:Type)(v:V)(k:List V→Option β):Option β:=aG v k
abbrev AFp(n:Nat)(β:Type)(v:V)(k:List V→Option β):Option β:=aFp n v k
abbrev AP(id off:Nat)(β:Type)(v:V)(k:Option β):Option β:=aP id off v k
abbrev AV(u:Value)(β:Type)(v:V)(k:Option β):Option β:=aV u v k
abbrev AF(f:Nat)(caps:List (Nat × Nat))(β:Type)(v:V)(k:Option β):Option β:=aF f caps v k
theorem xY{kd:IntKind}:zJ7 (AI kd) (fun n=>.sc (.int kd n)):=fun _ _ _ _ h=>zY h
theorem zaL{sz:Nat}:zJ7 (AL sz) (fun n=>.sl sz n):=fun _ _ _ _ h=>zeO h
theorem zfP:zJ7 AG (fun n=>.agg n):=fun _ _ _ _ h=>zUZ h
theorem zWL{β:Type}(sz:Nat)(l:Ls)(k:Ls→Option β):aL sz (.sl sz l) k=k l:=by show chk (sz=sz) (k l)=k l; rw [zfl,if_pos rfl]
end
end
section
section
variable {β:Type}
theorem zd{α:Type}(a:α)(k:α→Option β):lt a k=k a:=Eq.trans rfl rfl
theorem ya{p:Prop}{inst:Decidable p}(h:p)(k:Option β):@chk β p inst k=k:=(zfl p k).trans (if_pos h)
theorem zGU{inst:Decidable True}(k:Option β):@chk β True inst k=k:=(zfl True k).trans (if_pos trivial)
theorem zik(a b:Option β):ifb false a b=b:=rfl
theorem zba{p:Prop}{inst:Decidable p}(a b:Option β):ifb (@decide p inst) a b=if p then a else b:=by
 by_cases h:p <;> simp [ifb,h]
theorem xz{p:Prop}{inst:Decidable p}(h:p)(a b:Option β):ifb (@decide p inst) a b=a:=by rw [zba,if_pos h]
theorem yq{p:Prop}{inst:Decidable p}(h:¬ p)(a b:Option β):ifb (@decide p inst) a b=b:=by rw [zba,if_neg h]
theorem zbq{x y:Int}(h:x=y)(a b:Option β):ifb (x==y) a b=a:=by subst h; simp [ifb]
theorem zao{x y:Int}(h:x≠y)(a b:Option β):ifb (x==y) a b=b:=by rw [beq_eq_false_iff_ne.2 h]; rfl
theorem zsp{kd:IntKind}{cs:List V}{off:Nat}{n:Int}(h:cs[off]?=some (.sc (.int kd n)))(k:Int→Option β):cI kd cs off k=k n:=by
 simp [cI,zdn,h,aI,zGU]
theorem zBP{sz:Nat}{cs:List V}{off:Nat}{es:Ls}(h:cs[off]?=some (.sl sz es))(k:Ls→Option β):cL sz cs off k=k es:=by
 simp [cL,zdn,h,aL,zGU]
theorem zsG{sz:Nat}{cs:List V}{off:Nat}{es:Ls}(h:cs[off]?=some (.sl sz es))(k:Ls→Option β):cLd sz cs off k=k es:=by
 simp [cLd,zdn,h,aLd,zGU]
theorem zSN{es:Ls}{j:Int}{c:List V}(h0:0≤j)(h:es[j.toNat]?=some c)(k:List V→Option β):idx es j k=k c:=by
 simp [idx,h0,h,zGU]
theorem zef{es:Ls}{j:Nat}{c:List V}(h:es[j]?=some c)(k:List V→Option β):idx es (j:Int) k=k c:=
 zSN (Int.natCast_nonneg j) (by simpa using h) k
end
theorem xr{n:Int}(h1:-9223372036854775808≤n)(h2:n≤9223372036854775807):QG .i64 n=n:=IntWalk.i64_in _ ⟨h1,h2⟩
theorem zBg{k:IntKind}{n:Int}(hk:k.signed=false)(h1:0≤n)(h2:n<2 ^ k.bits):QG k n=n:=by
 unfold QG
 simp only [hk,Bool.false_and,WP,if_false]
 exact Int.emod_eq_of_lt h1 h2
theorem zaQ{n:Int}(h1:0≤n)(h2:n≤18446744073709551615):QG .u64 n=n:=zBg rfl h1 (XB h2 (by decide))
theorem ziL{n:Int}(h1:0≤n)(h2:n≤4294967295):QG .u32 n=n:=zBg rfl h1 (XB h2 (by decide))
theorem zSE{n:Int}(h1:0≤n)(h2:n≤65535):QG .u16 n=n:=zBg rfl h1 (XB h2 (by decide))
theorem zWT{n:Int}(h:(Lit.int .u8 n).wf=true):0≤n∧n≤255:=by
 simpa [Lit.wf,IntKind.min,IntKind.max,IntKind.signed,IntKind.bits] using h
def ze(k:IntKind)(l:List Int):Ls:=l.map fun n=>[.sc (.int k n)]
theorem xG(k:IntKind)(l:List Int):(ze k l).length=l.length:=by simp [ze]
theorem zSY(k:IntKind){l:List Int}{i:Nat}(h:i<l.length):(ze k l)[i]?=some [.sc (.int k l[i])]:=by simp [ze,h]
theorem zuP(k:IntKind)(l:List Int)(i:Nat):(ze k l).drop i=ze k (l.drop i):=by simp [ze,List.map_drop]
theorem zke(k:IntKind)(l:List Int)(i:Nat):(ze k l).take i=ze k (l.take i):=by simp [ze,List.map_take]
theorem zpD(k:IntKind)(l m:List Int):ze k l++ze k m=ze k (l++m):=by simp [ze]
theorem HasRow.int1{k:IntKind}{e:List V}(h:HasRow [.int k] e):∃ n,e=[.sc (.int k n)]∧(Lit.int k n).wf=true:=by
 obtain ⟨h1,h2⟩:=h
 match e,h1 with
 | [v],_=>
  obtain ⟨n,rfl,hn⟩:=(h2 0 v _ rfl rfl).int_inv
  exact ⟨n,rfl,hn⟩
theorem zMV{k:IntKind}:∀ {es:Ls},(∀ e∈es,HasRow [.int k] e)→∃ l:List Int,es=ze k l∧∀ n∈l,(Lit.int k n).wf=true
 | [],_=>⟨[],rfl,by simp⟩
 | e::es,h=>by
  obtain ⟨n,rfl,hn⟩:=(h e (by simp)).int1
  obtain ⟨l,rfl,hl⟩:=zMV (es:=es) (fun x hx=>h x (by simp [hx]))
  exact ⟨n::l,rfl,by simpa [hn] using hl⟩
def row(k:IntKind)(l:List Int):List V:=l.map fun n=>.sc (.int k n)
theorem zk(k:IntKind)(l:List Int):(row k l).length=l.length:=by simp [row]
theorem zr9(k:IntKind):∀ (n:Nat) (l:List Int),n≤l.length→yf 1 n (row k l)=ze k (l.take n)
 | 0,l,_=>by simp [yf,ze]
 | n+1,[],h=>by simp at h
 | n+1,x::l,h=>by
  have:=zr9 k n l (by simpa using h)
  simp only [row] at this
  simp [yf,row,ze,this]
theorem zSz(k:IntKind)(l:List Int)(i:Nat):(row k l).drop i=row k (l.drop i):=by simp [row,List.map_drop]
end
section
theorem zai{cs new:List V}(h:new.length=cs.length):xd cs 0 new=new:=by
 simp [xd,h]
theorem znd{cs:List V}{off:Nat}{v:V}(h:off<cs.length):xd cs off [v]=cs.set off v:=by
 simp only [xd,List.length_singleton]
 rw [List.set_eq_take_append_cons_drop,if_pos h]
 simp
theorem zDG{sz:Nat}:∀ {es:Ls},(∀ e∈es,e.length=sz)→yf sz es.length es.flatten=es
 | [],_=>rfl
 | e::es,h=>by
  have he:=h e (by simp)
  have:=zDG (es:=es) (fun x hx=>h x (by simp [hx]))
  simp only [List.length_cons,yf,WL]
  rw [List.take_append_of_le_length (by omega),Xy (by omega),List.drop_append_of_le_length (by omega),WK (by omega),List.nil_append,this]
theorem zK7{sz:Nat}{es:Ls}(h:∀ e∈es,e.length=sz):es.flatten.length=es.length*sz:=yV h
theorem zSy{sz:Nat}(hs:0<sz){es:Ls}(h:∀ e∈es,e.length=sz){i j:Nat}(hj:j<sz){e:List V}(he:es[i]?=some e):es.flatten[i*sz+j]?=e[j]?:=by
 rw [zsL es h hs]
 have e1:(i*sz+j) / sz=i:=by rw [Xx,Nat.mul_add_div hs,XD hj,W1]
 have e2:(i*sz+j) % sz=j:=by rw [Xx,Nat.mul_add_mod,XE hj]
 rw [e1,e2,he]; rfl
theorem zSK{sz:Nat}(hs:0<sz){es:Ls}(h:∀ e∈es,e.length=sz){i j:Nat}(hj:j<sz){e:List V}(he:es[i]?=some e)(v:V):xd es.flatten (i*sz+j) [v]=(es.set i (e.set j v)).flatten:=by
 obtain ⟨hi,rfl⟩:=Wi.1 he
 have hlt:i*sz+j<es.flatten.length:=by
  rw [zK7 h]
  have:(i+1)*sz≤es.length*sz:=Nat.mul_le_mul_right _ hi
  rw [WG] at this; omega
 rw [znd hlt]
 have h':∀ x∈es.set i (es[i].set j v),x.length=sz:=by
  intro x hx
  rcases List.mem_or_eq_of_mem_set hx with hx | rfl
  ·exact h x hx
  ·rw [List.length_set]; exact h _ (List.getElem_mem hi)
 apply Xd
 intro q
 rw [Xa,zsL _ h' hs,zsL _ h hs,Xa]
 have hm:=Nat.mod_lt q hs
 have hd:=Nat.div_add_mod q sz
 rw [Xx] at hd
 by_cases hq:i*sz+j=q
 ·have e1:q / sz=i:=by rw [← hq,Xx,Nat.mul_add_div hs,XD hj,W1]
  have e2:q % sz=j:=by rw [← hq,Xx,Nat.mul_add_mod,XE hj]
  rw [if_pos hq,if_pos hlt,if_pos e1.symm,if_pos hi,e2]
  simp [h _ (List.getElem_mem hi),hj]
 ·rw [if_neg hq]
  by_cases e1:i=q / sz
  ·have e2:j≠q % sz:=by rintro rfl; rw [e1] at hq; exact hq hd
   rw [if_pos e1,if_pos hi]
   simp only [QT]
   rw [List.getElem?_set_ne e2,← e1,Wc hi]
   rfl
  ·rw [if_neg e1]
theorem xm{β:Type}(x y:Int)(a b:Option β):ifb (x != y) a b=if x=y then b else a:=by
 by_cases h:x=y
 ·subst h; simp [ifb]
 ·rw [bne_iff_ne.2 h,if_neg h]; rfl
end
section
def zXp{α:Type}(p:α→Bool):List α→Nat→Int
 | [],_=>-1
 | x::l,i=>if p x=true then (i:Int) else zXp p l (i+1)
theorem yI{i:Nat}(h:i≤1000000000):QG .i64 ((i:Int)+1)=((i+1:Nat):Int):=by
 rw [xr (by omega) (by omega)]; omega
end
end Go.Proofs.YtgmhijonllockaaGreatDoor
