/- Part 8 of the proof of BlockBack: an abstract machine over plain values, its soundness, and the functions of the program on plain values. -/
import Derived.ProofKit
import Derived.OpenShut
import Derived.ChangeOld
import Derived.Deep.Slices
import Derived.SizedLaws
import Derived.Test.YtgmhijonllockaaGreatDoorMBlockBack7
namespace Go.Proofs.YtgmhijonllockaaGreatDoor
set_option maxRecDepth 100000
set_option linter.unusedVariables false
set_option linter.unusedSimpArgs false
open Option renaming bind_eq_bind->Wb,bind_some->QT,map_some->QN,bind_eq_some_iff->Wa,map_eq_some_iff->Wj,pure_def->Wl,isSome_some->XA,isSome_none->XG
open Bool renaming false_eq_true->WP,and_eq_true->Wh,and_self->XB,true_or->XC
open List renaming getElem?_eq_getElem->Wc,range->Wy,getElem?_eq_some_iff->Wi,replicate->We,mem_of_find?_eq_some->Xw,mem_map->Xy,replicate_succ->Xz,getElem?_append_right->Wt,getElem?_append_left->Wv,flatten_cons->WL,all_eq_true->QO,length_eq_zero_iff->WZ,find?_some->XD,take_of_length_le->XE,mem_cons->Q9,getElem_of_mem->W7
open Nat renaming eq_of_beq_eq_true->Wd,beq->Wf
open IntKind renaming wrap->QG,signed->XF,bits->XH,min->XI,max->XJ
open Int renaming lt_of_le_of_lt->Xx
section
structure Row where
 f:Nat
 g:Nat
 h:Hint
 c:CF
def zbc(fg:List (Nat × Nat))(gl:List (Nat × List V)):Rn:=⟨fun f=>(fg.find? (fun e=>e.1==f)).map (·.2),fun g=>(gl.find? (fun e=>e.1==g)).map (·.2)⟩
def z0v(fg:List (Nat × Nat)):Rn:=zbc fg []
def yn(rows:List Row)(g:Nat):Option CF:=(rows.find? (fun e=>e.g==g)).map (·.c)
def ccA:CC→CC
 | .seq a _=>a
 | .block _ a=>a
 | .loop _ _ a=>a
 | .cond _ a _=>a
 | .fork p _ _ _=>p
 | c=>c
def ccB:CC→CC
 | .seq _ b=>b
 | .cond _ _ b=>b
 | .fork _ _ _ b=>b
 | c=>c
def ccC:CC→CC
 | .fork _ _ a _=>a
 | c=>c
def yy:List Nat→CC→CC
 | [],c=>c
 | 0::p,c=>yy p (ccA c)
 | 1::p,c=>yy p (ccB c)
 | _::p,c=>yy p (ccC c)
def cfG(P:Program)(ren:Rn)(h:Hint)(f:Nat):CF:=(zwJ P ren h f).getD ⟨0,[],.skip⟩
def zVD(P:Program)(ren:Rn)(l:List (Nat × Nat × Hint)):List Row:=l.map fun x=>⟨x.1,x.2.1,x.2.2,cfG P ren x.2.2 x.1⟩
def zdc(P:Program)(ren:Rn)(fg:List (Nat × Nat))(l:List (Nat × Nat × Hint)):Bool:=l.all fun x=>fg.any (fun e=>Wf e.1 x.1&&Wf e.2 x.2.1)&&zel P x.1&&(zwJ P ren x.2.2 x.1).isSome
theorem zTH{P:Program}{ren:Rn}{fg:List (Nat × Nat)}{l:List (Nat × Nat × Hint)}(h:zdc P ren fg l=true):∀ r∈zVD P ren l,(r.f,r.g)∈fg∧zel P r.f=true∧zwJ P ren r.h r.f=some r.c:=by
 intro r hr
 obtain ⟨x,hx,rfl⟩:=Xy.1 hr
 have:=QO.1 h x hx
 simp only [Wh,List.any_eq_true] at this
 obtain ⟨⟨⟨e,he,h1,h2⟩,h3⟩,h4⟩:=this
 refine ⟨?_,h3,?_⟩
 ·show (x.1,x.2.1)∈fg
  rw [← Wd h1,← Wd h2]; exact he
 ·show zwJ P ren x.2.2 x.1=some (cfG P ren x.2.2 x.1)
  obtain ⟨c,hc⟩:=Option.isSome_iff_exists.1 h4
  rw [cfG,hc]; rfl
def z0w:CB:=fun _ _ _=>none
def zUY(fg:List (Nat × Nat)):Bool:=zgt (fg.map (·.2))
theorem zIB:∀ (l:List (Nat × Nat)),zgt (l.map (·.2))=true→∀ a∈l,∀ b∈l,a.2=b.2→a=b
 | [],_,a,ha,_,_,_=>by cases ha
 | x::l,h,a,ha,b,hb,e=>by
  simp only [List.map_cons,zgt,Wh,Bool.not_eq_true',List.contains_eq_mem,decide_eq_false_iff_not] at h
  rcases Q9.1 ha with ea | ha'
  ·rcases Q9.1 hb with eb | hb'
   ·rw [ea,eb]
   ·exact absurd (Xy.2 ⟨b,hb',by rw [← e,ea]⟩) h.1
  ·rcases Q9.1 hb with eb | hb'
   ·exact absurd (Xy.2 ⟨a,ha',by rw [e,eb]⟩) h.1
   ·exact zIB l h.2 a ha' b hb' e
theorem zUp{P:Program}{fg:List (Nat × Nat)}{gl:List (Nat × List V)}{rows:List Row}(h1:zUY fg=true)(h2:∀ r∈rows,(r.f,r.g)∈fg∧zel P r.f=true∧zwJ P (zbc fg gl) r.h r.f=some r.c) :
  ∀ g c,yn rows g=some c→∀ f,zbc fg gl f=some g→zel P f=true∧∃ h,zwJ P (zbc fg gl) h f=some c:=by
 intro g c hT f hf
 simp only [yn,Wj] at hT
 obtain ⟨r,hr,rfl⟩:=hT
 have hm:=Xw hr
 have hg:r.g=g:=by have:=XD hr; simpa using this
 simp only [zbc,Wj] at hf
 obtain ⟨x,hx,hx2⟩:=hf
 have hxm:=Xw hx
 have hxf:x.1=f:=by have:=XD hx; simpa using this
 obtain ⟨q1,q2,q3⟩:=h2 r hm
 have e:=zIB fg h1 _ q1 x hxm (by rw [hx2]; exact hg)
 have ef:r.f=f:=by rw [← hxf,← e]
 subst ef
 exact ⟨q2,r.h,q3⟩
def zTe(P:Program)(ren:Rn)(f:FuncId):Prop:=zel P f=true∧∀ n:Int,0≤n→n≤1000000000→PCall P ren f [.fr 1 [],.sc (.int .i64 n)] [] (.gs 1 []) []
def zVr(P:Program)(ren:Rn)(sz bytes:Nat)(f:FuncId):Prop:=zel P f=true∧∀ (n m:Nat) (i:Int) (cs vs:List V),zVv sz bytes n m i cs vs→PCall P ren f [.own 0 0 n sz,.sc (.int .i64 i),.own 1 0 m sz] [.live true cs,.live true vs] (.fr sz (zYA sz n m i.toNat cs vs)) [.dead cs.length,.live true vs]
theorem zVX{P:Program}{ren:Rn}(hg:∀ f,ren f=some 459→zTe P ren f)(hi:∀ f g sz bytes,ren f=some g→zMg g=some (sz,bytes)→zVr P ren sz bytes f):zhy P ren zAi:=by
 intro g args bor r bor' h f hf
 unfold zAi at h
 split at h
 ·rename_i n
  split at h
  ·rename_i hc
   cases h
   obtain ⟨rfl,h0,h1⟩:=hc
   exact ⟨(hg f hf).1,(hg f hf).2 n h0 h1⟩
  ·cases h
 ·rename_i n s1 i m s2 cs vs
  split at h
  ·rename_i sz bytes he
   split at h
   ·rename_i hc
    cases h
    obtain ⟨rfl,rfl,hk⟩:=hc
    obtain ⟨q1,q2⟩:=hi f g _ bytes hf he
    exact ⟨q1,q2 n m i cs vs hk⟩
   ·cases h
  ·cases h
 ·cases h
theorem zN8{fg:List (Nat × Nat)}{gl:List (Nat × List V)}{f g:Nat}(h:zbc fg gl f=some g):(f,g)∈fg:=by
 simp only [zbc,Wj] at h
 obtain ⟨x,hx,hx2⟩:=h
 have hxf:x.1=f:=by have:=XD hx; simpa using this
 have:=Xw hx
 rw [← hxf,← hx2]; exact this
theorem zVJ{P:Program}{fg:List (Nat × Nat)}{gl:List (Nat × List V)}(h:fg.all (fun e=>e.2 != 459)=true):∀ f,zbc fg gl f=some 459→zTe P (zbc fg gl) f:=by
 intro f hf
 have:=QO.1 h _ (zN8 hf)
 simp at this
theorem zXA{P:Program}{fg:List (Nat × Nat)}{gl:List (Nat × List V)}(h:fg.all (fun e=>(zMg e.2).isNone)=true):∀ f g sz bytes,zbc fg gl f=some g→zMg g=some (sz,bytes)→zVr P (zbc fg gl) sz bytes f:=by
 intro f g sz bytes hf hs
 have:=QO.1 h _ (zN8 hf)
 simp [hs] at this
theorem zVI{P:Program}{fg:List (Nat × Nat)}{gl:List (Nat × List V)}{rows:List Row}(hm:P.follows .mixedOrders=true)(h1:zUY fg=true)(hp:zhy P (zbc fg gl) zAi)(h2:∀ r∈rows,(r.f,r.g)∈fg∧zel P r.f=true∧zwJ P (zbc fg gl) r.h r.f=some r.c)(L d:Nat):zhy P (zbc fg gl) (zsC (evF (yn rows) zAi L d)):=
 zKC (zSG (zUp h1 h2) hp (zXN hm) d)
end
section
open Go.ChangeShapes Go.WideShapes Go.RowKit Go.Deep
inductive CT where
 | int (k:IntKind)
 | bool
 | str
 | sl (cs:List CT)
inductive HasC:CT→V→Prop
 | int (k:IntKind) (n:Int) (h:(Lit.int k n).wf=true):HasC (.int k) (.sc (.int k n))
 | bool (b:Bool):HasC .bool (.sc (.bool b))
 | str (s:ByteArray) (h:s.size≤maxLen):HasC .str (.sc (.string s))
 | sl (cs:List CT) (es:Ls) (hl:es.length≤maxLen) (h0:∀ e∈es,e.length=cs.length) (h:∀ e∈es,∀ (i:Nat) (c:V) (ct:CT),e[i]?=some c→cs[i]?=some ct→HasC ct c):HasC (.sl cs) (.sl cs.length es)
def HasRow(cts:List CT)(vs:List V):Prop:=vs.length=cts.length∧∀ (i:Nat) (c:V) (ct:CT),vs[i]?=some c→cts[i]?=some ct→HasC ct c
def zD0(f:TypeId→Option (List CT))(size:TypeId→Nat):List Field→Nat→Option (List CT)
 | [],_=>some []
 | x::xs,off=>do
  let a ← f x.type
  if x.offset=off∧size x.type=a.length then
   let b ← zD0 f size xs (off+a.length)
   some (a++b)
  else none
def zqW(P:Program):Nat→TypeId→Option (List CT)
 | 0,_=>none
 | d+1,t=>match P.underlying t with
  | some .bool=>some [.bool]
  | some (.int k)=>some [.int k]
  | some .string=>some [.str]
  | some (.slice e)=>do
   let c ← zqW P d e
   if P.cellsOf e=c.length∧0<c.length then some [.sl c] else none
  | some (.array n e)=>do
   let c ← zqW P d e
   if P.cellsOf e=c.length∧P.cellsOf t=n*c.length then some (We n c).flatten else none
  | some (.struct fs)=>do
   let c ← zD0 (zqW P d) P.cellsOf fs.toList 0
   if P.cellsOf t=c.length then some c else none
  | _=>none
section
variable {H:Type} {enc:TypeId × Value→H} {P:Program} {w:World} {base:Nat} {spare:Nat→Bool} {held:Bool} {ren:Rn}
def RdC(ren:Rn)(w:World)(cts:List CT)(cs:List Value)(vs:List V):Prop:=
 cs.length=cts.length∧vs.length=cts.length∧∀ (i:Nat) (u:Value) (v:V) (ct:CT),cs[i]?=some u→vs[i]?=some v→cts[i]?=some ct→u.oneCell'=true∧RepP ren w zjZ v u∧HasC ct v
theorem RdC.one{ct:CT}{u:Value}{v:V}(h1:u.oneCell'=true)(h2:RepP ren w zjZ v u)(h3:HasC ct v):RdC ren w [ct] [u] [v]:=by
 refine ⟨rfl,rfl,fun i u' v' ct' hu hv hc=>?_⟩
 cases i with
 | zero=>simp at hu hv hc; subst hu; subst hv; subst hc; exact ⟨h1,h2,h3⟩
 | succ i=>simp at hu
theorem RdC.nil:RdC ren w [] [] []:=⟨rfl,rfl,fun i u v ct h=>by simp at h⟩
theorem RdC.app{c1 c2:List CT}{a1 a2:List Value}{b1 b2:List V}(h1:RdC ren w c1 a1 b1)(h2:RdC ren w c2 a2 b2):RdC ren w (c1++c2) (a1++a2) (b1++b2):=by
 obtain ⟨l1,m1,q1⟩:=h1
 obtain ⟨l2,m2,q2⟩:=h2
 refine ⟨by simp [l1,l2],by simp [m1,m2],fun i u v ct hu hv hc=>?_⟩
 by_cases hi:i<c1.length
 ·rw [Wv (by omega)] at hu hv hc
  exact q1 i u v ct hu hv hc
 ·rw [Wt (by omega)] at hu hv hc
  rw [l1] at hu; rw [m1] at hv
  exact q2 _ u v ct hu hv hc
theorem RdC.row{cts:List CT}{cs:List Value}{vs:List V}(h:RdC ren w cts cs vs):HasRow cts vs:=by
 refine ⟨h.2.1,fun i c ct hc ht=>?_⟩
 have hlt:i<cs.length:=by rw [h.1,← h.2.1]; exact (Wi.1 hc).1
 exact (h.2.2 i _ c ct (Wc hlt) hc ht).2.2
theorem zC5{f:TypeId→Option (List CT)}{size:TypeId→Nat}{cs:List Value}(rd:∀ (t:TypeId) (cts:List CT),f t=some cts→∀ x∈([]:List Nat),True) :
  ∀ (fs:List Field) (off:Nat) (cts:List CT),zD0 f size fs off=some cts→(∀ x∈fs,∀ a,f x.type=some a→∃ vs,RdC ren w a ((cs.drop x.offset).take (size x.type)) vs)→∃ vs,RdC ren w cts ((cs.drop off).take cts.length) vs
 | [],off,cts,h,_=>by
  cases h
  exact ⟨[],by simpa using RdC.nil⟩
 | x::xs,off,cts,h,H=>by
  simp only [zD0,Wb,Wa] at h
  obtain ⟨a,ha,h⟩:=h
  split at h
  ·rename_i hc
   simp only [Wa,Option.some.injEq] at h
   obtain ⟨b,hb,rfl⟩:=h
   obtain ⟨vs1,r1⟩:=H x (by simp) a ha
   obtain ⟨vs2,r2⟩:=zC5 rd xs _ b hb (fun y hy=>H y (by simp [hy]))
   refine ⟨vs1++vs2,?_⟩
   have e:(cs.drop off).take (a++b).length=(cs.drop x.offset).take (size x.type)++(cs.drop (off+a.length)).take b.length:=by
    rw [hc.1,hc.2,List.length_append,List.take_add,List.drop_drop]
   rw [e]
   exact r1.app r2
  ·cases h
theorem zFd{cs:List Value}{c:List CT}:∀ (n m:Nat),(∀ i,i<n→∃ vs,RdC ren w c ((cs.drop ((m+i)*c.length)).take c.length) vs)→∃ vs,RdC ren w (We n c).flatten ((cs.drop (m*c.length)).take (n*c.length)) vs
 | 0,m,H=>⟨[],by simpa using RdC.nil⟩
 | n+1,m,H=>by
  obtain ⟨vs1,r1⟩:=H 0 (by omega)
  obtain ⟨vs2,r2⟩:=zFd n (m+1) (fun i hi=>by
   obtain ⟨vs,r⟩:=H (i+1) (by omega)
   exact ⟨vs,by rw [show m+1+i=m+(i+1) by omega]; exact r⟩)
  refine ⟨vs1++vs2,?_⟩
  have e:(cs.drop (m*c.length)).take ((n+1)*c.length)=(cs.drop ((m+0)*c.length)).take c.length++(cs.drop ((m+1)*c.length)).take (n*c.length):=by
   rw [Nat.add_zero,Nat.add_mul n,Nat.one_mul,Nat.add_comm (n*c.length),List.take_add,List.drop_drop,show (m+1)*c.length=m*c.length+c.length by rw [Nat.add_mul,Nat.one_mul]]
   rw [show m+0=m from rfl]
  rw [e,Xz,WL]
  exact r1.app r2
theorem zuu{α:Type}{n:Nat}:∀ (es:List (List α)),(∀ e∈es,e.length=n)→0<n→∀ (i:Nat),es.flatten[i]?=(es[i / n]?).bind (fun e=>e[i % n]?)
 | [],_,_,i=>by simp
 | e::es,h,hn,i=>by
  have he:=h e (by simp)
  rw [WL]
  by_cases hi:i<n
  ·rw [Wv (by omega),Nat.div_eq_of_lt hi,Nat.mod_eq_of_lt hi]; simp
  ·rw [Wt (by omega),zuu es (fun x hx=>h x (by simp [hx])) hn,he]
   obtain ⟨j,rfl⟩:∃ j,i=j+n:=⟨i-n,by omega⟩
   rw [Nat.add_sub_cancel,Nat.add_div_right _ hn,Nat.add_mod_right]
   simp
theorem zuC:∀ (d:Nat) (t:TypeId) (cts:List CT),zqW P d t=some cts→∀ (fuel:Nat) (cs:List Value) (x:DataW H × List MemPlace),DataW.trod enc P w base spare held fuel t cs=some x→∃ vs,RdC ren w cts cs vs
 | 0,t,cts,h,fuel,cs,x,hx=>by cases h
 | d+1,t,cts,h,fuel,cs,x,hx=>by
  unfold zqW at h
  split at h
  ·rename_i ht
   cases h
   obtain ⟨b,rfl,_⟩:=DataW.trod_bool ht hx
   exact ⟨[.sc (.bool b)],.one rfl (.sc _ rfl) (.bool b)⟩
  ·rename_i k ht
   cases h
   obtain ⟨n,rfl,_,hw⟩:=DataW.trod_int ht hx
   exact ⟨[.sc (.int k n)],.one rfl (.sc _ rfl) (.int k n hw)⟩
  ·rename_i ht
   cases h
   obtain ⟨s,rfl,_,hw⟩:=DataW.trod_string ht hx
   exact ⟨[.sc (.string s)],.one rfl (.sc _ rfl) (.str s hw)⟩
  ·rename_i e ht
   simp only [Wb,Wa] at h
   obtain ⟨c,hc,h⟩:=h
   split at h
   ·rename_i hsz
    obtain ⟨hsz,hpos⟩:=hsz
    cases h
    rcases open_slice ht hx with ⟨rfl,_⟩ | ⟨a,len,cap,m,n,D,Pl,rfl,_,hl,hm,hmm,_,hi⟩
    ·refine ⟨[.sl c.length []],.one rfl (.sl _ [] none 0 (fun _=>undef) (Nat.le_refl _) (by simp) 0 0 (by simp) (by simp) (by simp) (by simp)) (.sl c [] (by simp) (by simp) (by simp))⟩
    ·have hlm:len≤m:=by rw [hmm]; split <;> omega
     have each:∀ i,i<len→∃ (us:List Value) (vs:List V),RdC ren w c us vs∧∀ j,j<c.length→w.cell? ((a.add (i*c.length)).add j)=us[j]?:=by
      intro i hil
      obtain ⟨cs',h1,h2⟩:=hi i (by omega)
      rw [hsz] at h1
      obtain ⟨_,hcl,hat⟩:=World.cells?_some h1
      obtain ⟨vs,r⟩:=zuC d e c hc _ _ _ h2
      exact ⟨cs',vs,r,hat⟩
     have hex:∃ (us:Nat→List Value) (vs:Nat→List V),∀ i,i<len→RdC ren w c (us i) (vs i)∧∀ j,j<c.length→w.cell? ((a.add (i*c.length)).add j)=(us i)[j]?:=by
      have:∀ i,∃ p:List Value × List V,i<len→RdC ren w c p.1 p.2∧∀ j,j<c.length→w.cell? ((a.add (i*c.length)).add j)=p.1[j]?:=by
       intro i
       by_cases hil:i<len
       ·obtain ⟨us,vs,q⟩:=each i hil; exact ⟨(us,vs),fun _=>q⟩
       ·exact ⟨([],[]),fun h=>absurd h hil⟩
      refine ⟨fun i=>(Classical.choose (this i)).1,fun i=>(Classical.choose (this i)).2,fun i hil=>Classical.choose_spec (this i) hil⟩
     obtain ⟨us,vs,hrow⟩:=hex
     have hget:∀ i,i<len→((Wy len).map vs)[i]?=some (vs i):=fun i hil=>by simp [hil]
     have hsz2:∀ e∈(Wy len).map vs,e.length=c.length:=by
      intro e he
      obtain ⟨i,hil,rfl⟩:=Xy.1 he
      exact (hrow i (List.mem_range.1 hil)).1.2.1
     have cell:∀ (i:Nat) (v:V),((Wy len).map vs).flatten[i]?=some v→0<c.length∧i / c.length<len∧(vs (i / c.length))[i % c.length]?=some v∧∃ u,(us (i / c.length))[i % c.length]?=some u∧u.oneCell'=true∧RepP ren w zjZ v u∧w.cell? ((a.add (i / c.length*c.length)).add (i % c.length))=some u:=by
      intro i v hv
      have hpos:0<c.length:=by
       rcases Nat.eq_zero_or_pos c.length with h0 | h0
       ·have:((Wy len).map vs).flatten=[]:=by
         rw [List.flatten_eq_nil_iff]
         intro l hl'
         exact WZ.1 ((hsz2 l hl').trans h0)
        rw [this] at hv; simp at hv
       ·exact h0
      rw [zuu _ hsz2 hpos] at hv
      have hlt:i / c.length<len:=by
       cases hq:((Wy len).map vs)[i / c.length]? with
       | none=>rw [hq] at hv; simp at hv
       | some e=>have:=(Wi.1 hq).1; simpa using this
      rw [hget _ hlt] at hv
      have hv:(vs (i / c.length))[i % c.length]?=some v:=hv
      have hr:=hrow _ hlt
      have hm:=Nat.mod_lt i hpos
      have hu:(us (i / c.length))[i % c.length]?=some ((us (i / c.length))[i % c.length]'(by rw [hr.1.1]; exact hm)):=Wc _
      obtain ⟨q1,q2,q3⟩:=hr.1.2.2 _ _ _ _ hu hv (Wc hm)
      exact ⟨hpos,hlt,hv,_,hu,q1,q2,by rw [hr.2 _ hm]; exact hu⟩
     have spot:((Wy len).map vs).flatten≠[]→a.spot=none:=by
      intro hne
      have hl0:0<((Wy len).map vs).flatten.length:=List.length_pos_iff.2 hne
      obtain ⟨_,_,_,u,_,_,_,hcell⟩:=cell 0 _ (Wc hl0)
      have hcell:w.cell? a=some u:=by simpa [Addr.add] using hcell
      unfold World.cell? at hcell
      split at hcell
      ·split at hcell
       ·cases hcell
       ·rename_i hs; simpa using hs
      ·cases hcell
     have addr:((Wy len).map vs).flatten≠[]→a=⟨a.block,a.off,none⟩:=by
      intro hne
      have:=spot hne
      cases a; simp_all
     have addto:∀ i v,((Wy len).map vs).flatten[i]?=some v→(a.add (i / c.length*c.length)).add (i % c.length)=⟨a.block,a.off+i,none⟩:=by
      intro i v hv
      have hne:((Wy len).map vs).flatten≠[]:=by intro h0; rw [h0] at hv; simp at hv
      rw [addr hne,zcV,zcV]
      have:=Nat.div_add_mod i c.length
      rw [Nat.mul_comm] at this
      show (⟨a.block,a.off+i / c.length*c.length+i % c.length,none⟩:Addr)=⟨a.block,a.off+i,none⟩
      congr 1; omega
     have hcap:len≤maxLen:=by omega
     have hlen:((Wy len).map vs).length=len:=by simp
     have rp:RepP ren w zjZ (.sl c.length ((Wy len).map vs)) (.slice (some a) ((Wy len).map vs).length cap):=by
      by_cases hne:((Wy len).map vs).flatten=[]
      ·
       have:(Wy len).map vs=[]:=by
        cases hes:(Wy len).map vs with
        | nil=>rfl
        | cons e es=>
         have h1:=hsz2 e (by rw [hes]; simp)
         rw [hes,WL,List.append_eq_nil_iff] at hne
         rw [hne.1] at h1
         simp at h1; omega
       rw [this]
       exact .sl _ [] (some a) cap (fun _=>undef) (Nat.zero_le _) (by simp) 0 0 (by simp) (by simp) (by simp) (by simp)
      ·refine .sl _ _ (some a) cap (fun i=>(w.cell? ⟨a.block,a.off+i,none⟩).getD undef) (by rw [hlen]; exact hl) hsz2 a.block a.off (fun _=>by rw [← addr hne]) (fun i v hv=>?_) (fun i v hv=>?_) (fun i v hv=>?_) <;>
        (obtain ⟨hpos,hlt,hv',u,hu,q1,q2,hcell⟩:=cell i v hv
         rw [addto i v hv] at hcell
         simp only [hcell,Option.getD_some])
       ·exact ⟨fun h=>h,trivial⟩
       ·exact q1
       ·exact q2
     refine ⟨[.sl c.length ((Wy len).map vs)],.one rfl (by rw [hlen] at rp; exact rp) (.sl c _ (by rw [hlen]; exact hcap) hsz2 (fun e he i v ct hv hct=>?_))⟩
     obtain ⟨q,hq,rfl⟩:=Xy.1 he
     exact (hrow q (List.mem_range.1 hq)).1.row.2 i v ct hv hct
   ·cases h
  ·rename_i n e ht
   simp only [Wb,Wa] at h
   obtain ⟨c,hc,h⟩:=h
   split at h
   ·rename_i hsz
    cases h
    obtain ⟨xs,m,_,_,hl,hxl,hi⟩:=DataW.trod_array ht hx
    have:=zFd (ren:=ren) (w:=w) (cs:=cs) (c:=c) n 0 (fun i hin=>by
     have:=hi i hin
     rw [Wc (by omega)] at this
     rw [hsz.1] at this
     obtain ⟨vs,r⟩:=zuC d e c hc _ _ _ this
     exact ⟨vs,by rw [Nat.zero_add]; exact r⟩)
    rw [Nat.zero_mul,List.drop_zero,XE (by omega)] at this
    exact this
   ·cases h
  ·rename_i fs ht
   simp only [Wb,Wa] at h
   obtain ⟨c,hc,h⟩:=h
   split at h
   ·rename_i hsz
    cases h
    obtain ⟨xs,m,_,_,hl,hxl,hi⟩:=DataW.trod_struct ht hx
    have:=zC5 (ren:=ren) (w:=w) (cs:=cs) (fun _ _ _ _ h=>by cases h) fs.toList 0 cts hc (fun y hy a ha=>by
     obtain ⟨i,hil,rfl⟩:=W7 hy
     have hil':i<fs.size:=by simpa using hil
     have:=hi i fs[i] (Array.getElem?_eq_getElem hil')
     rw [Wc (by omega)] at this
     exact zuC d _ a ha _ _ _ (by simpa using this))
    rw [List.drop_zero,XE (by omega)] at this
    exact this
   ·cases h
  ·cases h
theorem zWj{r:Reach}{b0:Nat}{t:TypeId}{v:Value}{dd:DataW H}{p:List MemPlace}{cts:List CT}{d:Nat}(hagg:z9 P t=some true)(hv:Value.okWide P w r b0 t v)(h:DataW.Trod enc P w base spare held t v dd p)(hc:zqW P d t=some cts) :
  ∃ vs,HasRow cts vs∧RepP ren w zjZ (.agg vs) v:=by
 obtain ⟨fuel,hf⟩:=h
 obtain ⟨vs,rd⟩:=zuC (ren:=ren) d t cts hc _ _ _ hf
 have:∃ us:Array Value,v=.agg us:=by
  unfold z9 at hagg
  cases hu:P.underlying t with
  | none=>simp [hu] at hagg
  | some T=>
   simp only [Value.okWide,hu] at hv
   cases T <;> simp [hu] at hagg
   ·obtain ⟨us,h1,_⟩:=hv; exact ⟨us,h1⟩
   ·obtain ⟨us,h1,_⟩:=hv; exact ⟨us,h1⟩
 obtain ⟨us,rfl⟩:=this
 have rd:RdC ren w cts us.toList vs:=rd
 refine ⟨vs,rd.row,?_⟩
 have key:=RepP.agg (ren:=ren) (w:=w) (Wr:=zjZ) vs us.toList (by rw [rd.1,rd.2.1]) (fun i c u hc hu=>(rd.2.2 i u c _ hu hc (Wc (by rw [← rd.1]; exact (Wi.1 hu).1))).2.1) (fun u hu=>by
  obtain ⟨i,hi,rfl⟩:=W7 hu
  have h1:i<vs.length:=by rw [rd.2.1,← rd.1]; exact hi
  have h2:i<cts.length:=by rw [← rd.1]; exact hi
  exact (rd.2.2 i _ _ _ (Wc hi) (Wc h1) (Wc h2)).1)
 simpa using key
theorem zVH{r:Reach}{b0:Nat}{t:TypeId}{v:Value}{dd:DataW H}{p:List MemPlace}{ct:CT}{d:Nat}(hv1:v.cells=#[v])(h:DataW.Trod enc P w base spare held t v dd p)(hc:zqW P d t=some [ct]) :
  ∃ x,HasC ct x∧RepP ren w zjZ x v:=by
 obtain ⟨fuel,hf⟩:=h
 obtain ⟨vs,rd⟩:=zuC (ren:=ren) d t [ct] hc _ _ _ hf
 rw [hv1] at rd
 have hl:vs.length=1:=rd.2.1
 obtain ⟨x,rfl⟩:∃ x,vs=[x]:=by
  match vs,hl with
  | [x],_=>exact ⟨x,rfl⟩
 obtain ⟨q1,q2,q3⟩:=rd.2.2 0 v x ct rfl rfl rfl
 exact ⟨x,q3,q2⟩
theorem HasC.int_inv{k:IntKind}{v:V}(h:HasC (.int k) v):∃ n,v=.sc (.int k n)∧(Lit.int k n).wf=true:=by
 cases h with | int _ n h=>exact ⟨n,rfl,h⟩
theorem HasC.sl_inv{cs:List CT}{v:V}(h:HasC (.sl cs) v):∃ es,v=.sl cs.length es∧es.length≤maxLen∧∀ e∈es,HasRow cs e:=by
 cases h with | sl _ es hl h0 h=>exact ⟨es,rfl,hl,fun e he=>⟨h0 e he,h e he⟩⟩
end
def zDT:V→Bor→Option Bool:=fun v _=>match v with
 | .sc (.bool true)=>some true
 | _=>none
theorem zS5{v:V}{b:Bor}(h:zDT v b=some true):v=.sc (.bool true):=by
 unfold zDT at h
 split at h
 ·rfl
 ·cases h
end
section
def hi0(n:Nat):Nat:=n
def hi1(n:Nat):Nat:=hi0 n
def hi2(n:Nat):Nat:=hi1 n
def hi3(n:Nat):Nat:=hi2 n
def hi4(n:Nat):Nat:=hi3 n
def hi5(n:Nat):Nat:=hi4 n
def hi6(n:Nat):Nat:=hi5 n
def hi7(n:Nat):Nat:=hi6 n
def hi8(n:Nat):Nat:=hi7 n
def hi9(n:Nat):Nat:=hi8 n
def zZ3(n:Nat):Nat:=hi9 n
def z0g(n:Nat):Nat:=zZ3 n
def z0o(n:Nat):Nat:=z0g n
def zZW(n:Nat):Nat:=z0o n
def zZ4(n:Nat):Nat:=zZW n
def z0b(n:Nat):Nat:=zZ4 n
def z0k(n:Nat):Nat:=z0b n
def zZ1(n:Nat):Nat:=z0k n
def zZU(n:Nat):Nat:=zZ1 n
def zZ5(n:Nat):Nat:=zZU n
def zZV(n:Nat):Nat:=zZ5 n
def z0j(n:Nat):Nat:=zZV n
def z0f(n:Nat):Nat:=z0j n
def z0a(n:Nat):Nat:=z0f n
def zGm(n:Nat):Nat:=z0a n
section
variable {β:Type}
def chk(p:Prop)[inst:Decidable p](k:Option β):Option β:=(fun (_:Nat→Nat)=>match inst with
 | .isTrue _=>k
 | .isFalse _=>none) hi0
theorem zhc(p:Prop)[inst:Decidable p](k:Option β):chk p k=if p then k else none:=by
 cases inst <;> rfl
def ifb(t:Bool)(a b:Option β):Option β:=(fun (_:Nat→Nat)=>match t with
 | true=>a
 | false=>b) hi0
def lt{α:Type}(a:α)(k:α→Option β):Option β:=k a
def aI(kd:IntKind)(v:V)(k:Int→Option β):Option β:=match v with
 | .sc (.int kd' n)=>chk (kd'=kd) (k n)
 | _=>none
def zxv(v:V)(k:Int→Option β):Option β:=(fun (_:Nat→Nat)=>match v with
 | .sc (.int _ n)=>k n
 | _=>none) hi0
def aB(v:V)(k:Bool→Option β):Option β:=(fun (_:Nat→Nat)=>match v with
 | .sc (.bool b)=>k b
 | _=>none) hi0
def aS(v:V)(k:ByteArray→Option β):Option β:=(fun (_:Nat→Nat)=>match v with
 | .sc (.string s)=>k s
 | _=>none) hi0
def aL(sz:Nat)(v:V)(k:Ls→Option β):Option β:=match v with
 | .sl sz' es=>chk (sz'=sz) (k es)
 | _=>none
def aLd(sz:Nat)(v:V)(k:Ls→Option β):Option β:=match v with
 | .sl sz' es=>chk (sz'=sz) (k es)
 | .gs sz' es=>chk (sz'=sz) (k es)
 | _=>none
def aGw(sz:Nat)(v:V)(k:Ls→Option β):Option β:=match v with
 | .gs sz' es=>chk (sz'=sz) (k es)
 | _=>none
def aA(n:Nat)(v:V)(k:List V→Option β):Option β:=match v with
 | .agg cs=>chk (cs.length=n) (k cs)
 | _=>none
def aG(v:V)(k:List V→Option β):Option β:=(fun (_:Nat→Nat)=>match v with
 | .agg cs=>k cs
 | _=>none) hi0
def aGs(sz:Nat)(v:V)(k:Ls→Option β):Option β:=match v with
 | .gs sz' es=>chk (sz'=sz) (k es)
 | _=>none
def aP(id off:Nat)(v:V)(k:Option β):Option β:=match v with
 | .ptr i o=>chk (i=id∧o=off) (k)
 | _=>none
def aM(id:Nat)(v:V)(k:Option β):Option β:=match v with
 | .mp i=>chk (i=id) (k)
 | _=>none
def aO(id sz:Nat)(v:V)(k:Nat→Nat→Option β):Option β:=match v with
 | .own i o l s=>chk (i=id∧s=sz) (k o l)
 | _=>none
def aO0(id sz:Nat)(v:V)(k:Nat→Option β):Option β:=match v with
 | .own i o l s=>chk (i=id∧s=sz∧o=0) (k l)
 | _=>none
def aFp(n:Nat)(v:V)(k:List V→Option β):Option β:=match v with
 | .fp m cs=>chk (m=n) (k cs)
 | _=>none
def aV(u:Value)(v:V)(k:Option β):Option β:=match u,v with
 | .nilFunc,.sc .nilFunc=>k
 | .pointer none,.sc (.pointer none)=>k
 | .map none,.sc (.map none)=>k
 | _,_=>none
def zD5:List (Nat × Nat)→List V→Bool
 | [],[]=>true
 | (i,o)::r,.ptr a b::s=>Wf i a&&(Wf o b&&zD5 r s)
 | _,_=>false
def aF(f:Nat)(caps:List (Nat × Nat))(v:V)(k:Option β):Option β:=match v with
 | .fn g cs=>match Wf f g&&zD5 caps cs with
  | true=>k
  | false=>none
 | _=>none
def zdp(cs:List V)(off:Nat)(k:V→Option β):Option β:=match cs[off]? with
 | some v=>k v
 | none=>none
def zX(kb:List Bool)(cs:List V):List V:=cs.map (zlQ fun id=>!(kb.getD id false))
def cG(sz:Nat)(cs:List V)(off:Nat)(k:Ls→Option β):Option β:=zdp cs off fun v=>aGw sz v k
def idx(es:Ls)(j:Int)(k:List V→Option β):Option β:=chk (0≤j) (match es[j.toNat]? with
 | some c=>k c
 | none=>none)
def eqC(n:Nat)(a b:List V)(k:Bool→Option β):Option β:=chk (a.length=n∧b.length=n) (match zdI a b with
 | some r=>k r
 | none=>none)
def zJs(es:Ls)(k:ByteArray→Option β):Option β:=match zf6 es with
 | some l=>k ⟨l.toArray⟩
 | none=>none
def zX1(es fs:Ls)(k:Int→Option β):Option β:=match zf6 es with
 | some a=>match zf6 fs with
  | some b=>k (Lib.compareBytes a b)
  | none=>none
 | none=>none
def zcy(cs:List V)(k:List V→Option β):Option β:=match cs.mapM V.plain with
 | some vs=>k vs
 | none=>none
def zRC(cs:List V)(k:List V→Option β):Option β:=match cs.mapM V.refd with
 | some vs=>k vs
 | none=>none
def mAt(kd:Nat)(key:V)(es:Lm)(k:Option V→Option β):Option β:=match zlT kd key with
 | true=>match zzq key es with
  | some r=>k r
  | none=>none
 | false=>none
def zYo(kd:Nat)(key val:V)(es:Lm)(k:Lm→Option β):Option β:=match zlT kd key with
 | true=>match zMW key val es with
  | some r=>k r
  | none=>none
 | false=>none
def cI(kd:IntKind)(cs:List V)(off:Nat)(k:Int→Option β):Option β:=zdp cs off (fun v=>aI kd v k)
def cB(cs:List V)(off:Nat)(k:Bool→Option β):Option β:=zdp cs off (fun v=>aB v k)
def cS(cs:List V)(off:Nat)(k:ByteArray→Option β):Option β:=zdp cs off (fun v=>aS v k)
def cL(sz:Nat)(cs:List V)(off:Nat)(k:Ls→Option β):Option β:=zdp cs off (fun v=>aL sz v k)
def cLd(sz:Nat)(cs:List V)(off:Nat)(k:Ls→Option β):Option β:=zdp cs off (fun v=>aLd sz v k)
end
def zee(k:IntKind)(a b:Int):Int:=k.wrap (BitVec.ofInt k.bits a &&& BitVec.ofInt k.bits b).toNat
def ior(k:IntKind)(a b:Int):Int:=k.wrap (BitVec.ofInt k.bits a ||| BitVec.ofInt k.bits b).toNat
def zb3(k:IntKind)(a b:Int):Int:=k.wrap (BitVec.ofInt k.bits a ^^^ BitVec.ofInt k.bits b).toNat
def z0t(k:IntKind)(a b:Int):Int:=k.wrap (BitVec.ofInt k.bits a &&& ~~~ BitVec.ofInt k.bits b).toNat
def zMO(k:IntKind)(n:Int):Int:=k.wrap (BitVec.ofInt k.bits (if k.signed then -1 else k.max) ^^^ BitVec.ofInt k.bits n).toNat
def zde(k:IntKind)(a b:Int):Int:=k.wrap (a*2 ^ (min b.toNat k.bits))
def zb1(k:IntKind)(a b:Int):Int:=a.fdiv (2 ^ (min b.toNat k.bits))
def z0A(a b:Int):Int:=if b>a then b else a
def z0x(a b:Int):Int:=if b<a then b else a
inductive Sh where
 | any
 | int (k:IntKind)
 | bool
 | str
 | sl (sz:Nat)
 | gs (sz:Nat)
 | row (l:List Sh)
def asc{β:Type}(s:Sh)(v:V)(k:V→Option β):Option β:=match s with
 | .any=>k v
 | .int kd=>aI kd v (fun n=>k (.sc (.int kd n)))
 | .bool=>aB v (fun b=>k (.sc (.bool b)))
 | .str=>aS v (fun t=>k (.sc (.string t)))
 | .sl sz=>aL sz v (fun es=>k (.sl sz es))
 | .gs sz=>aGw sz v (fun es=>k (.gs sz es))
 | .row _=>none
def zU1{β:Type}(s:Sh)(v:V)(k:V→Option β):Option β:=match s with
 | .gs sz=>aGw sz v (fun es=>k (.gs sz es))
 | _=>k v
def zYH{β:Type}(s:Sh)(v:V)(k:V→Option β):Option β:=match s with
 | .any=>k v.dem
 | .int kd=>aI kd v (fun n=>k (.sc (.int kd n)))
 | .bool=>aB v (fun b=>k (.sc (.bool b)))
 | .str=>aS v (fun t=>k (.sc (.string t)))
 | .sl sz=>aLd sz v (fun es=>k (.sl sz es))
 | .gs sz=>aLd sz v (fun es=>k (.sl sz es))
 | .row _=>none
def zNi{β:Type}:List Sh→Nat→List V→(List V→Option β)→Option β
 | [],_,_,k=>k []
 | s::ss,i,cs,k=>zdp cs i fun v=>asc s v fun v=>zNi ss (i+1) cs fun r=>k (v::r)
def zDV{β:Type}(s:Sh)(cs:List V)(k:List V→Option β):Option β:=match s with
 | .row ss=>chk (cs.length=ss.length) (zNi ss 0 cs k)
 | _=>k cs
abbrev CBC:=∀ (β:Type),Nat→List V→Bor→(V→Bor→Option β)→Option β
section
variable {β:Type}
abbrev zlb(o:Option St)(κ:St→Option β):Option β:=match o with
 | some σ=>κ σ
 | none=>none
def ltV(v:Value)(k:Value→Option β):Option β:=match v with
 | .int kd n=>lt n fun n=>k (.int kd n)
 | v=>k v
def zVp:V→V
 | .gs sz _=>.gs sz []
 | .sl sz _=>.sl sz []
 | v=>v
def zQW(t:Bool)(a b:V)(k:V→Option β):Option β:=match a,b with
 | .sc (.bool x),.sc (.bool y)=>k (.sc (.bool (cond t x y)))
 | .sc (.int kd x),.sc (.int kd' y)=>chk (kd=kd') (lt (cond t x y) (fun n=>k (.sc (.int kd n))))
 | a,b=>ifb t (k a) (k b)
def zIH(σ:St):List (Nat × Nat × Src)→List V→(List V→Option β)→Option β
 | [],cs,k=>k cs
 | (off,n,x)::rest,cs,k=>match (x.get σ).plain with
  | some v=>chk (v.cells.length=n∧off+n≤cs.length) (zIH σ rest (yd cs off v.cells) k)
  | none=>none
def zCs(sh:Nat→Sh)(σ:St):List (Nat × Nat × Src)→List V→(List V→Option β)→Option β
 | [],cs,k=>k cs
 | (off,n,x)::rest,cs,k=>match x.get σ with
  | .agg us=>zDV (sh ((x.slot).getD 0)) us fun us=>chk (us.length=n∧off+n≤cs.length) (zCs sh σ rest (yd cs off us) k)
  | v=>match v.refd with
   | some v=>chk (v.cells.length=n∧off+n≤cs.length) (zCs sh σ rest (yd cs off v.cells) k)
   | none=>none
def zTM(op:BinOp)(x y:Value)(k:Value→Option β):Option β:=
 match op,x,y with
 | .shl,.int kd a,.int _ b=>chk (0≤b) (k (.int kd (kd.wrap (a*2 ^ (min b.toNat kd.bits)))))
 | .shr,.int kd a,.int _ b=>chk (0≤b) (k (.int kd (a.fdiv (2 ^ (min b.toNat kd.bits)))))
 | .quo,.int kd a,.int kd' b=>chk (kd=kd') (chk (b≠0) (k (.int kd (kd.wrap (a.tdiv b)))))
 | .rem,.int kd a,.int kd' b=>chk (kd=kd') (chk (b≠0) (k (.int kd (a.tmod b))))
 | op,x,y=>match ztN op x y with
  | some r=>k r
  | none=>none
def zDF(σ:St)(x:Option Src)(dflt:Nat)(most:Nat)(k:Nat→Option β):Option β:=
 match x with
 | none=>k dflt
 | some s=>zxv (s.get σ) fun i=>chk (0≤i∧i≤most) (k i.toNat)
def zt8(σ:St)(len:Nat)(lo hi mx:Option Src)(k:Nat→Nat→Nat→Option β):Option β:=
 zDF σ mx len len fun m=>zDF σ hi len m fun h=>zDF σ lo 0 h fun l=>k l h m
def zV7(l h m id off sz:Nat)(k:V→Option β):Option β:=ifb (decide (m=l)) (k (.gs sz [])) (k (.own id (off+l*sz) (h-l) sz))
def znH(b:List B)(v:V)(k:V→Option β):Option β:=match za0 b v with
 | some u=>k u
 | none=>none
def zHW(sh:Sh)(cs:List V)(off:Nat)(k:V→Option β):Option β:=zdp cs off (fun v=>asc sh v k)
def zSd(sh:Sh)(cs:List V)(off:Nat)(k:V→Option β):Option β:=zdp cs off (fun v=>zYH sh v k)
def zMm(nb:Nat)(σ:St)(dst:Option Nat)(pin:Bool)(v:V)(κ:St→Option β):Option β:=match v with
 | .fr sz es=>match pin with
  | true=>zlb (σ.putG nb dst true sz es) κ
  | false=>κ (σ.put dst (.gs sz es))
 | v=>zlb (σ.putR nb dst pin v) κ
def lc{α β:Type}(l:List α)(a:Option β)(b:α→List α→Option β):Option β:=match l with
 | []=>a
 | x::xs=>b x xs
def zKo(b:List B)(id:Nat)(κ:List B→Option β):Option β:=match b[id]? with
 | some (.live true cs)=>ifb cs.isEmpty (κ b) (κ (b.set id (.fz cs)))
 | _=>κ b
def zt1(σ:St):List (Src × Nat)→List B→(List B→Option β)→Option β
 | [],b,κ=>κ b
 | s::rest,b,κ=>match decide (2≤s.2) with
  | true=>zt1 σ rest b κ
  | false=>match zag (s.1.get σ) with
   | some id=>zKo b id fun b=>zt1 σ rest b κ
   | none=>zt1 σ rest b κ
def zQM(b:List B)(v:V)(k:V→Option β):Option β:=match v with
 | .own id off len sz=>match b[id]? with
  | some (.fz cs)=>k (.sl sz (zf sz len (cs.drop off)))
  | some (.live _ [])=>chk (len=0) (k (.sl sz []))
  | _=>none
 | v=>match v.plain with
  | some u=>k u
  | none=>none
def zRh(b:List B):List V→(List V→Option β)→Option β
 | [],k=>k []
 | v::vs,k=>zQM b v fun u=>zRh b vs fun us=>k (u::us)
def zig(nb:Nat):List Nat→St→(St→Option β)→Option β
 | [],σ,κ=>κ σ
 | d::fz,σ,κ=>match Nat.blt d 100000 with
  | true=>match σ.b[nb+d]? with
   | some (.live true cs)=>lc cs (zig nb fz { σ with b:=σ.b.set (nb+d) (.live true []) } κ) (fun c cs=>zig nb fz { σ with b:=σ.b.set (nb+d) (.fz (c::cs)) } κ)
   | _=>zig nb fz σ κ
  | false=>match σ.b[nb+(d-100000)]? with
   | some (.live false cs)=>lc cs (zig nb fz { σ with b:=σ.b.set (nb+(d-100000)) (.live false []) } κ) (fun c cs=>zcy (c::cs) fun vs=>zig nb fz { σ with b:=σ.b.set (nb+(d-100000)) (.fz vs) } κ)
   | some (.fz _)=>zig nb fz σ κ
   | _=>none
def frK(r:V)(k:V→Option β):Option β:=match r with
 | .gs sz es=>ifb (zKc es) (k (.fr sz es)) (k .junk)
 | .tup (.gs sz es::vs)=>match vs.all zMi with
  | true=>ifb (zKc es) (k (.tup (.fr sz es::vs))) (k (.tup (.junk::vs)))
  | false=>none
 | _=>none
def frD(d:∀ (β:Type),List V→Bor→(V→Bor→Option β)→Option β)(β:Type)(args:List V)(bor:Bor)(k:V→Bor→Option β):Option β:=match bor with
 | []=>match args.all zHx with
  | true=>d β args [] (fun r b=>match b with
   | []=>frK r (fun r'=>k r' [])
   | _=>none)
  | false=>none
 | _=>none
def zDP(cb:CBC)(nb:Nat)(σ:St)(dst:Option Nat)(pin:Bool)(f:Nat)(args:List V)(srcs:List (Src × Nat))(xs:List Nat)(κ:St→Option β):Option β:=
 zt1 σ srcs σ.b fun b1=>
 let σ1:St:={ σ with b:=b1 }
 let ids:=zak σ1.b args
 match ze6 σ1.b ids ids with
 | none=>none
 | some bor=>cb β f (args.map (zdQ (yM ids))) bor fun r bor'=>
  let ids':=ids++(xs.map (nb+·)).take (bor'.length-ids.length)
  chk ((bor'.take ids.length).map B.len=bor.map B.len)
   (match decide (bor'.length=ids'.length)&&(args.all (fun a=>(yE a).all ids.contains)&&(zHH r&&((zj9 r).all (fun k=>decide (k<ids'.length))&&(bor'.all (B.lend (Wy ids'.length))&&(ziI (bor'.take ids.length) bor&&((bor'.drop ids.length).all B.isRow&&zlI σ1.b nb xs)))))) with
   | true=>zMm nb { σ1 with b:=zar (fun k=>ids'.getD k 0) ids' bor' σ1.b } dst pin (zpI (fun k=>ids'.getD k 0) r) κ
   | false=>none)
def zaL(sh:Nat→Sh)(cb:CBC)(nb:Nat)(σ:St)(dst:Option Nat)(pin:Bool)(k:K)(κ:St→Option β):Option β:=
 match k with
 | .pick c a b=>aB (c.get σ) fun t=>zQW t (a.get σ).dem (b.get σ).dem fun v=>κ (σ.put dst v)
 | .build zero parts=>zIH σ parts zero fun cs=>κ (σ.put dst (.agg cs))
 | .buildSt zero parts=>zCs sh σ parts zero fun cs=>κ (σ.put dst (.st cs))
 | .nilT neg x=>match (x.get σ).dem with
  | .sl _ es=>match x with
   | .tmp t=>ifb es.isEmpty (lt { σ with t:=σ.t.set t (zVp (x.get σ)) } fun σ=>κ (σ.put dst .ub)) (κ (σ.put dst (.sc (.bool neg))))
   | .const _=>none
  | _=>none
 | .un op x=>match x.get σ with
  | .sc a=>match zRa op a with
   | some r=>ltV r fun r=>κ (σ.put dst (.sc r))
   | none=>none
  | _=>none
 | .conv k x=>zxv (x.get σ) fun n=>lt (k.wrap n) fun n=>κ (σ.put dst (.sc (.int k n)))
 | .adc sub x y c=>match x.get σ,y.get σ,c.get σ with
  | .sc (.int .u64 a),.sc (.int .u64 b),.sc (.int .u64 d)=>chk (d=0∨d=1) (lt (zJB sub a b d) fun s=>lt (zKd sub a b d) fun c=>κ (σ.put dst (.tup [.sc (.int .u64 s),.sc (.int .u64 c)])))
  | _,_,_=>none
 | .mm isMax x y=>match x.get σ,y.get σ with
  | .sc (.int k a),.sc (.int _ b)=>lt (if isMax then (if b>a then b else a) else (if b<a then b else a)) fun n=>κ (σ.put dst (.sc (.int k n)))
  | _,_=>none
 | .copy sz d s=>match d.get σ with
  | .own id off len sz1=>znH σ.b (s.get σ) fun u=>match u with
   | .sl sz2 es=>match σ.b[id]? with
    | some (.live true cs)=>chk (sz1=sz∧sz2=sz) (lt (yd cs off (es.take (min es.length len)).flatten) fun cs'=>κ ((σ.setB id (.live true cs')).put dst (.sc (.int .i64 ((min es.length len:Nat):Int)))))
    | _=>none
   | _=>none
  | _=>none
 | .box p x=>match x.get σ with
  | .st cs=>match p with
   | true=>none
   | false=>zlb (σ.newB nb dst (.live false cs) (fun id=>.ptr id 0)) κ
  | v=>match v.plain with
   | some v=>match p with
    | true=>zlb (σ.newB nb dst (.live true v.cells) (fun id=>.ptr id 0)) κ
    | false=>zDV (sh (dst.getD 0)) v.cells fun cs=>zlb (σ.newB nb dst (.live false cs) (fun id=>.ptr id 0)) κ
   | none=>none
 | .buildSlice sz n zero parts=>zIH σ parts (We n zero).flatten fun cs=>match decide (n=0∧pin=true) with
  | true=>κ (σ.put dst (.fr sz []))
  | false=>zlb (σ.putG nb dst pin sz (zf sz n cs)) κ
 | .bin op x y=>match x.get σ,y.get σ with
  | .sc a,.sc b=>zTM op a b fun r=>ltV r fun r=>κ (σ.put dst (.sc r))
  | _,_=>none
 | .eqAgg neg n x y=>match x.get σ,y.get σ with
  | .agg a,.agg b=>eqC n a b fun r=>κ (σ.put dst (.sc (.bool (if neg then !r else r))))
  | _,_=>none
 | .toStr x=>znH σ.b (x.get σ) fun v=>match v with
  | .sl 1 es=>zJs es fun s=>κ (σ.put dst (.sc (.string s)))
  | _=>none
 | .see x=>match x.get σ with
  | .own id off len sz=>match σ.b[id]? with
   | some (.fz cs)=>κ (σ.put dst (.sl sz (zf sz len (cs.drop off))))
   | some (.live true [])=>chk (len=0) (κ (σ.put dst (.sl sz [])))
   | _=>none
  | _=>none
 | .cmpB x y=>znH σ.b (x.get σ) fun u=>znH σ.b (y.get σ) fun v=>match u,v with
  | .sl 1 es,.sl 1 fs=>zX1 es fs fun n=>lt n fun n=>κ (σ.put dst (.sc (.int .i64 n)))
  | _,_=>none
 | .makeSlice sz bytes zero l c=>zxv (l.get σ) fun l=>zxv (c.get σ) fun c=>
  match pin with
  | true=>chk (0≤l∧l≤c∧c.toNat*bytes≤xf∧c≤xf) (zlb (σ.newB nb dst (.live true (We c.toNat zero).flatten) (fun id=>.own id 0 l.toNat sz)) κ)
  | false=>chk (0≤l∧l≤c∧c.toNat*bytes≤xf∧c≤xf) (zlb (σ.putG nb dst false sz (We l.toNat zero)) κ)
 | .sliceA n sz x lo hi mx=>zt8 σ n lo hi mx fun l h m=>
  match x.get σ with
  | .ptr id off=>match σ.b[id]? with
   | some (.live _ cs)=>chk (off+n*sz≤cs.length) (zV7 l h m id off sz fun v=>κ (σ.put dst v))
   | some (.fz cs)=>chk (off+n*sz≤cs.length) (ifb (decide (m=l)) (κ (σ.put dst (.gs sz []))) (κ (σ.put dst (.sl sz (zf sz (h-l) (cs.drop (off+l*sz)))))))
   | _=>none
  | .fp q cs=>chk (n*sz≤q) (κ (σ.put dst (.sl sz (zf sz (h-l) (cs.drop (l*sz))))))
  | _=>none
 | .sliceS sz x lo hi mx=>match (x.get σ).dem with
  | .sl sz' es=>zt8 σ es.length lo hi mx fun l h m=>
   chk (sz=sz') (match mx with
    | none=>κ (σ.put dst (.sl sz ((es.drop l).take (h-l))))
    | some _=>ifb (decide (m=l)) (κ (σ.put dst (.fr sz []))) (κ (σ.put dst (.sl sz ((es.drop l).take (h-l))))))
  | .own id off len sz'=>zt8 σ len lo hi mx fun l h m=>chk (sz=sz') (match mx with
    | none=>κ (σ.put dst (.own id (off+l*sz) (h-l) sz))
    | some _=>ifb (decide (m=l)) (κ (σ.put dst (.fr sz []))) (κ (σ.put dst .junk)))
  | .cut id off _ cap sz'=>match hi with
   | some _=>match mx with
    | none=>zt8 σ cap lo hi none fun l h _=>chk (sz=sz') (κ (σ.put dst (.own id (off+l*sz) (h-l) sz)))
    | some _=>none
   | none=>none
  | _=>none
 | .sliceC sz x hi=>match x.get σ with
  | .own id off len sz'=>match hi with
   | some _=>zt8 σ len none hi none fun _ h _=>chk (sz=sz') (κ (σ.put dst (.cut id off h len sz)))
   | none=>none
  | _=>none
 | .field agg o n x=>match x.get σ with
  | .agg cs=>match agg with
   | true=>κ (σ.put dst (.agg ((cs.drop o).take n)))
   | false=>zHW (sh (dst.getD 0)) cs o fun v=>κ (σ.put dst v)
  | .st cs=>match agg with
   | true=>none
   | false=>match cs[o]? with
    | some v=>κ (σ.put dst v)
    | none=>none
  | _=>none
 | .indexAddrA len sz x i=>zxv (i.get σ) fun j=>chk (0≤j∧j<len) (match x.get σ with
   | .ptr id off=>κ (σ.put dst (.ptr id (off+j.toNat*sz)))
   | .fp n cs=>chk (len*sz≤n) (κ (σ.put dst (.fp (n-j.toNat*sz) (cs.drop (j.toNat*sz)))))
   | _=>none)
 | .indexAddrS sz x i=>zxv (i.get σ) fun j=>match (x.get σ).dem with
   | .sl sz' es=>chk (sz=sz') (idx es j fun c=>κ (σ.put dst (.fp sz c)))
   | .own id off len sz'=>chk (sz=sz') (chk (0≤j∧j<len) (κ (σ.put dst (.ptr id (off+j.toNat*sz)))))
   | _=>none
 | .arrP n sz x=>match (x.get σ).dem with
   | .sl sz' es=>chk (sz=sz') (chk (0<n) (chk (n≤es.length) (κ (σ.put dst (.fp (n*sz) (es.take n).flatten)))))
   | .own id off len sz'=>chk (sz=sz') (chk (0<n) (chk (n≤len) (κ (σ.put dst (.ptr id off)))))
   | _=>none
 | .indexA agg len sz x i=>zxv (i.get σ) fun j=>chk (0≤j∧j<len) (match x.get σ with
   | .agg cs=>match agg with
    | true=>κ (σ.put dst (.agg ((cs.drop (j.toNat*sz)).take sz)))
    | false=>zHW (sh (dst.getD 0)) cs (j.toNat*sz) fun v=>κ (σ.put dst v)
   | _=>none)
 | .load agg n a take=>match a.get σ with
  | .ptr id off=>match σ.b[id]? with
   | some (.live p cs)=>match agg with
    | true=>chk (off+n≤cs.length) (match p with
     | true=>κ (σ.put dst (.agg ((cs.drop off).take n)))
     | false=>match take with
      | true=>zRC ((cs.drop off).take n) fun vs=>κ (σ.put dst (.st vs))
      | false=>zcy ((cs.drop off).take n) fun vs=>κ (σ.put dst (.agg vs)))
    | false=>match take with
     | true=>match p with
      | true=>none
      | false=>zdp cs off fun v=>zU1 (sh (dst.getD 0)) v fun v=>κ ((σ.setB id (.live p (cs.set off v.dem))).put dst v.tk)
     | false=>zSd (sh (dst.getD 0)) cs off fun v=>κ (σ.put dst v)
   | some (.fz cs)=>match agg with
    | true=>chk (off+n≤cs.length) (κ (σ.put dst (.agg ((cs.drop off).take n))))
    | false=>zHW (sh (dst.getD 0)) cs off fun v=>κ (σ.put dst v)
   | _=>none
  | .fp m cs=>match agg with
   | true=>chk (n≤m) (κ (σ.put dst (.agg (cs.take n))))
   | false=>zHW (sh (dst.getD 0)) cs 0 fun v=>κ (σ.put dst v)
  | _=>none
 | .store n a x=>match dst with
  | some _=>none
  | none=>match a.get σ with
   | .ptr id off=>match σ.b[id]? with
    | some (.live true cs)=>match (x.get σ).plain with
     | some v=>chk (v.cells.length=n∧off+n≤cs.length) (lt (yd cs off v.cells) fun cs'=>κ (σ.setB id (.live true cs')))
     | none=>none
    | some (.live false cs)=>match x.get σ with
     | .agg us=>zDV (sh ((x.slot).getD 0)) us fun us=>chk (us.length=n∧off+n≤cs.length) (κ (σ.setB id (.live false (yd cs off us))))
     | .st us=>chk (us.length=n∧off+n≤cs.length) (κ (σ.setB id (.live false (yd cs off us))))
     | .tup _=>none
     | .bx _ _=>none
     | .junk=>none
     | v=>chk (n=1∧off<cs.length) (κ ((σ.demote x).setB id (.live false (cs.set off v))))
    | _=>none
   | _=>none
 | .append sz bytes s x=>match s.get σ with
  | .gs sz1 es=>znH σ.b (x.get σ) fun u=>match u with
   | .sl sz2 es2=>chk (sz1=sz∧sz2=sz) (chk ((es.length+es2.length)*bytes≤xf∧es.length+es2.length≤xf) (match pin with
    | true=>match s,es with
     | .const _,[]=>zlb (σ.putG nb dst true sz es2) κ
     | _,_=>none
    | false=>lt (es++es2) fun es'=>κ ((σ.demote s).put dst (.gs sz es'))))
   | _=>none
  | .fr sz1 []=>znH σ.b (x.get σ) fun u=>match u with
   | .sl sz2 es2=>chk (sz1=sz∧sz2=sz) (chk ((0+es2.length)*bytes≤xf∧0+es2.length≤xf) (zlb ((σ.demote s).putG nb dst pin sz es2) κ))
   | _=>none
  | .own id off len sz1=>znH σ.b (x.get σ) fun u=>match u with
   | .sl sz2 es2=>match σ.b[id]? with
    | some (.live true cs)=>chk (sz1=sz∧sz2=sz∧off=0) (chk ((len+es2.length)*bytes≤xf∧len+es2.length≤xf∧(len+es2.length≠0∨cs.length=0)) (lt (cs.take (len*sz)++es2.flatten) fun cs'=>
     zlb ((σ.setB id (.dead cs.length)).newB nb dst (.live true cs') (fun id'=>.own id' 0 (len+es2.length) sz)) κ))
    | _=>none
   | _=>none
  | .cut id off len cap sz1=>znH σ.b (x.get σ) fun u=>match u with
   | .sl sz2 es2=>match σ.b[id]? with
    | some (.live true cs)=>match pin with
     | false=>chk (sz1=sz∧sz2=sz∧off=0) (chk (len+es2.length≤cap) (lt (yd cs (len*sz) es2.flatten) fun cs'=>κ ((σ.setB id (.live true cs')).put dst (.cut id 0 (len+es2.length) cap sz))))
     | true=>none
    | _=>none
   | _=>none
  | _=>none
 | .appendF sz bytes s x=>match pin with
  | true=>none
  | false=>match s.get σ with
   | .gs sz1 []=>znH σ.b (x.get σ) fun u=>match u with
    | .sl sz2 es2=>chk (sz1=sz∧sz2=sz) (chk ((0+es2.length)*bytes≤xf∧0+es2.length≤xf∧0+es2.length≠0) (κ ((σ.demote s).put dst (.fr sz es2))))
    | _=>none
   | .fr sz1 es=>znH σ.b (x.get σ) fun u=>match u with
    | .sl sz2 es2=>chk (sz1=sz∧sz2=sz) (chk ((es.length+es2.length)*bytes≤xf∧es.length+es2.length≤xf∧es.length+es2.length≠0) (lt (es++es2) fun es'=>κ ((σ.demote s).put dst (.fr sz es'))))
    | _=>none
   | _=>none
 | .pinC p sz a=>match a.get σ with
  | .ptr id off=>match σ.b[id]? with
   | some (.live false cs)=>zdp cs off fun v=>match v with
    | .fr sz1 es=>match dst with
     | some d=>chk (sz1=sz) (lt es.flatten fun cs'=>zlb ((σ.setB id (.live false (cs.set off (.own (nb+d) 0 es.length sz)))).newB nb dst (.live p cs') (fun id'=>.own id' 0 es.length sz)) κ)
     | none=>none
    | _=>none
   | _=>none
  | _=>none
 | .storeF n a x xs=>match dst with
  | some _=>none
  | none=>match a.get σ with
   | .ptr id off=>match σ.b[id]? with
    | some (.live false cs)=>match x.get σ with
     | .st us=>chk (us.length=n∧off+n≤cs.length) (κ (σ.setB id (.live false (yd cs off (frz xs us)))))
     | _=>none
    | _=>none
   | _=>none
 | .loadS n a=>match a.get σ with
  | .ptr id off=>match σ.b[id]? with
   | some (.live false cs)=>chk (off+n≤cs.length) (zRh σ.b ((cs.drop off).take n) fun vs=>κ (σ.put dst (.agg vs)))
   | _=>none
  | _=>none
 | .pinS p sz x=>match x.get σ with
  | .fr sz1 es=>match x,dst with
   | .tmp t,some d=>chk (sz1=sz∧t≠d) (lt es.flatten fun cs'=>zlb ((σ.put (some t) (.own (nb+d) 0 es.length sz)).newB nb dst (.live p cs') (fun id'=>.own id' 0 es.length sz)) κ)
   | _,_=>none
  | _=>none
 | .unpin x=>match pin with
  | true=>none
  | false=>match x.get σ with
   | .own id off len sz=>match σ.b[id]? with
    | some (.live true cs)=>chk (off=0∧len*sz≤cs.length∧cs.length≠0) (κ ((σ.setB id (.dead cs.length)).put dst (.gs sz (zf sz len cs))))
    | _=>none
   | .gs sz es=>κ ((σ.demote x).put dst (.gs sz es))
   | _=>none
 | .clear sz zero x=>match x.get σ with
  | .own id off len sz1=>match σ.b[id]? with
   | some (.live true cs)=>chk (sz1=sz) (lt (yd cs off (We len zero).flatten) fun cs'=>κ ((σ.setB id (.live true cs')).put dst (.tup [])))
   | _=>none
  | _=>none
 | .extract x i=>match x.get σ with
  | .tup vs=>match vs[i]?,x with
   | some v,.tmp t=>match vs.all zNl&&decide (dst≠some t) with
    | true=>match v.isHeld with
     | true=>zMm nb { σ with t:=σ.t.set t (.tup (vs.set i .junk)) } dst pin v κ
     | false=>match pin&&!v.isJunk with
      | true=>none
      | false=>κ (σ.put dst v.dem)
    | false=>none
   | _,_=>none
  | _=>none
 | .appendZ sz bytes zero s x=>match s.get σ with
  | .gs sz1 es=>zxv (x.get σ) fun n=>chk (sz1=sz) (chk (0≤n∧(es.length+n.toNat)*bytes≤xf∧es.length+n.toNat≤xf) (match pin with
   | true=>none
   | false=>lt (es++We n.toNat zero) fun es'=>κ ((σ.demote s).put dst (.gs sz es'))))
  | _=>none
 | .mlook kd ok zero x y=>match x.get σ with
  | .mp id=>match σ.b[id]? with
   | some (.mp es)=>mAt kd (y.get σ) es fun r=>asc (sh (dst.getD 0)) (r.getD zero) fun v=>match ok with
    | true=>κ (σ.put dst (.tup [v,.sc (.bool r.isSome)]))
    | false=>κ (σ.put dst v)
   | _=>none
  | _=>none
 | .mput kd x y z=>match dst with
  | some _=>none
  | none=>match x.get σ with
   | .mp id=>match σ.b[id]? with
    | some (.mp es)=>match (z.get σ).plain with
     | some v=>zYo kd (y.get σ) v es fun es'=>κ (σ.setB id (.mp es'))
     | none=>none
    | _=>none
   | _=>none
 | .call f args xs=>match args.mapM (zbo σ) with
  | some vs=>zDP cb nb σ dst pin f vs args xs κ
  | none=>none
 | .callv f args xs=>match f.get σ with
  | .fn g caps=>match args.mapM (zbo σ) with
   | some vs=>zDP cb nb σ dst pin g (vs++caps) args xs κ
   | none=>none
  | _=>none
 | k=>zlb (zd (fun _ _ _=>none) nb σ dst pin k) κ
def zD9(sh:Nat→Sh)(cb:CBC)(nb:Nat)(σ:St)(o:COp)(κ:St→St→Option β):Option β:=
 match o.guard with
 | none=>zaL sh cb nb σ o.dst o.pin o.k (κ σ)
 | some (j,want)=>match σ.t[j]? with
  | some (.sc (.bool b))=>match want with
   | true=>ifb b (lt { σ with t:=σ.t.set j (.sc (.bool true)) } fun σ=>zaL sh cb nb σ o.dst o.pin o.k (κ σ)) (lt { σ with t:=σ.t.set j (.sc (.bool false)) } fun σ=>κ σ (σ.put o.dst (.tup [])))
   | false=>ifb b (lt { σ with t:=σ.t.set j (.sc (.bool true)) } fun σ=>κ σ (σ.put o.dst (.tup []))) (lt { σ with t:=σ.t.set j (.sc (.bool false)) } fun σ=>zaL sh cb nb σ o.dst o.pin o.k (κ σ))
  | some (.tup [])=>κ σ (σ.put o.dst (.tup []))
  | _=>none
def zGf(sh:Nat→Sh)(cb:CBC)(nb:Nat):List COp→St→(St→Option β)→Option β
 | [],σ,κ=>κ σ
 | o::rest,σ,κ=>zD9 sh cb nb σ o fun _ σ'=>zGf sh cb nb rest σ' κ
def zOu(sh:Nat→Sh)(cb:CBC)(nb:Nat):List (COp × Fl)→St→(St→Option β)→Option β
 | [],σ,κ=>κ σ
 | (o,q)::rest,σ,κ=>zD9 sh cb nb σ o fun σr σ'=>match flT nb σr o q σ' with
  | true=>zOu sh cb nb rest σ' κ
  | false=>none
abbrev KT(β:Type):=Ex→St→Option β
def yr(rb:St→KT β→Option β)(K:KT β):KT β:=(fun (_:Nat→Nat)=>fun ex σ=>match ex with
 | .normal=>rb σ K
 | .exit j=>K (.exit j) σ
 | .ret=>K .ret σ) zGm
def zi(id:Nat)(K:KT β):KT β:=(fun (_:Nat→Nat)=>fun ex σ=>match ex with
 | .normal=>K .normal σ
 | .exit j=>match Wf j id with
  | true=>K .normal σ
  | false=>K (.exit j) σ
 | .ret=>K .ret σ) zGm
def zI(norm:St→St)(X:St→Option β)(K:KT β):KT β:=(fun (_:Nat→Nat)=>fun ex σ=>match ex with
 | .normal=>X (norm σ)
 | .exit j=>K (.exit j) σ
 | .ret=>K .ret σ) zGm
def yt(body:St→KT β→Option β)(norm:St→St):Nat→St→KT β→Option β
 | 0,_,_=>none
 | n+1,σ,K=>body σ (zI norm (fun σ=>yt body norm n σ K) K)
def onR(o:Option (Ex × St))(K:KT β):Option β:=(fun (_:Nat→Nat)=>match o with
 | some (ex,σ)=>K ex σ
 | none=>none) zGm
def xd(sh:Nat→Sh)(cb:CBC)(nb:Nat)(L:Nat):CC→St→KT β→Option β
 | .skip,σ,K=>K .normal σ
 | .reg ops,σ,K=>zGf sh cb nb ops σ (K .normal)
 | .dreg fz ops,σ,K=>zig nb fz σ fun σ=>zOu sh cb nb ops σ (K .normal)
 | .seq a b,σ,K=>xd sh cb nb L a σ (yr (xd sh cb nb L b) K)
 | .fork p c a b,σ,K=>xd sh cb nb L p σ (yr (fun σ K=>match c.get σ with
  | .ub=>match zMe (run (fun _ _ _=>none) nb L a σ) (run (fun _ _ _=>none) nb L b σ) with
   | true=>onR (run (fun _ _ _=>none) nb L b σ) K
   | false=>none
  | v=>aB v fun t=>ifb t (xd sh cb nb L a σ (yr (xd sh cb nb L b) K)) (xd sh cb nb L b σ K)) K)
 | .cond c a b,σ,K=>match c.get σ with
  | .ub=>match zIG (run (fun _ _ _=>none) nb L a σ) (run (fun _ _ _=>none) nb L b σ) with
   | true=>onR (run (fun _ _ _=>none) nb L b σ) K
   | false=>none
  | v=>aB v fun t=>ifb t (xd sh cb nb L a σ K) (xd sh cb nb L b σ K)
 | .block id a,σ,K=>xd sh cb nb L a σ (zi id K)
 | .loop kt kb a,σ,K=>yt (xd sh cb nb L a) (zM nb kt kb) L (zM nb kt kb σ) K
 | .mask kt kb,σ,K=>K .normal (zM nb kt kb σ)
 | .exit id,σ,K=>K (.exit id) σ
 | .ret,σ,K=>K .ret σ
def zt3(nb:Nat)(σ:St)(r:RV)(k:V→Option β):Option β:=match r with
 | .cellS _ _ _=>none
 | .tmp t=>match σ.t.getD t .junk with
  | .own id off len sz=>match decide (nb≤id) with
   | true=>match σ.b[id]? with
    | some (.live true cs)=>match decide (off=0∧0<sz) with
     | true=>chk (len≠0∨cs.length=0) (k (.fr sz (zf sz len cs)))
     | false=>none
    | _=>none
   | false=>k (.own id off len sz)
  | .ptr id off=>match σ.b[id]? with
   | some (.live p cs)=>match decide (off=0∧nb≤id) with
    | true=>chk (cs.length≠0) (match p with
     | true=>k (.bx p cs)
     | false=>zcy cs fun cs=>k (.bx false cs))
    | false=>none
   | _=>none
  | _=>match zaz nb σ (.tmp t) with
   | some v=>k v
   | none=>none
 | .tmpP t=>match σ.t.getD t .junk with
  | .own id off len sz=>match decide (nb≤id∧off=0∧0<sz) with
   | true=>match σ.b[id]? with
    | some (.live true cs)=>k (.gs sz (zf sz len cs))
    | _=>none
   | false=>none
  | _=>match zaz nb σ (.tmpP t) with
   | some v=>k v
   | none=>none
 | .cell t agg n=>match σ.t.getD t .junk with
  | .ptr id off=>match σ.b[id]? with
   | some (.live p cs)=>match agg with
    | true=>chk (off=0∧cs.length=n∧n≠0) (match p with
     | true=>k (.agg cs)
     | false=>zcy cs fun cs=>k (.agg cs))
    | false=>match decide (n=1∧off=0) with
     | true=>zdp cs 0 fun v=>match v.plain with
      | some v=>k v
      | none=>none
     | false=>none
   | _=>none
  | _=>none
def zGG(nb:Nat)(σ:St):List RV→(List V→Option β)→Option β
 | [],k=>k []
 | r::rs,k=>zt3 nb σ r fun v=>zGG nb σ rs fun vs=>k (v::vs)
def zzm(nb:Nat)(σ:St)(rs:List RV)(k:V→Option β):Option β:=
 match znf rs&&zgt (zjh nb σ rs) with
 | true=>match rs with
  | [r]=>zt3 nb σ r k
  | rs=>zGG nb σ rs fun vs=>k (.tup vs)
 | false=>none
def zC8(b:List B)(nb:Nat)(ids:List Nat):List Nat→(Bor→Option β)→Option β
 | [],k=>k []
 | id::rest,k=>match b[id]? with
  | some (.live p cs)=>match p with
   | true=>zC8 b nb ids rest fun l=>k (.live true cs::l)
   | false=>match decide (id<nb) with
    | true=>chk (cs.all (zb5 ids)=true) (zC8 b nb ids rest fun l=>k (.live false (cs.map (zdQ (yM ids)))::l))
    | false=>none
  | some (.mp es)=>match decide (id<nb) with
   | true=>zC8 b nb ids rest fun l=>k (.mp es::l)
   | false=>none
  | some (.dead n)=>match decide (id<nb) with
   | true=>zC8 b nb ids rest fun l=>k (.dead n::l)
   | false=>none
  | _=>none
def zy(nb:Nat)(rs:List RV)(k:V→Bor→Option β):KT β:=fun ex σ=>match ex with
 | .exit _=>none
 | _=>match zkb σ.t.length rs σ with
  | some (σ,rs)=>zzm nb σ rs fun r=>zC8 σ.b nb (zfm nb r) (zfm nb r) fun b=>match zgt (zfm nb r) with
   | true=>k (zpI (yM (zfm nb r)) r) b
   | false=>none
  | none=>none
def zJd:CC→Bool
 | .fork _ _ _ _=>true
 | .seq a b=>zJd a||zJd b
 | _=>false
def zMl(sh:Nat→Sh)(cb:CBC)(L:Nat)(c:CF)(args:List V)(bor:Bor)(k:V→Bor→Option β):Option β:=
 xd sh cb bor.length L c.body (enter c.ntmps args bor) (zy bor.length c.res k)
def zj(sh:Nat→Sh)(cb:CBC)(L:Nat)(c:CF)(args:List V)(bor:Bor)(k:V→Bor→Option β):Option β:=
 match zJd c.body,args with
 | true,.sl sz es::rest=>lc es (zMl sh cb L c (.sl sz []::rest) bor k) (fun x xs=>zMl sh cb L c (.sl sz (x::xs)::rest) bor k)
 | _,args=>zMl sh cb L c args bor k
end
def zSu(x:Nat):Nat→Nat→List Bool
 | 0,_=>[]
 | n+1,i=>x.testBit i::zSu x n (i+1)
def bl(x n:Nat):List Bool:=zSu x n 0
def xC:List (Nat × Sh)→Nat→Sh
 | [],_=>.any
 | (m,s)::r,n=>match Wf m n with
  | true=>s
  | false=>xC r n
def zUL:V→Nat
 | .sc (.int _ _)=>1
 | .sc (.bool _)=>2
 | .sc _=>3
 | .agg _=>4
 | .tup _=>5
 | .sl _ _=>6
 | .gs _ _=>7
 | .own _ _ _ _=>8
 | .ptr _ _=>9
 | .fp _ _=>10
 | .fn f _=>100+f
 | .mp _=>12
 | .st _=>13
 | _=>11
def zZJ:V→List Nat
 | .st cs=>13::cs.map zUL
 | v=>[zUL v]
def zBM:Bor→List Nat
 | []=>[]
 | .live true _::r=>20::zBM r
 | .live false cs::r=>21::(cs.map zUL++zBM r)
 | .mp _::r=>22::zBM r
 | _::r=>23::zBM r
def zSW:List Nat→List Nat→Bool
 | [],[]=>true
 | a::l,b::m=>Wf a b&&zSW l m
 | _,_=>false
def z0z(g:Nat)(tags:List Nat)(d:∀ (β:Type),List V→Bor→(V→Bor→Option β)→Option β)(c:CBC):CBC:=fun β f args bor k=>match Wf f g&&zSW tags (args.flatMap zZJ++zBM bor) with
 | true=>d β args bor k
 | false=>c β f args bor k
def noC:CBC:=fun _ _ _ _ _=>none
def xp(g:Nat)(d:∀ (β:Type),List V→Bor→(V→Bor→Option β)→Option β)(c:CBC):CBC:=fun β f args bor k=>match Wf f g with
 | true=>d β args bor k
 | false=>c β f args bor k
abbrev tq(n:Nat):Src:=.tmp n
abbrev oo(d:Nat)(k:K):COp:=⟨some d,false,none,k⟩
abbrev oz(k:K):COp:=⟨none,false,none,k⟩
abbrev KK(β:Type):=V→Bor→Option β
def rp:Nat→V→List V→List V
 | 0,_,l=>l
 | n+1,v,l=>v::rp n v l
def jn:Nat→List V→List V
 | 0,l=>l
 | n+1,l=>.junk::jn n l
def gn:Nat→List B→List B
 | 0,l=>l
 | n+1,l=>.gone::gn n l
abbrev Qf (n:Int):Src:=.const (.sc (.int .i64 n))
abbrev Qg (b:Bool):Src:=.const (.sc (.bool b))
abbrev Qh (d:Nat)(s:Src):COp:=oo d (.move s false)
abbrev Qi (d:Nat)(s:Src):COp:=oo d (.move s true)
abbrev Qj (d n:Nat)(s:Src):COp:=oo d (.load false n s false)
abbrev Qk (d n:Nat)(s:Src):COp:=oo d (.load true n s false)
abbrev Ql (d n:Nat)(s:Src):COp:=oo d (.fieldAddr n s)
abbrev Qm (n:Nat)(a x:Src):COp:=oz (.store n a x)
abbrev Qn (d n z:Nat)(a x:Src):COp:=oo d (.indexAddrA n z a x)
abbrev Qo (d z:Nat)(a x:Src):COp:=oo d (.indexAddrS z a x)
abbrev Qp (d:Nat)(o:BinOp)(a x:Src):COp:=oo d (.bin o a x)
abbrev Qq (d:Nat)(s:Src)(i:Nat):COp:=oo d (.pull s i)
abbrev Qr (d:Nat)(s:Src):COp:=oo d (.lenS s)
abbrev Qs (d f:Nat)(a:List (Src×Nat)):COp:=oo d (.call f a [])
abbrev Qt (d:Nat)(s:Src):COp:=oo d (.un .not s)
abbrev Qu (d:Nat)(k:IntKind)(s:Src):COp:=oo d (.conv k s)
abbrev Qv (d:Nat)(s:Src):COp:=oo d (.box true s)
abbrev Qw (n:Nat):Src×Nat:=(tq n,0)
end
section
section
variable {β:Type} {r:β}
theorem xq{p:Prop}[Decidable p]{k:Option β}(h:chk p k=some r):p∧k=some r:=by
 rw [zhc] at h; split at h
 ·exact ⟨‹_›,h⟩
 ·cases h
theorem zjl{t:Bool}{a b:Option β}(h:ifb t a b=some r):(t=true∧a=some r)∨(t=false∧b=some r):=by
 cases t
 ·exact .inr ⟨rfl,h⟩
 ·exact .inl ⟨rfl,h⟩
theorem zbv{kd:IntKind}{v:V}{k:Int→Option β}(h:aI kd v k=some r):∃ n,v=.sc (.int kd n)∧k n=some r:=by
 unfold aI at h; simp only [zhc] at h; split at h
 ·split at h
  ·rename_i e; subst e; exact ⟨_,rfl,h⟩
  ·cases h
 ·cases h
theorem zlp{v:V}{k:Int→Option β}(h:zxv v k=some r):∃ kd n,v=.sc (.int kd n)∧k n=some r:=by
 unfold zxv at h; split at h
 ·exact ⟨_,_,rfl,h⟩
 ·cases h
theorem zx5{v:V}{k:Bool→Option β}(h:aB v k=some r):∃ b,v=.sc (.bool b)∧k b=some r:=by
 unfold aB at h; split at h
 ·exact ⟨_,rfl,h⟩
 ·cases h
theorem zS1{v:V}{k:ByteArray→Option β}(h:aS v k=some r):∃ s,v=.sc (.string s)∧k s=some r:=by
 unfold aS at h; split at h
 ·exact ⟨_,rfl,h⟩
 ·cases h
theorem zlA{sz:Nat}{v:V}{k:Ls→Option β}(h:aL sz v k=some r):∃ es,v=.sl sz es∧k es=some r:=by
 unfold aL at h; simp only [zhc] at h; split at h
 ·split at h
  ·rename_i e; subst e; exact ⟨_,rfl,h⟩
  ·cases h
 ·cases h
theorem zPP{sz:Nat}{v:V}{k:Ls→Option β}(h:aLd sz v k=some r):∃ es,v.dem=.sl sz es∧k es=some r:=by
 unfold aLd at h; simp only [zhc] at h; split at h
 ·split at h
  ·rename_i e; subst e; exact ⟨_,rfl,h⟩
  ·cases h
 ·split at h
  ·rename_i e; subst e; exact ⟨_,rfl,h⟩
  ·cases h
 ·cases h
theorem zX5{v:V}{k:List V→Option β}(h:aG v k=some r):∃ cs,v=.agg cs∧k cs=some r:=by
 unfold aG at h; split at h
 ·exact ⟨_,rfl,h⟩
 ·cases h
theorem zkP{id off:Nat}{v:V}{k:Option β}(h:aP id off v k=some r):v=.ptr id off∧k=some r:=by
 unfold aP at h; simp only [zhc] at h; split at h
 ·split at h
  ·rename_i e; rw [e.1,e.2]; exact ⟨rfl,h⟩
  ·cases h
 ·cases h
theorem zHQ:∀ {caps:List (Nat × Nat)} {cs:List V},zD5 caps cs=true→cs=caps.map (fun p=>.ptr p.1 p.2)
 | [],[],_=>rfl
 | (i,o)::r,.ptr a b::s,h=>by
  simp only [zD5,Wh] at h
  rw [Wd h.1,Wd h.2.1,zHQ h.2.2]
  rfl
 | [],_::_,h=>by cases h
 | _::_,[],h=>by cases h
 | (i,o)::_,.sc _::_,h=>by cases h
 | (i,o)::_,.agg _::_,h=>by cases h
 | (i,o)::_,.tup _::_,h=>by cases h
 | (i,o)::_,.sl _ _::_,h=>by cases h
 | (i,o)::_,.gs _ _::_,h=>by cases h
 | (i,o)::_,.own _ _ _ _::_,h=>by cases h
 | (i,o)::_,.fp _ _::_,h=>by cases h
 | (i,o)::_,.fn _ _::_,h=>by cases h
 | (i,o)::_,.bx _ _::_,h=>by cases h
 | (i,o)::_,.fr _ _::_,h=>by cases h
 | (i,o)::_,.junk::_,h=>by cases h
theorem zCl{f:Nat}{caps:List (Nat × Nat)}{v:V}{k:Option β}(h:aF f caps v k=some r):v=.fn f (caps.map (fun p=>.ptr p.1 p.2))∧k=some r:=by
 unfold aF at h; split at h
 ·split at h
  ·rename_i e
   simp only [Wh] at e
   rw [Wd e.1,zHQ e.2]
   exact ⟨rfl,h⟩
  ·cases h
 ·cases h
theorem zlM{cs:List V}{off:Nat}{k:V→Option β}(h:zdp cs off k=some r):∃ v,cs[off]?=some v∧k v=some r:=by
 unfold zdp at h; split at h
 ·exact ⟨_,‹_›,h⟩
 ·cases h
theorem zVO{es:Ls}{j:Int}{k:List V→Option β}(h:idx es j k=some r):0≤j∧∃ c,es[j.toNat]?=some c∧k c=some r:=by
 unfold idx at h; simp only [zhc] at h; split at h
 ·split at h
  ·exact ⟨‹_›,_,‹_›,h⟩
  ·cases h
 ·cases h
theorem zWD{n:Nat}{a b:List V}{k:Bool→Option β}(h:eqC n a b k=some r):(a.length=n∧b.length=n)∧∃ t,zdI a b=some t∧k t=some r:=by
 unfold eqC at h; simp only [zhc] at h; split at h
 ·split at h
  ·exact ⟨‹_›,_,‹_›,h⟩
  ·cases h
 ·cases h
theorem zTB{es:Ls}{k:ByteArray→Option β}(h:zJs es k=some r):∃ l,zf6 es=some l∧k ⟨l.toArray⟩=some r:=by
 unfold zJs at h; split at h
 ·exact ⟨_,‹_›,h⟩
 ·cases h
theorem zxy{cs:List V}{k:List V→Option β}(h:zcy cs k=some r):∃ vs,cs.mapM V.plain=some vs∧k vs=some r:=by
 unfold zcy at h; split at h
 ·exact ⟨_,‹_›,h⟩
 ·cases h
theorem zR2{cs:List V}{k:List V→Option β}(h:zRC cs k=some r):∃ vs,cs.mapM V.refd=some vs∧k vs=some r:=by
 unfold zRC at h
 split at h
 ·exact ⟨_,‹_›,h⟩
 ·cases h
theorem zdm{o:Option St}{κ:St→Option β}(h:zlb o κ=some r):∃ σ,o=some σ∧κ σ=some r:=by
 unfold zlb at h; split at h
 ·exact ⟨_,rfl,h⟩
 ·cases h
theorem zfY{b:List B}{v:V}{k:V→Option β}(h:znH b v k=some r):∃ u,za0 b v=some u∧k u=some r:=by
 unfold znH at h; split at h
 ·exact ⟨_,‹_›,h⟩
 ·cases h
theorem zP7{sz:Nat}{v:V}{k:Ls→Option β}(h:aGw sz v k=some r):∃ es,v=.gs sz es∧k es=some r:=by
 unfold aGw at h
 split at h
 ·obtain ⟨e,h2⟩:=xq h; subst e; exact ⟨_,rfl,h2⟩
 ·cases h
theorem zTx{s:Sh}{v:V}{k:V→Option β}(h:zU1 s v k=some r):k v=some r:=by
 unfold zU1 at h
 split at h
 ·obtain ⟨es,e,h'⟩:=zP7 h; subst e; exact h'
 ·exact h
theorem zJS{s:Sh}{v:V}{k:V→Option β}(h:asc s v k=some r):k v=some r:=by
 cases s with
 | any=>exact h
 | int kd=>obtain ⟨n,e,h'⟩:=zbv h; subst e; exact h'
 | bool=>obtain ⟨n,e,h'⟩:=zx5 h; subst e; exact h'
 | str=>obtain ⟨n,e,h'⟩:=zS1 h; subst e; exact h'
 | sl sz=>obtain ⟨n,e,h'⟩:=zlA h; subst e; exact h'
 | gs sz=>obtain ⟨n,e,h'⟩:=zP7 h; subst e; exact h'
 | row l=>cases h
theorem zUb{s:Sh}{v:V}{k:V→Option β}(h:zYH s v k=some r):k v.dem=some r:=by
 cases s with
 | any=>exact h
 | int kd=>obtain ⟨n,e,h'⟩:=zbv h; subst e; exact h'
 | bool=>obtain ⟨n,e,h'⟩:=zx5 h; subst e; exact h'
 | str=>obtain ⟨n,e,h'⟩:=zS1 h; subst e; exact h'
 | sl sz=>obtain ⟨n,e,h⟩:=zPP h; rw [e]; exact h
 | gs sz=>obtain ⟨n,e,h⟩:=zPP h; rw [e]; exact h
 | row l=>cases h
theorem zIM:∀ {ss:List Sh} {i:Nat} {cs:List V} {k:List V→Option β},zNi ss i cs k=some r→i+ss.length=cs.length→k (cs.drop i)=some r
 | [],i,cs,k,h,hl=>by
  rw [List.drop_of_length_le (by simp at hl; omega)]
  exact h
 | s::ss,i,cs,k,h,hl=>by
  obtain ⟨v,e,h⟩:=zlM h
  have h:=zIM (zJS h) (by simp at hl; omega)
  obtain ⟨hi,rfl⟩:=Wi.1 e
  rw [List.drop_eq_getElem_cons hi]
  exact h
theorem zxe{s:Sh}{cs:List V}{k:List V→Option β}(h:zDV s cs k=some r):k cs=some r:=by
 cases s with
 | row ss=>
  obtain ⟨hl,h⟩:=xq h
  have:=zIM h (by omega)
  simpa using this
 | _=>exact h
theorem zvN{s:Sh}{cs:List V}{off:Nat}{k:V→Option β}(h:zHW s cs off k=some r):∃ v,cs[off]?=some v∧k v=some r:=by
 obtain ⟨v,e,h⟩:=zlM h; exact ⟨v,e,zJS h⟩
theorem zRH{s:Sh}{cs:List V}{off:Nat}{k:V→Option β}(h:zSd s cs off k=some r):∃ v,cs[off]?=some v∧k v.dem=some r:=by
 obtain ⟨v,e,h⟩:=zlM h; exact ⟨v,e,zUb h⟩
theorem zPK{v:Value}{k:Value→Option β}(h:ltV v k=some r):k v=some r:=by
 cases v <;> exact h
theorem zR4{t:Bool}{a b:V}{k:V→Option β}(h:zQW t a b k=some r):k (if t then a else b)=some r:=by
 unfold zQW at h; simp only [zhc] at h
 split at h
 ·cases t <;> exact h
 ·split at h
  ·rename_i e; subst e; cases t <;> exact h
  ·cases h
 ·rcases zjl h with ⟨rfl,h⟩ | ⟨rfl,h⟩ <;> exact h
theorem zDc{σ:St}:∀ {ps:List (Nat × Nat × Src)} {cs:List V} {k:List V→Option β},zIH σ ps cs k=some r→∃ cs',zcs σ ps cs=some cs'∧k cs'=some r
 | [],cs,k,h=>⟨cs,rfl,h⟩
 | (off,n,x)::ps,cs,k,h=>by
  unfold zIH at h
  split at h
  ·rename_i v hv
   obtain ⟨hc,h⟩:=xq h
   obtain ⟨cs',e,h⟩:=zDc h
   refine ⟨cs',?_,h⟩
   simp only [zcs,hv,Wb,QT,hc,and_self,if_true]
   exact e
  ·cases h
theorem zz3{sh:Nat→Sh}{σ:St}:∀ {ps:List (Nat × Nat × Src)} {cs:List V} {k:List V→Option β},zCs sh σ ps cs k=some r→∃ cs',zfa σ ps cs=some cs'∧k cs'=some r
 | [],cs,k,h=>⟨cs,rfl,h⟩
 | (off,n,x)::ps,cs,k,h=>by
  unfold zCs at h
  split at h
  ·rename_i us hx
   have h:=zxe h
   obtain ⟨hc,h⟩:=xq h
   obtain ⟨cs',e,h⟩:=zz3 h
   refine ⟨cs',?_,h⟩
   simp only [zfa,hx,V.refd,V.plain,V.cells,Wb,QT,hc,and_self,if_true]
   exact e
  ·split at h
   ·rename_i v hv
    obtain ⟨hc,h⟩:=xq h
    obtain ⟨cs',e,h⟩:=zz3 h
    refine ⟨cs',?_,h⟩
    simp only [zfa,hv,Wb,QT,hc,and_self,if_true]
    exact e
   ·cases h
theorem zUO{op:BinOp}{x y:Value}{k:Value→Option β}(h:zTM op x y k=some r):∃ z,ztN op x y=some z∧k z=some r:=by
 unfold zTM at h
 split at h
 ·obtain ⟨hc,h⟩:=xq h
  exact ⟨_,by simp only [ztN]; rw [if_neg (by omega)],h⟩
 ·obtain ⟨hc,h⟩:=xq h
  exact ⟨_,by simp only [ztN]; rw [if_neg (by omega)],h⟩
 ·obtain ⟨e,h2⟩:=xq h
  clear h
  subst e
  obtain ⟨hc,h⟩:=xq h2
  exact ⟨_,by simp [ztN,hc],h⟩
 ·obtain ⟨e,h2⟩:=xq h
  clear h
  subst e
  obtain ⟨hc,h⟩:=xq h2
  exact ⟨_,by simp [ztN,hc],h⟩
 ·split at h
  ·exact ⟨_,‹_›,h⟩
  ·cases h
theorem zzB{σ:St}{x:Option Src}{dflt most:Nat}{k:Nat→Option β}(h:zDF σ x dflt most k=some r):∃ n,zpq σ x dflt most=some n∧k n=some r:=by
 unfold zDF at h
 split at h
 ·exact ⟨_,rfl,h⟩
 ·obtain ⟨kd,n,e,h⟩:=zlp h
  obtain ⟨hc,h⟩:=xq h
  exact ⟨_,by simp [zpq,e,V.int?,hc],h⟩
theorem znh{σ:St}{len:Nat}{lo hi mx:Option Src}{k:Nat→Nat→Nat→Option β}(h:zt8 σ len lo hi mx k=some r):∃ l hh m,zic σ len lo hi mx=some (l,hh,m)∧k l hh m=some r:=by
 obtain ⟨m,e1,h⟩:=zzB h
 obtain ⟨hh,e2,h⟩:=zzB h
 obtain ⟨l,e3,h⟩:=zzB h
 exact ⟨l,hh,m,by simp [zic,e1,e2,e3],h⟩
end
def znA(c:CBC)(cb:CB):Prop:=∀ (β:Type) (f:Nat) (args:List V) (bor:Bor) (k:V→Bor→Option β) (r:β),c β f args bor k=some r→∃ v b,cb f args bor=some (v,b)∧k v b=some r
section
variable {β:Type} {r:β} {c:CBC} {cb:CB} {sh:Nat→Sh} {nb L:Nat}
theorem zNH{σ:St}{dst:Option Nat}{pin:Bool}{v:V}{κ:St→Option β}(h:zMm nb σ dst pin v κ=some r):∃ σ',σ.putR nb dst pin v=some σ'∧κ σ'=some r:=by
 cases v with
 | fr sz es=>
  cases pin with
  | true=>
   simp only [zMm] at h
   obtain ⟨σ',e,h⟩:=zdm h
   exact ⟨σ',by simp only [St.putR]; exact e,h⟩
  | false=>exact ⟨_,by simp only [St.putR,St.putG,WP,if_false],h⟩
 | _=>exact zdm h
theorem zQK(b:List B)(id:Nat)(κ:List B→Option β):zKo b id κ=κ (xV b id):=by
 unfold zKo xV
 split
 ·rename_i cs h
  cases cs with
  | nil=>simp [ifb,h]
  | cons c cs=>simp [ifb,h]
 ·rename_i h
  split
  ·rename_i c cs h2; exact absurd h2 (h _)
  ·rfl
theorem ztS(σ:St):∀ (srcs:List (Src × Nat)) (b:List B) (κ:List B→Option β),zt1 σ srcs b κ=κ (zo σ srcs b)
 | [],b,κ=>rfl
 | s::rest,b,κ=>by
  unfold zt1 zo
  by_cases h:2≤s.2
  ·rw [if_pos h]; simp only [h,decide_true]; exact ztS σ rest b κ
  ·rw [if_neg h]; simp only [h,decide_false]
   cases zag (s.1.get σ) with
   | none=>exact ztS σ rest b κ
   | some id=>simp only [zQK]; exact ztS σ rest _ κ
theorem zLo{b:List B}{i:Nat}{x:B}(hb:b[i]?=some x):b.set i x=b:=by
 apply List.ext_getElem?
 intro k
 rw [List.getElem?_set]
 split
 ·rename_i hi; subst hi
  rw [hb,if_pos (Wi.1 hb).1]
 ·rfl
theorem ziP(nb:Nat){r:β}:∀ (fz:List Nat) (σ:St) (κ:St→Option β),zig nb fz σ κ=some r→κ (znt nb fz σ)=some r
 | [],σ,κ,h=>h
 | d::fz,σ,κ,h=>by
  unfold zig at h
  unfold znt
  cases hd:Nat.blt d 100000 with
  | true=>
   rw [hd] at h
   simp only at h ⊢
   split at h
   ·rename_i cs hb
    cases cs with
    | nil=>
     have e:xV σ.b (nb+d)=σ.b:=by unfold xV; rw [hb]
     have h:zig nb fz { σ with b:=σ.b.set (nb+d) (.live true []) } κ=some r:=h
     rw [zLo hb] at h
     rw [e]; exact ziP nb fz _ κ h
    | cons c cs=>
     have e:xV σ.b (nb+d)=σ.b.set (nb+d) (.fz (c::cs)):=by unfold xV; rw [hb]
     have h:zig nb fz { σ with b:=σ.b.set (nb+d) (.fz (c::cs)) } κ=some r:=h
     rw [e]; exact ziP nb fz _ κ h
   ·rename_i hb
    have e:xV σ.b (nb+d)=σ.b:=by
     unfold xV
     split
     ·rename_i c cs h2; exact absurd h2 (hb _)
     ·rfl
    rw [e]; exact ziP nb fz _ κ h
  | false=>
   rw [hd] at h
   simp only at h ⊢
   split at h
   ·rename_i cs hb
    cases cs with
    | nil=>
     have e:zcd σ.b (nb+(d-100000))=σ.b:=by unfold zcd; rw [hb]
     have h:zig nb fz { σ with b:=σ.b.set (nb+(d-100000)) (.live false []) } κ=some r:=h
     rw [zLo hb] at h
     rw [e]; exact ziP nb fz _ κ h
    | cons c cs=>
     have h:zcy (c::cs) (fun vs=>zig nb fz { σ with b:=σ.b.set (nb+(d-100000)) (.fz vs) } κ)=some r:=h
     unfold zcy at h
     split at h
     ·rename_i vs hvs
      have e:zcd σ.b (nb+(d-100000))=σ.b.set (nb+(d-100000)) (.fz vs):=by unfold zcd; rw [hb]; simp only [hvs]
      rw [e]; exact ziP nb fz _ κ h
     ·cases h
   ·rename_i vs hb
    have e:zcd σ.b (nb+(d-100000))=σ.b:=by unfold zcd; rw [hb]
    rw [e]; exact ziP nb fz _ κ h
   ·cases h
theorem zRZ{b:List B}{v:V}{k:V→Option β}{r:β}(h:zQM b v k=some r):∃ u,zqC b v=some u∧k u=some r:=by
 unfold zQM at h
 split at h
 ·rename_i id off len sz
  split at h
  ·rename_i cs hb; exact ⟨_,by simp only [zqC,hb],h⟩
  ·rename_i hb
   obtain ⟨h0,h⟩:=xq h
   exact ⟨_,by simp only [zqC,hb]; rw [if_pos h0],h⟩
  ·cases h
 ·rename_i hn
  split at h
  ·rename_i u hu
   refine ⟨u,?_,h⟩
   cases v <;> first | exact hu | exact absurd rfl (hn _ _ _ _)
  ·cases h
theorem zLe{b:List B}{r:β}:∀ {vs:List V} {k:List V→Option β},zRh b vs k=some r→∃ us,vs.mapM (zqC b)=some us∧k us=some r
 | [],k,h=>⟨[],rfl,h⟩
 | v::vs,k,h=>by
  obtain ⟨u,e,h⟩:=zRZ h
  obtain ⟨us,e2,h⟩:=zLe h
  exact ⟨u::us,by simp [List.mapM_cons,e,e2],h⟩
theorem zIz(hc:znA c cb){σ:St}{dst:Option Nat}{pin:Bool}{f:Nat}{args:List V}{srcs:List (Src × Nat)}{xs:List Nat}{κ:St→Option β}(h:zDP c nb σ dst pin f args srcs xs κ=some r):∃ σ',zea cb nb σ dst pin f args srcs xs=some σ'∧κ σ'=some r:=by
 unfold zDP at h
 rw [ztS] at h
 simp only at h
 split at h
 ·cases h
 ·rename_i bor hb
  obtain ⟨v,b,e,h⟩:=hc _ _ _ _ _ _ h
  obtain ⟨hl,h⟩:=xq h
  split at h
  ·rename_i ht
   obtain ⟨σ',e2,h⟩:=zNH h
   refine ⟨σ',?_,h⟩
   simp only [Wh,decide_eq_true_eq] at ht
   obtain ⟨t1,t2,t3,t4,t5,t6,t7,t8⟩:=ht
   unfold zea
   simp only [hb,Wb,QT,e]
   rw [if_pos ⟨hl,t1,t2,t3,t4,t5,t6,t7,t8⟩]
   exact e2
  ·cases h
theorem zWH{σ:St}{dst:Option Nat}{pin:Bool}{k:K}{κ:St→Option β}(hk:zd (fun _ _ _=>none) nb σ dst pin k=zd cb nb σ dst pin k)(h:zlb (zd (fun _ _ _=>none) nb σ dst pin k) κ=some r):∃ σ',zd cb nb σ dst pin k=some σ'∧κ σ'=some r:=by
 obtain ⟨σ',e,h⟩:=zdm h
 exact ⟨σ',by rw [← hk]; exact e,h⟩
theorem St.set_same{σ:St}{j:Nat}{v:V}(h:σ.t[j]?=some v):({ σ with t:=σ.t.set j v }:St)=σ:=by
 have:σ.t.set j v=σ.t:=by
  apply List.ext_getElem?
  intro i
  rw [List.getElem?_set]
  split
  ·rename_i e; subst e
   split
   ·exact h.symm
   ·rename_i hlt
    rw [List.getElem?_eq_none (by omega)]
  ·rfl
 rw [this]
theorem zF8(hc:znA c cb){σ:St}{dst:Option Nat}{pin:Bool}{k:K}{κ:St→Option β}(h:zaL sh c nb σ dst pin k κ=some r):∃ σ',zd cb nb σ dst pin k=some σ'∧κ σ'=some r:=by
 cases k with
 | pick c a b=>
  obtain ⟨t,e,h⟩:=zx5 h
  exact ⟨_,by simp only [zd,zk,e,V.bool?]; rfl,by have:=zR4 h; cases t <;> exact this⟩
 | build zero parts=>
  obtain ⟨cs,e,h⟩:=zDc h
  exact ⟨_,by simp only [zd,zk,e]; rfl,h⟩
 | buildSt zero parts=>
  obtain ⟨cs,e,h⟩:=zz3 h
  exact ⟨_,by simp only [zd,zk,e]; rfl,h⟩
 | box p x=>
  simp only [zaL] at h
  split at h
  ·rename_i cs hx
   cases p with
   | true=>cases h
   | false=>
    obtain ⟨σ',e,h⟩:=zdm h
    exact ⟨σ',by simp only [zd,hx,WP,if_false]; exact e,h⟩
  ·rename_i hx
   split at h
   ·rename_i v hv
    have hk:∀ p,zd cb nb σ dst pin (.box p x)=σ.newB nb dst (.live p v.cells) (fun id=>.ptr id 0):=by
     intro p
     cases hxx:x.get σ with
     | st cs=>exact absurd hxx (hx cs)
     | _=>rw [hxx] at hv; simp only [zd,hxx,hv]
    cases p with
    | true=>
     obtain ⟨σ',e,h⟩:=zdm h
     exact ⟨σ',by rw [hk]; exact e,h⟩
    | false=>
     obtain ⟨σ',e,h⟩:=zdm (zxe h)
     exact ⟨σ',by rw [hk]; exact e,h⟩
   ·cases h
 | nilT neg x=>
  simp only [zaL] at h
  split at h
  ·rename_i sz es hx
   split at h
   ·rename_i t
    rcases zjl h with ⟨hq,h⟩ | ⟨hq,h⟩
    ·have he:es=[]:=by simpa using hq
     subst he
     have hget:∃ v,σ.t[t]?=some v∧Src.get σ (.tmp t)=v∧zVp v=v:=by
      simp only [Src.get,List.getD_eq_getElem?_getD] at hx ⊢
      cases ht:σ.t[t]? with
      | none=>rw [ht] at hx; simp [V.dem] at hx
      | some v=>
       rw [ht] at hx
       refine ⟨v,rfl,rfl,?_⟩
       have hx:v.dem=.sl sz []:=hx
       match v,hx with
       | .gs a es,hx=>
        have:es=[]:=by simp [V.dem] at hx; exact hx.2
        rw [this]; rfl
       | .sl a es,hx=>
        have:es=[]:=by simp [V.dem] at hx; exact hx.2
        rw [this]; rfl
       | .tup [],hx=>rfl
       | .tup (_::_),hx=>rfl
       | .sc _,hx=>rfl
       | .agg _,hx=>rfl
       | .own _ _ _ _,hx=>rfl
       | .ptr _ _,hx=>rfl
       | .fp _ _,hx=>rfl
       | .fn _ _,hx=>rfl
       | .bx _ _,hx=>rfl
       | .fr _ _,hx=>rfl
       | .ub,hx=>rfl
       | .junk,hx=>rfl
     obtain ⟨v,g1,g2,g3⟩:=hget
     simp only [lt] at h
     rw [g2,g3,St.set_same g1] at h
     exact ⟨_,by simp only [zd,zk,hx]; rfl,h⟩
    ·exact ⟨_,by simp only [zd,zk,hx,hq]; rfl,h⟩
   ·cases h
  ·cases h
 | un op x=>
  simp only [zaL] at h
  split at h
  ·rename_i a ha
   split at h
   ·rename_i z hz
    exact ⟨_,by simp only [zd,zk,ha,hz]; rfl,zPK h⟩
   ·cases h
  ·cases h
 | conv k x=>
  obtain ⟨kd,n,e,h⟩:=zlp h
  exact ⟨_,by simp only [zd,zk,e,V.int?]; rfl,h⟩
 | adc s x y c=>
  simp only [zaL] at h
  split at h
  ·rename_i a b d ha hb hd
   obtain ⟨h0,h⟩:=xq h
   exact ⟨_,by simp only [zd,zk,ha,hb,hd,if_pos h0]; rfl,h⟩
  ·cases h
 | mm isMax x y=>
  simp only [zaL] at h
  split at h
  ·rename_i k a k' b ha hb
   exact ⟨_,by simp only [zd,zk,ha,hb]; rfl,h⟩
  ·cases h
 | copy sz d s=>
  simp only [zaL] at h
  split at h
  ·rename_i id off len sz1 hd
   obtain ⟨u,e,h⟩:=zfY h
   split at h
   ·rename_i sz2 es
    split at h
    ·rename_i cs hb
     obtain ⟨hc,h⟩:=xq h
     exact ⟨_,by simp only [zd,hd,e,hb]; rw [if_pos hc],h⟩
    ·cases h
   ·cases h
  ·cases h
 | buildSlice sz n zero parts=>
  obtain ⟨cs,e,h⟩:=zDc h
  split at h
  ·rename_i hc
   exact ⟨_,by simp only [zd,e,Wb,QT]; rw [if_pos (of_decide_eq_true hc)],h⟩
  ·rename_i hc
   obtain ⟨σ',e2,h⟩:=zdm h
   exact ⟨σ',by simp only [zd,e,Wb,QT]; rw [if_neg (of_decide_eq_false hc)]; exact e2,h⟩
 | bin op x y=>
  simp only [zaL] at h
  split at h
  ·rename_i a b ha hb
   obtain ⟨z,e,h⟩:=zUO h
   exact ⟨_,by simp only [zd,zk,ha,hb,e]; rfl,zPK h⟩
  ·cases h
 | eqAgg neg n x y=>
  simp only [zaL] at h
  split at h
  ·rename_i a b ha hb
   obtain ⟨hl,t,e,h⟩:=zWD h
   exact ⟨_,by simp only [zd,zk,ha,hb,hl,and_self,if_true,e]; rfl,h⟩
  ·cases h
 | toStr x=>
  obtain ⟨u,e,h⟩:=zfY h
  split at h
  ·obtain ⟨l,e2,h⟩:=zTB h
   exact ⟨_,by simp only [zd,zk,e,e2]; rfl,h⟩
  ·cases h
 | see x=>
  simp only [zaL] at h
  split at h
  ·rename_i id off len sz hx
   split at h
   ·rename_i cs hb; exact ⟨_,by simp only [zd,zk,hx,hb]; rfl,h⟩
   ·rename_i hb
    obtain ⟨h0,h⟩:=xq h
    exact ⟨_,by simp only [zd,zk,hx,hb,h0,if_true]; rfl,h⟩
   ·cases h
  ·cases h
 | cmpB x y=>
  obtain ⟨u,e,h⟩:=zfY h
  obtain ⟨v,e',h⟩:=zfY h
  split at h
  ·unfold zX1 at h
   split at h
   ·rename_i a ha
    split at h
    ·rename_i b hb
     exact ⟨_,by simp only [zd,zk,e,e',ha,hb]; rfl,h⟩
    ·cases h
   ·cases h
  ·cases h
 | makeSlice sz bytes zero l c=>
  obtain ⟨k1,l',e1,h⟩:=zlp h
  obtain ⟨k2,c',e2,h⟩:=zlp h
  cases pin with
  | true=>
   obtain ⟨hc,h⟩:=xq h
   obtain ⟨σ',e3,h⟩:=zdm h
   exact ⟨σ',by simp only [zd,e1,e2,V.int?]; rw [if_pos hc,if_pos trivial]; exact e3,h⟩
  | false=>
   obtain ⟨hc,h⟩:=xq h
   obtain ⟨σ',e3,h⟩:=zdm h
   exact ⟨σ',by simp only [zd,e1,e2,V.int?]; rw [if_pos hc]; simpa using e3,h⟩
 | sliceA n sz x lo hi mx=>
  obtain ⟨l,hh,m,e,h⟩:=znh h
  split at h
  ·rename_i id off hx
   split at h
   ·rename_i p cs hb
    obtain ⟨hl,h⟩:=xq h
    refine ⟨_,by simp only [zd,zk,e,Wb,QT,hx,hb,hl,if_true,QN]; rfl,?_⟩
    rcases zjl h with ⟨q,h⟩ | ⟨q,h⟩
    ·rw [if_pos (by simpa using q)]; exact h
    ·rw [if_neg (by simpa using q)]; exact h
   ·rename_i cs hb
    obtain ⟨hl,h⟩:=xq h
    refine ⟨_,by simp only [zd,zk,e,Wb,QT,hx,hb,hl,if_true,QN]; rfl,?_⟩
    rcases zjl h with ⟨q,h⟩ | ⟨q,h⟩
    ·rw [if_pos (by simpa using q)]; exact h
    ·rw [if_neg (by simpa using q)]; exact h
   ·cases h
  ·rename_i q cs hx
   obtain ⟨hl,h⟩:=xq h
   exact ⟨_,by simp only [zd,zk,e,Wb,QT,hx,hl,if_true,QN],h⟩
  ·cases h
 | sliceS sz x lo hi mx=>
  simp only [zaL] at h
  split at h
  ·rename_i sz' es hx
   obtain ⟨l,hh,m,e,h⟩:=znh h
   obtain ⟨hs,h⟩:=xq h
   cases mx with
   | none=>exact ⟨σ.put dst (.sl sz ((es.drop l).take (hh-l))),by simp [zd,zk,e,hx,hs],h⟩
   | some s=>
    refine ⟨_,by simp only [zd,zk,e,hx,hs,Wb,QT,if_true,QN]; rfl,?_⟩
    rcases zjl h with ⟨q,h⟩ | ⟨q,h⟩
    ·rw [if_pos ⟨by simp,by simpa using q⟩]; rw [← hs]; exact h
    ·rw [if_neg (by simpa using q)]; rw [← hs]; exact h
  ·rename_i id off len sz' hx
   obtain ⟨l,hh,m,e,h⟩:=znh h
   obtain ⟨hs,h2⟩:=xq h
   subst hs
   cases mx with
   | none=>exact ⟨_,by simp only [zd,zk,e,hx,Wb,QT,if_true,QN,XG,WP,if_false],h2⟩
   | some s=>
    refine ⟨_,by simp only [zd,zk,e,hx,Wb,QT,if_true,QN,XA]; rfl,?_⟩
    rcases zjl h2 with ⟨q,h⟩ | ⟨q,h⟩
    ·rw [if_pos (by simpa using q)]; exact h
    ·rw [if_neg (by simpa using q)]; exact h
  ·rename_i id off len cap sz' hx
   cases hi with
   | none=>cases h
   | some s0=>
    cases mx with
    | some _=>cases h
    | none=>
     obtain ⟨l,hh,m,e,h⟩:=znh h
     obtain ⟨hs,h2⟩:=xq h
     subst hs
     exact ⟨_,by simp only [zd,zk,e,hx,Wb,QT,if_true,QN,XA,Option.isNone_none,and_self],h2⟩
  ·cases h
 | sliceC sz x hi=>
  simp only [zaL] at h
  split at h
  ·rename_i id off len sz' hx
   cases hi with
   | none=>cases h
   | some s0=>
    obtain ⟨l,hh,m,e,h⟩:=znh h
    obtain ⟨hs,h2⟩:=xq h
    subst hs
    exact ⟨_,by simp only [zd,zk,e,hx,Wb,QT,if_true,QN,XA,and_self],h2⟩
  ·cases h
 | field agg o n x=>
  simp only [zaL] at h
  split at h
  ·rename_i cs hx
   cases agg with
   | true=>exact ⟨_,by simp [zd,zk,hx],h⟩
   | false=>
    obtain ⟨v,e,h⟩:=zvN h
    exact ⟨_,by simp [zd,zk,hx,e],h⟩
  ·rename_i cs hx
   cases agg with
   | true=>cases h
   | false=>
    simp only at h
    split at h
    ·rename_i v e
     exact ⟨_,by simp [zd,zk,hx,e],h⟩
    ·cases h
  ·cases h
 | indexAddrA len sz x i=>
  obtain ⟨k1,j,e1,h⟩:=zlp h
  obtain ⟨hj,h⟩:=xq h
  split at h
  ·rename_i id off hx
   exact ⟨_,by simp [zd,zk,hx,e1,V.int?,hj],h⟩
  ·rename_i q cs hx
   obtain ⟨hl,h⟩:=xq h
   exact ⟨_,by simp [zd,zk,hx,e1,V.int?,hj,hl],h⟩
  ·cases h
 | indexAddrS sz x i=>
  obtain ⟨k1,j,e1,h⟩:=zlp h
  split at h
  ·rename_i sz' es hx
   obtain ⟨hs,h2⟩:=xq h
   obtain ⟨hj,cc,e,h3⟩:=zVO h2
   subst hs
   exact ⟨_,by simp [zd,zk,hx,e1,V.int?,hj,e],h3⟩
  ·rename_i id off len sz' hx
   obtain ⟨hs,h2⟩:=xq h
   obtain ⟨hj,h3⟩:=xq h2
   subst hs
   exact ⟨_,by simp [zd,zk,hx,e1,V.int?,hj],h3⟩
  ·cases h
 | arrP n sz x=>
  simp only [zaL] at h
  split at h
  ·rename_i sz' es hx
   obtain ⟨hs,h2⟩:=xq h
   obtain ⟨hp,h3⟩:=xq h2
   obtain ⟨hl,h4⟩:=xq h3
   subst hs
   exact ⟨_,by simp [zd,zk,hx,hp,hl],h4⟩
  ·rename_i id off len sz' hx
   obtain ⟨hs,h2⟩:=xq h
   obtain ⟨hp,h3⟩:=xq h2
   obtain ⟨hl,h4⟩:=xq h3
   subst hs
   exact ⟨_,by simp [zd,zk,hx,hp,hl],h4⟩
  ·cases h
 | indexA agg len sz x i=>
  obtain ⟨k1,j,e1,h⟩:=zlp h
  obtain ⟨hj,h⟩:=xq h
  split at h
  ·rename_i cs hx
   cases agg with
   | true=>exact ⟨_,by simp [zd,zk,hx,e1,V.int?,hj],h⟩
   | false=>
    obtain ⟨v,e,h⟩:=zvN h
    exact ⟨_,by simp [zd,zk,hx,e1,V.int?,hj,e],h⟩
  ·cases h
 | load agg n a take=>
  simp only [zaL] at h
  split at h
  ·rename_i id off hx
   split at h
   ·rename_i p cs hb
    cases agg with
    | true=>
     obtain ⟨hl,h⟩:=xq h
     cases p with
     | true=>exact ⟨_,by simp [zd,hx,hb,hl],h⟩
     | false=>
      cases take with
      | true=>
       obtain ⟨vs,e,h⟩:=zR2 h
       exact ⟨_,by simp [zd,hx,hb,hl,e],h⟩
      | false=>
       obtain ⟨vs,e,h⟩:=zxy h
       exact ⟨_,by simp [zd,hx,hb,hl,e],h⟩
    | false=>
     cases take with
     | true=>
      cases p with
      | true=>cases h
      | false=>
       obtain ⟨v,e,h⟩:=zlM h
       exact ⟨_,by simp [zd,hx,hb,e],zTx h⟩
     | false=>
      obtain ⟨v,e,h⟩:=zRH h
      exact ⟨_,by simp [zd,hx,hb,e],h⟩
   ·rename_i cs hb
    cases agg with
    | true=>
     obtain ⟨hl,h⟩:=xq h
     exact ⟨_,by simp [zd,hx,hb,hl],h⟩
    | false=>
     obtain ⟨v,e,h⟩:=zvN h
     exact ⟨_,by simp [zd,hx,hb,e],h⟩
   ·cases h
  ·rename_i q cs hx
   cases agg with
   | true=>
    obtain ⟨hl,h⟩:=xq h
    exact ⟨_,by simp [zd,hx,hl],h⟩
   | false=>
    obtain ⟨v,e,h⟩:=zvN h
    exact ⟨_,by simp [zd,hx,e],h⟩
  ·cases h
 | store n a x=>
  cases dst with
  | some d=>cases h
  | none=>
  simp only [zaL] at h
  split at h
  ·rename_i id off hx
   split at h
   ·rename_i cs hb
    split at h
    ·rename_i v hv
     obtain ⟨hl,h⟩:=xq h
     exact ⟨_,by simp [zd,hx,hb,hv,hl],h⟩
    ·cases h
   ·rename_i cs hb
    cases hxv:x.get σ <;> simp only [hxv] at h
    case agg us=>
     obtain ⟨hl,h⟩:=xq (zxe h)
     exact ⟨_,by simp [zd,hx,hb,hxv,hl],h⟩
    case st us=>
     obtain ⟨hl,h⟩:=xq h
     exact ⟨_,by simp [zd,hx,hb,hxv,hl],h⟩
    case tup=>cases h
    case bx=>cases h
    case junk=>cases h
    all_goals
     obtain ⟨hl,h⟩:=xq h
     exact ⟨_,by simp [zd,hx,hb,hxv,hl],h⟩
   ·cases h
  ·cases h
 | append sz bytes s x=>
  simp only [zaL] at h
  split at h
  ·rename_i sz1 es hs
   obtain ⟨u,e,h⟩:=zfY h
   split at h
   ·rename_i sz2 es2
    obtain ⟨⟨h1,h2⟩,h⟩:=xq h
    obtain ⟨h3,h⟩:=xq h
    cases pin with
    | true=>
     simp only at h
     split at h
     ·obtain ⟨σ',e3,h⟩:=zdm h
      refine ⟨σ',?_,h⟩
      simp only [zd,hs,e]
      rw [if_pos ⟨h1,.inl h2,h3⟩]
      exact e3
     ·cases h
    | false=>
     refine ⟨_,?_,h⟩
     simp only [zd,hs,e]
     rw [if_pos ⟨h1,.inl h2,h3⟩]
     rfl
   ·cases h
  ·rename_i sz1 hs
   obtain ⟨u,e,h⟩:=zfY h
   split at h
   ·rename_i sz2 es2
    obtain ⟨⟨h1,h2⟩,h⟩:=xq h
    obtain ⟨h3,h⟩:=xq h
    obtain ⟨σ',e3,h⟩:=zdm h
    refine ⟨σ',?_,h⟩
    simp only [zd,hs,e]
    rw [if_pos ⟨h1,.inl h2,h3⟩]
    exact e3
   ·cases h
  ·rename_i id off len sz1 hs
   obtain ⟨u,e,h⟩:=zfY h
   split at h
   ·rename_i sz2 es2
    split at h
    ·rename_i cs hb
     obtain ⟨⟨h1,h2,h0⟩,h⟩:=xq h
     obtain ⟨h3,h⟩:=xq h
     obtain ⟨σ',e3,h⟩:=zdm h
     refine ⟨σ',?_,h⟩
     simp only [zd,hs,e,hb]
     rw [if_pos ⟨h1,.inl h2,h0,h3⟩]
     exact e3
    ·cases h
   ·cases h
  ·rename_i id off len cap sz1 hs
   obtain ⟨u,e,h⟩:=zfY h
   split at h
   ·rename_i sz2 es2
    split at h
    ·rename_i cs hb
     split at h
     ·obtain ⟨⟨h1,h2,h0⟩,h⟩:=xq h
      obtain ⟨h3,h⟩:=xq h
      refine ⟨_,?_,h⟩
      simp only [zd,hs,e,hb]
      rw [if_pos ⟨h1,.inl h2,h0,h3,trivial⟩]
     ·cases h
    ·cases h
   ·cases h
  ·cases h
 | appendF sz bytes s x=>
  cases pin with
  | true=>simp only [zaL] at h; cases h
  | false=>
   simp only [zaL] at h
   split at h
   ·rename_i sz1 hs
    obtain ⟨u,e,h⟩:=zfY h
    split at h
    ·rename_i sz2 es2
     obtain ⟨⟨h1,h2⟩,h⟩:=xq h
     obtain ⟨h3,h⟩:=xq h
     refine ⟨_,?_,h⟩
     simp only [zd,hs,zJP,e,WP,if_false]
     rw [if_pos ⟨h1,.inl h2,by simpa using h3.1,by simpa using h3.2.1,by simpa using h3.2.2⟩]
     rfl
    ·cases h
   ·rename_i sz1 es hs
    obtain ⟨u,e,h⟩:=zfY h
    split at h
    ·rename_i sz2 es2
     obtain ⟨⟨h1,h2⟩,h⟩:=xq h
     obtain ⟨h3,h⟩:=xq h
     refine ⟨_,?_,h⟩
     simp only [zd,hs,zJP,e,WP,if_false]
     rw [if_pos ⟨h1,.inl h2,h3⟩]
    ·cases h
   ·cases h
 | pinC p sz a=>
  simp only [zaL] at h
  split at h
  ·rename_i id off hx
   split at h
   ·rename_i cs hb
    obtain ⟨v,hv,h⟩:=zlM h
    split at h
    ·rename_i sz1 es
     split at h
     ·rename_i d
      obtain ⟨h1,h⟩:=xq h
      obtain ⟨σ',e,h⟩:=zdm h
      exact ⟨σ',by simp only [zd,hx,hb,hv]; rw [if_pos h1]; exact e,h⟩
     ·cases h
    ·cases h
   ·cases h
  ·cases h
 | storeF n a x xs=>
  cases dst with
  | some d=>cases h
  | none=>
  simp only [zaL] at h
  split at h
  ·rename_i id off hx
   split at h
   ·rename_i cs hb
    split at h
    ·rename_i us hy
     obtain ⟨h0,h⟩:=xq h
     exact ⟨_,by simp only [zd,hx,hb,hy]; rw [if_neg (by simp),if_pos h0],h⟩
    ·cases h
   ·cases h
  ·cases h
 | loadS n a=>
  simp only [zaL] at h
  split at h
  ·rename_i id off hx
   split at h
   ·rename_i cs hb
    obtain ⟨h0,h⟩:=xq h
    obtain ⟨us,e,h⟩:=zLe h
    exact ⟨_,by simp only [zd,hx,hb]; rw [if_pos h0]; simp only [e]; rfl,h⟩
   ·cases h
  ·cases h
 | pinS p sz x=>
  simp only [zaL] at h
  split at h
  ·rename_i sz1 es hx
   split at h
   ·rename_i t d
    obtain ⟨h1,h⟩:=xq h
    obtain ⟨σ',e,h⟩:=zdm h
    exact ⟨σ',by simp only [zd,hx]; rw [if_pos h1]; exact e,h⟩
   ·cases h
  ·cases h
 | unpin x=>
  cases pin with
  | true=>simp only [zaL] at h; cases h
  | false=>
   simp only [zaL] at h
   split at h
   ·rename_i id off len sz hx
    split at h
    ·rename_i cs hb
     obtain ⟨h1,h2⟩:=xq h
     exact ⟨_,by simp only [zd,hx,hb]; rw [if_neg (by simp),if_pos h1],h2⟩
    ·cases h
   ·rename_i sz es hx
    exact ⟨_,by simp only [zd,hx]; rw [if_neg (by simp)],h⟩
   ·cases h
 | clear sz zero x=>
  simp only [zaL] at h
  split at h
  ·rename_i id off len sz1 hx
   split at h
   ·rename_i cs hb
    obtain ⟨h1,h⟩:=xq h
    exact ⟨_,by simp only [zd,hx,hb,h1,if_true],h⟩
   ·cases h
  ·cases h
 | appendZ sz bytes zero s x=>
  simp only [zaL] at h
  split at h
  ·rename_i sz1 es hs
   obtain ⟨kd,n,e,h⟩:=zlp h
   obtain ⟨h1,h⟩:=xq h
   obtain ⟨h2,h⟩:=xq h
   cases pin with
   | true=>cases h
   | false=>
    refine ⟨_,?_,h⟩
    simp only [zd,hs,e,V.int?]
    rw [if_pos ⟨h1,h2⟩]
    rfl
  ·cases h
 | extract x i=>
  simp only [zaL] at h
  split at h
  ·rename_i vs hx
   split at h
   ·rename_i v t hvi
    split at h
    ·rename_i hall
     simp only [Wh,decide_eq_true_eq] at hall
     split at h
     ·rename_i hh
      obtain ⟨σ',e,h⟩:=zNH h
      refine ⟨σ',?_,h⟩
      simp only [zd,hx,hvi]
      rw [if_pos hall,if_pos hh]
      exact e
     ·rename_i hh
      split at h
      ·cases h
      ·rename_i hp
       refine ⟨_,?_,h⟩
       simp only [zd,hx,hvi]
       rw [if_pos hall,if_neg (by simp [hh]),if_neg (by simp [hp])]
    ·cases h
   ·cases h
  ·cases h
 | call f args xs=>
  simp only [zaL] at h
  split at h
  ·rename_i vs e
   obtain ⟨σ',e2,h⟩:=zIz hc h
   exact ⟨σ',by simp only [zd,e]; exact e2,h⟩
  ·cases h
 | callv f args xs=>
  simp only [zaL] at h
  split at h
  ·rename_i g caps hg
   split at h
   ·rename_i vs e
    obtain ⟨σ',e2,h⟩:=zIz hc h
    exact ⟨σ',by simp only [zd,hg,e]; exact e2,h⟩
   ·cases h
  ·cases h
 | mlook kd ok zero x y=>
  simp only [zaL] at h
  split at h
  ·rename_i id hx
   split at h
   ·rename_i es hes
    unfold mAt at h
    split at h
    ·rename_i hko
     split at h
     ·rename_i q hq
      have h:=zJS h
      cases ok with
      | true=>exact ⟨_,by simp only [zd,hx,hes,hko,if_true,hq,Wb,QT,Wl],h⟩
      | false=>exact ⟨_,by simp only [zd,hx,hes,hko,if_true,hq,Wb,QT,Wl,WP,if_false],h⟩
     ·cases h
    ·cases h
   ·cases h
  ·cases h
 | mput kd x y z=>
  simp only [zaL] at h
  split at h
  ·cases h
  ·split at h
   ·rename_i id hx
    split at h
    ·rename_i es hes
     split at h
     ·rename_i v hv
      unfold zYo at h
      split at h
      ·rename_i hko
       split at h
       ·rename_i q hq
        refine ⟨_,?_,h⟩
        simp only [zd,XG,WP,if_false,hx,hes,hko,if_true,hv,hq,Wb,QT,Wl]
       ·cases h
      ·cases h
     ·cases h
    ·cases h
   ·cases h
 | _=>exact zWH rfl h
theorem zHp(hc:znA c cb){σ:St}{o:COp}{κ:St→St→Option β}(h:zD9 sh c nb σ o κ=some r):∃ σ',yk cb nb σ o=some σ'∧κ σ σ'=some r:=by
 unfold zD9 at h
 split at h
 ·rename_i hg
  obtain ⟨σ',e,h⟩:=zF8 hc h
  exact ⟨σ',by simp only [yk,hg,y8]; exact e,h⟩
 ·rename_i j want hg
  split at h
  ·rename_i b hj
   cases want with
   | true=>
    rcases zjl h with ⟨rfl,h⟩ | ⟨rfl,h⟩
    ·simp only [lt] at h
     rw [St.set_same hj] at h
     obtain ⟨σ',e,h⟩:=zF8 hc h
     exact ⟨σ',by simp only [yk,hg,y8,hj]; exact e,h⟩
    ·simp only [lt] at h
     rw [St.set_same hj] at h
     exact ⟨_,by simp only [yk,hg,y8,hj]; rfl,h⟩
   | false=>
    rcases zjl h with ⟨rfl,h⟩ | ⟨rfl,h⟩
    ·simp only [lt] at h
     rw [St.set_same hj] at h
     exact ⟨_,by simp only [yk,hg,y8,hj]; rfl,h⟩
    ·simp only [lt] at h
     rw [St.set_same hj] at h
     obtain ⟨σ',e,h⟩:=zF8 hc h
     exact ⟨σ',by simp only [yk,hg,y8,hj]; exact e,h⟩
  ·rename_i hj
   exact ⟨_,by simp only [yk,hg,y8,hj],h⟩
  ·cases h
theorem zFh(hc:znA c cb):∀ {ops:List COp} {σ:St} {κ:St→Option β},zGf sh c nb ops σ κ=some r→∃ σ',zid cb nb ops σ=some σ'∧κ σ'=some r
 | [],σ,κ,h=>⟨σ,rfl,h⟩
 | o::ops,σ,κ,h=>by
  obtain ⟨σ1,e1,h⟩:=zHp hc h
  obtain ⟨σ2,e2,h⟩:=zFh hc h
  exact ⟨σ2,by simp only [zid,e1,QT]; exact e2,h⟩
theorem zLv(hc:znA c cb):∀ {ops:List (COp × Fl)} {σ:St} {κ:St→Option β},zOu sh c nb ops σ κ=some r→∃ σ',znE cb nb ops σ=some σ'∧κ σ'=some r
 | [],σ,κ,h=>⟨σ,rfl,h⟩
 | (o,q)::ops,σ,κ,h=>by
  obtain ⟨σ1,e1,h⟩:=zHp hc h
  split at h
  ·rename_i hq
   obtain ⟨σ2,e2,h⟩:=zLv hc h
   exact ⟨σ2,by simp only [znE,e1,hq,if_true]; exact e2,h⟩
  ·cases h
theorem zMU{body:St→KT β→Option β}{bodyN:St→Option (Ex × St)}{norm:St→St}(hb:∀ σ K,body σ K=some r→∃ ex σ',bodyN σ=some (ex,σ')∧K ex σ'=some r):∀ (n:Nat) (σ:St) (K:KT β),yt body norm n (norm σ) K=some r→∃ ex σ',zo9 bodyN norm n σ=some (ex,σ')∧K ex σ'=some r
 | 0,σ,K,h=>by cases h
 | n+1,σ,K,h=>by
  obtain ⟨ex,σ1,e,h⟩:=hb _ _ h
  cases ex with
  | normal=>
   obtain ⟨ex,σ2,e2,h⟩:=zMU hb n σ1 K h
   exact ⟨ex,σ2,by simp only [zo9,e]; exact e2,h⟩
  | exit j=>exact ⟨_,_,by simp only [zo9,e],h⟩
  | ret=>exact ⟨_,_,by simp only [zo9,e],h⟩
theorem zTV{σ σ':St}{dst:Option Nat}{pin:Bool}{k:K}(h:zd (fun _ _ _=>none) nb σ dst pin k=some σ'):zd cb nb σ dst pin k=some σ':=by
 cases k with
 | call f args xs=>
  simp only [zd,zea,Wb,Wa,Prod.exists] at h
  obtain ⟨_,_,_,_,_,_,h,_⟩:=h
  cases h
 | callv f args xs=>
  simp only [zd] at h
  split at h
  ·simp only [zea,Wb,Wa,Prod.exists] at h
   obtain ⟨_,_,_,_,_,_,h,_⟩:=h
   cases h
  ·cases h
 | _=>exact h
theorem zKG{σ σ':St}{o:COp}(h:yk (fun _ _ _=>none) nb σ o=some σ'):yk cb nb σ o=some σ':=by
 unfold yk at h ⊢
 split at h
 ·exact zTV h
 ·exact h
 ·cases h
theorem zIO:∀ {ops:List COp} {σ σ':St},zid (fun _ _ _=>none) nb ops σ=some σ'→zid cb nb ops σ=some σ'
 | [],σ,σ',h=>h
 | o::ops,σ,σ',h=>by
  simp only [zid,Wa] at h ⊢
  obtain ⟨σ1,h1,h2⟩:=h
  exact ⟨σ1,zKG h1,zIO h2⟩
theorem zMR:∀ {ops:List (COp × Fl)} {σ σ':St},znE (fun _ _ _=>none) nb ops σ=some σ'→znE cb nb ops σ=some σ'
 | [],σ,σ',h=>h
 | (o,q)::ops,σ,σ',h=>by
  simp only [znE] at h ⊢
  split at h
  ·rename_i σ1 h1
   rw [zKG h1]
   split at h
   ·rename_i hq
    simp only [hq,if_true]
    exact zMR h
   ·cases h
  ·cases h
theorem zHJ:∀ (cc:CC) (σ:St) (r:Ex × St),run (fun _ _ _=>none) nb L cc σ=some r→run cb nb L cc σ=some r:=by
 intro cc
 induction cc with
 | skip=>intro σ r h; exact h
 | reg ops=>
  intro σ r h
  simp only [run,Wj] at h ⊢
  obtain ⟨σ1,h1,h2⟩:=h
  exact ⟨σ1,zIO h1,h2⟩
 | dreg fz ops=>
  intro σ r h
  simp only [run,Wj] at h ⊢
  obtain ⟨σ1,h1,h2⟩:=h
  exact ⟨σ1,zMR h1,h2⟩
 | seq a b iha ihb=>
  intro σ r h
  simp only [run] at h ⊢
  split at h
  ·rename_i σ1 h1
   rw [iha _ _ h1]
   exact ihb _ _ h
  ·rename_i hne
   obtain ⟨ex,σ1⟩:=r
   rw [iha _ _ h]
   cases ex with
   | normal=>exact absurd h (hne _)
   | exit j=>rfl
   | ret=>rfl
 | fork p s a b ihp iha ihb=>
  intro σ r h
  simp only [run] at h ⊢
  split at h
  ·rename_i σ1 h1
   rw [ihp _ _ h1]
   simp only
   split at h
   ·split at h
    ·rename_i hs
     obtain ⟨e,_⟩:=zGs hs
     rw [iha _ _ (e.trans h),ihb _ _ h]
     rw [e,h] at hs
     simp only [hs,if_true]
    ·cases h
   ·split at h
    ·split at h
     ·rename_i σ2 h2
      rw [iha _ _ h2]
      exact ihb _ _ h
     ·rename_i hne
      obtain ⟨ex,σ2⟩:=r
      rw [iha _ _ h]
      cases ex with
      | normal=>exact absurd h (hne _)
      | exit j=>rfl
      | ret=>rfl
    ·exact ihb _ _ h
    ·cases h
  ·rename_i hne
   obtain ⟨ex,σ1⟩:=r
   rw [ihp _ _ h]
   cases ex with
   | normal=>exact absurd h (hne _)
   | exit j=>rfl
   | ret=>rfl
 | cond s a b iha ihb=>
  intro σ r h
  simp only [run] at h ⊢
  split at h
  ·split at h
   ·rename_i hs
    have e:=zz1 hs
    rw [iha _ _ (e.trans h),ihb _ _ h]
    rw [e,h] at hs
    simp only [hs,if_true]
   ·cases h
  ·rename_i hne
   split at h
   ·rename_i t ht
    cases t with
    | true=>simp only [if_true] at h ⊢; exact iha _ _ h
    | false=>simp only [WP,if_false] at h ⊢; exact ihb _ _ h
   ·cases h
 | block id a ih=>
  intro σ r h
  simp only [run] at h ⊢
  cases ha:run (fun _ _ _=>none) nb L a σ with
  | none=>rw [ha] at h; cases h
  | some q=>rw [ha] at h; rw [ih _ _ ha]; exact h
 | loop kt kb a ih=>
  intro σ r h
  simp only [run] at h ⊢
  have key:∀ (n:Nat) (σ:St),zo9 (run (fun _ _ _=>none) nb L a) (zM nb kt kb) n σ=some r→zo9 (run cb nb L a) (zM nb kt kb) n σ=some r:=by
   intro n
   induction n with
   | zero=>intro σ h; cases h
   | succ n ihn=>
    intro σ h
    simp only [zo9] at h ⊢
    cases ha:run (fun _ _ _=>none) nb L a (zM nb kt kb σ) with
    | none=>rw [ha] at h; cases h
    | some q=>
     obtain ⟨ex,σ1⟩:=q
     rw [ha] at h
     rw [ih _ _ ha]
     cases ex with
     | normal=>exact ihn _ h
     | exit j=>exact h
     | ret=>exact h
  exact key L σ h
 | mask kt kb=>intro σ r h; exact h
 | exit id=>intro σ r h; exact h
 | ret=>intro σ r h; exact h
theorem zVF(hc:znA c cb):∀ (cc:CC) (σ:St) (K:KT β),xd sh c nb L cc σ K=some r→∃ ex σ',run cb nb L cc σ=some (ex,σ')∧K ex σ'=some r:=by
 intro cc
 induction cc with
 | skip=>intro σ K h; exact ⟨_,_,rfl,h⟩
 | reg ops=>
  intro σ K h
  obtain ⟨σ',e,h⟩:=zFh hc h
  exact ⟨_,σ',by simp only [run,e]; rfl,h⟩
 | dreg fz ops=>
  intro σ K h
  obtain ⟨σ',e,h⟩:=zLv hc (ziP nb fz σ _ h)
  exact ⟨_,σ',by simp only [run,e]; rfl,h⟩
 | seq a b iha ihb=>
  intro σ K h
  obtain ⟨ex,σ1,e,h⟩:=iha _ _ h
  cases ex with
  | normal=>
   obtain ⟨ex,σ2,e2,h⟩:=ihb _ _ h
   exact ⟨ex,σ2,by simp only [run,e]; exact e2,h⟩
  | exit j=>exact ⟨_,_,by simp only [run,e],h⟩
  | ret=>exact ⟨_,_,by simp only [run,e],h⟩
 | fork p s a b ihp iha ihb=>
  intro σ K h
  obtain ⟨ex,σ1,e,h⟩:=ihp _ _ h
  cases ex with
  | exit j=>exact ⟨_,_,by simp only [run,e],h⟩
  | ret=>exact ⟨_,_,by simp only [run,e],h⟩
  | normal=>
   simp only [yr] at h
   split at h
   ·rename_i hub
    split at h
    ·rename_i hsame
     unfold onR at h
     split at h
     ·rename_i ex σ2 e1
      obtain ⟨e0,_⟩:=zGs hsame
      have ra:=zHJ (cb:=cb) _ _ _ (e0.trans e1)
      have rb:=zHJ (cb:=cb) _ _ _ e1
      rw [e0,e1] at hsame
      refine ⟨ex,σ2,?_,h⟩
      simp only [run,e,hub,ra,rb,hsame,if_true]
     ·cases h
    ·cases h
   ·rename_i hne
    obtain ⟨t,et,h⟩:=zx5 h
    rcases zjl h with ⟨rfl,h⟩ | ⟨rfl,h⟩
    ·obtain ⟨ex,σ2,e1,h⟩:=iha _ _ h
     cases ex with
     | normal=>
      obtain ⟨ex,σ3,e2,h⟩:=ihb _ _ h
      exact ⟨ex,σ3,by simp only [run,e,et,V.bool?,e1]; exact e2,h⟩
     | exit j=>exact ⟨_,_,by simp only [run,e,et,V.bool?,e1],h⟩
     | ret=>exact ⟨_,_,by simp only [run,e,et,V.bool?,e1],h⟩
    ·obtain ⟨ex,σ2,e1,h⟩:=ihb _ _ h
     exact ⟨ex,σ2,by simp only [run,e,et,V.bool?]; exact e1,h⟩
 | cond s a b iha ihb=>
  intro σ K h
  simp only [xd] at h
  split at h
  ·rename_i hub
   split at h
   ·rename_i hsame
    unfold onR at h
    split at h
    ·rename_i ex σ1 e1
     have e0:=zz1 hsame
     have ra:=zHJ (cb:=cb) _ _ _ (e0.trans e1)
     have rb:=zHJ (cb:=cb) _ _ _ e1
     rw [e0,e1] at hsame
     refine ⟨ex,σ1,?_,h⟩
     simp only [run,hub,ra,rb,hsame,if_true]
    ·cases h
   ·cases h
  ·rename_i hne
   obtain ⟨t,e,h⟩:=zx5 h
   rcases zjl h with ⟨rfl,h⟩ | ⟨rfl,h⟩
   ·obtain ⟨ex,σ1,e1,h⟩:=iha _ _ h
    exact ⟨ex,σ1,by simp only [run,e,V.bool?,if_true]; exact e1,h⟩
   ·obtain ⟨ex,σ1,e1,h⟩:=ihb _ _ h
    exact ⟨ex,σ1,by simp only [run,e,V.bool?,WP,if_false]; exact e1,h⟩
 | block id a ih=>
  intro σ K h
  obtain ⟨ex,σ1,e,h⟩:=ih _ _ h
  cases ex with
  | normal=>exact ⟨_,_,by simp only [run,e],h⟩
  | exit j=>
   simp only [zi] at h
   split at h
   ·rename_i hj
    have hj:=Wd hj
    exact ⟨_,_,by simp only [run,e,hj,if_true],h⟩
   ·rename_i hj
    have:j≠id:=Nat.ne_of_beq_eq_false hj
    exact ⟨_,_,by simp only [run,e,this,if_false],h⟩
  | ret=>exact ⟨_,_,by simp only [run,e],h⟩
 | loop kt kb a ih=>
  intro σ K h
  obtain ⟨ex,σ',e,h⟩:=zMU ih L σ K h
  exact ⟨ex,σ',by simp only [run]; exact e,h⟩
 | mask kt kb=>intro σ K h; exact ⟨_,_,rfl,h⟩
 | exit id=>intro σ K h; exact ⟨_,_,rfl,h⟩
 | ret=>intro σ K h; exact ⟨_,_,rfl,h⟩
theorem zHi{σ:St}{rv:RV}{k:V→Option β}(h:zt3 nb σ rv k=some r):∃ v,zaz nb σ rv=some v∧k v=some r:=by
 cases rv with
 | cellS t n p=>cases h
 | tmp t=>
  simp only [zt3] at h
  split at h
  ·rename_i id off len sz ht
   split at h
   ·rename_i hge
    have hge:=of_decide_eq_true hge
    split at h
    ·rename_i cs hb
     split at h
     ·rename_i hd
      have hd:=of_decide_eq_true hd
      obtain ⟨hl,h⟩:=xq h
      exact ⟨_,by simp only [zaz,ht]; rw [if_pos hge,if_pos hd]; simp only [hb]; rw [if_pos hl],h⟩
     ·cases h
    ·cases h
   ·rename_i hge
    have hge:=of_decide_eq_false hge
    exact ⟨_,by simp only [zaz,ht]; rw [if_neg hge],h⟩
  ·rename_i id off ht
   split at h
   ·rename_i p cs hb
    split at h
    ·rename_i hd
     have hd:=of_decide_eq_true hd
     obtain ⟨hl,h⟩:=xq h
     cases p with
     | true=>exact ⟨_,by simp only [zaz,ht]; rw [if_pos hd]; simp only [hb]; rw [if_pos hl]; rfl,h⟩
     | false=>
      obtain ⟨vs,e,h⟩:=zxy h
      exact ⟨_,by simp only [zaz,ht]; rw [if_pos hd]; simp only [hb]; rw [if_pos hl]; simp only [WP,if_false,e,QN],h⟩
    ·cases h
   ·cases h
  ·split at h
   ·exact ⟨_,‹_›,h⟩
   ·cases h
 | tmpP t=>
  simp only [zt3] at h
  split at h
  ·rename_i id off len sz ht
   split at h
   ·rename_i hge
    have hge:=of_decide_eq_true hge
    split at h
    ·rename_i cs hb
     exact ⟨_,by simp only [zaz,ht]; rw [if_pos hge]; simp only [hb],h⟩
    ·cases h
   ·cases h
  ·split at h
   ·exact ⟨_,‹_›,h⟩
   ·cases h
 | cell t agg n=>
  simp only [zt3] at h
  split at h
  ·rename_i id off ht
   split at h
   ·rename_i p cs hb
    cases agg with
    | true=>
     obtain ⟨hl,h⟩:=xq h
     cases p with
     | true=>exact ⟨_,by simp only [zaz,ht,hb,if_true]; rw [if_pos hl],h⟩
     | false=>
      obtain ⟨vs,e,h⟩:=zxy h
      exact ⟨_,by simp only [zaz,ht,hb,if_true]; rw [if_pos hl]; simp only [WP,if_false,e,QN],h⟩
    | false=>
     simp only at h
     split at h
     ·rename_i hd
      have hd:=of_decide_eq_true hd
      obtain ⟨v,e,h⟩:=zlM h
      split at h
      ·rename_i v' hv
       exact ⟨_,by simp only [zaz,ht,hb,WP,if_false,hd,and_self,if_true,e,QT]; exact hv,h⟩
      ·cases h
     ·cases h
   ·cases h
  ·cases h
theorem zFi{σ:St}:∀ {rs:List RV} {k:List V→Option β},zGG nb σ rs k=some r→∃ vs,rs.mapM (zaz nb σ)=some vs∧k vs=some r
 | [],k,h=>⟨[],rfl,h⟩
 | x::rs,k,h=>by
  obtain ⟨v,e,h⟩:=zHi h
  obtain ⟨vs,e2,h⟩:=zFi h
  exact ⟨v::vs,by simp [List.mapM_cons,e,e2],h⟩
theorem zOz{σ:St}{rs:List RV}{k:V→Option β}(h:zzm nb σ rs k=some r):∃ v,results nb σ rs=some v∧k v=some r:=by
 unfold zzm at h
 split at h
 ·rename_i hd
  split at h
  ·obtain ⟨v,e,h⟩:=zHi h
   exact ⟨v,by simp only [results,hd,if_true]; exact e,h⟩
  ·rename_i hne
   obtain ⟨vs,e,h⟩:=zFi h
   refine ⟨.tup vs,?_,h⟩
   simp only [results,hd,if_true,e,QN]
 ·cases h
theorem zy2{b:List B}{ids:List Nat}:∀ {l:List Nat} {k:Bor→Option β},zC8 b nb ids l k=some r→∃ bor,zrz b nb ids l=some bor∧k bor=some r
 | [],k,h=>⟨[],rfl,h⟩
 | id::l,k,h=>by
  simp only [zC8] at h
  split at h
  ·rename_i p cs hb
   cases p with
   | true=>
    obtain ⟨bor,e,h⟩:=zy2 (l:=l) h
    exact ⟨_,by simp only [zrz,hb,B.lend,B.isRow,XC,Bool.or_true,XB,if_true,e,QN,B.ren],h⟩
   | false=>
    simp only at h
    split at h
    ·rename_i hd
     obtain ⟨hl,h⟩:=xq h
     obtain ⟨bor,e,h⟩:=zy2 (l:=l) h
     exact ⟨_,by simp only [zrz,hb,B.lend,Bool.false_or,hl,hd,XC,XB,if_true,e,QN,B.ren,WP,if_false],h⟩
    ·cases h
  ·rename_i es hb
   split at h
   ·rename_i hd
    obtain ⟨bor,e,h⟩:=zy2 (l:=l) h
    exact ⟨_,by simp only [zrz,hb,B.lend,hd,XC,XB,if_true,e,QN,B.ren],h⟩
   ·cases h
  ·rename_i n hb
   split at h
   ·rename_i hd
    obtain ⟨bor,e,h⟩:=zy2 (l:=l) h
    exact ⟨_,by simp only [zrz,hb,B.lend,hd,XC,XB,if_true,e,QN,B.ren],h⟩
   ·cases h
  ·cases h
theorem zPh{σ:St}{rs:List RV}{k:V→Bor→Option β}(h:(match zkb σ.t.length rs σ with
  | some (σ,rs)=>zzm nb σ rs fun v=>zC8 σ.b nb (zfm nb v) (zfm nb v) fun b=>match zgt (zfm nb v) with
   | true=>k (zpI (yM (zfm nb v)) v) b
   | false=>none
  | none=>none)=some r):∃ v b,zxK nb σ rs=some (v,b)∧k v b=some r:=by
 split at h
 rotate_left
 ·cases h
 rename_i σ1 rs1 hu
 obtain ⟨v,e1,h⟩:=zOz h
 obtain ⟨b,e2,h⟩:=zy2 h
 split at h
 ·rename_i hd
  refine ⟨_,b,?_,h⟩
  simp only [zxK,hu,zD1,e1,e2,Wb,QT,hd,if_true,Wl]
 ·cases h
theorem zPb{T:Nat→Option CF}{pr:CB}{d:Nat}{f:Nat}(hc:znA c (zsC (evF T pr L d))){cf:CF}(hT:T f=some cf){args:List V}{bor:Bor}{k:V→Bor→Option β}(h:zj sh c L cf args bor k=some r):∃ v b,evF T pr L (d+1) f args bor=some (v,b)∧k v b=some r:=by
 have h:zMl sh c L cf args bor k=some r:=by
  unfold zj at h
  split at h
  ·rename_i sz es rest _
   cases es with
   | nil=>exact h
   | cons a l=>exact h
  ·exact h
 obtain ⟨ex,σ',e,h⟩:=zVF hc _ _ _ h
 cases ex with
 | exit j=>cases h
 | normal=>
  obtain ⟨v,b,e1,h⟩:=zPh h
  exact ⟨v,b,by simp only [evF,hT,e,e1],h⟩
 | ret=>
  obtain ⟨v,b,e1,h⟩:=zPh h
  exact ⟨v,b,by simp only [evF,hT,e,e1],h⟩
def FOk(T:Nat→Option CF)(L g:Nat)(d:∀ (β:Type),List V→Bor→(V→Bor→Option β)→Option β)(D:Nat):Prop:=∀ n,D≤n→∀ (β:Type) (args:List V) (bor:Bor) (k:V→Bor→Option β) (r:β),d β args bor k=some r→∃ v b,zsC (evF T zAi L n) g args bor=some (v,b)∧k v b=some r
theorem xw{cb:CB}:znA noC cb:=by
 intro β f args bor k r h; cases h
theorem xi{c:CBC}{cb:CB}(hc:znA c cb){g:Nat}{d:∀ (β:Type),List V→Bor→(V→Bor→Option β)→Option β}(hd:∀ (β:Type) (args:List V) (bor:Bor) (k:V→Bor→Option β) (r:β),d β args bor k=some r→∃ v b,cb g args bor=some (v,b)∧k v b=some r):znA (xp g d c) cb:=by
 intro β f args bor k r h
 unfold xp at h
 split at h
 ·rename_i hf
  rw [Wd hf]
  exact hd _ _ _ _ _ h
 ·exact hc _ _ _ _ _ _ h
theorem zVo{cb:CB}{g:Nat}(hg:frN g=false)(args:List V)(bor:Bor):zsC cb g args bor=cb g args bor:=by
 unfold zsC; rw [hg]
theorem yx{T:Nat→Option CF}{L g:Nat}{cf:CF}(hT:T g=some cf){d:∀ (β:Type),List V→Bor→(V→Bor→Option β)→Option β}{D:Nat}
  (h:∀ m,D≤m→∃ (sh:Nat→Sh) (c:CBC),znA c (zsC (evF T zAi L m))∧∀ (β:Type) (args:List V) (bor:Bor) (k:V→Bor→Option β) (r:β),d β args bor k=some r→zj sh c L cf args bor k=some r) (hg:frN g=false:=by rfl):FOk T L g d (D+1):=by
 intro n hn β args bor k r hr
 obtain ⟨m,rfl⟩:∃ m,n=m+1:=⟨n-1,by omega⟩
 obtain ⟨sh,c,hc,hd⟩:=h m (by omega)
 rw [zVo hg]
 exact zPb hc hT (hd _ _ _ _ _ hr)
abbrev Dk:=∀ (β:Type),List V→Bor→(V→Bor→Option β)→Option β
def d0(f:∀ (β:Type),(V→Bor→Option β)→Option β):Dk:=fun β a b k=>(fun (_:Nat→Nat)=>match a with
 | []=>(match b with
  | []=>f β k
  | _::_=>none)
 | _::_=>none) zGm
def dA{α:Type}(acc:∀ (β:Type),V→(α→Option β)→Option β)(f:α→Dk):Dk:=fun β a b k=>(fun (_:Nat→Nat)=>match a with
 | v::r=>acc β v (fun p=>f p β r b k)
 | []=>none) zGm
def dN(acc:∀ (β:Type),V→Option β→Option β)(f:Dk):Dk:=fun β a b k=>(fun (_:Nat→Nat)=>match a with
 | v::r=>acc β v (f β r b k)
 | []=>none) zGm
def DK(d X:Dk):Prop:=∀ β args bor k r,d β args bor k=some r→X β args bor k=some r
theorem zOq{f:∀ (β:Type),(V→Bor→Option β)→Option β}{β:Type}{a:List V}{b:Bor}{k:V→Bor→Option β}{r:β}(e:d0 f β a b k=some r):a=[]∧b=[]∧f β k=some r:=by
 cases a with
 | cons v a=>have e:none=some r:=e; cases e
 | nil=>cases b with
  | cons v b=>have e:none=some r:=e; cases e
  | nil=>exact ⟨rfl,rfl,e⟩
theorem zK{f:∀ (β:Type),(V→Bor→Option β)→Option β}{X:Dk}(h:∀ β k,X β [] [] k=f β k):DK (d0 f) X:=by
 intro β a b k r e
 obtain ⟨rfl,rfl,e2⟩:=zOq e
 rw [h]; exact e2
def zIS{α:Type}(acc:∀ (β:Type),V→(α→Option β)→Option β)(mk:α→V):Prop:=∀ β v k r,acc β v k=some r→∃ p,v=mk p∧k p=some r
def z0u(acc:∀ (β:Type),V→Option β→Option β)(u:V):Prop:=∀ β v k r,acc β v k=some r→v=u∧k=some r
theorem xo{α:Type}{acc:∀ (β:Type),V→(α→Option β)→Option β}{mk:α→V}(hi:zIS acc mk){f:α→Dk}{X:Dk}(h:∀ p,DK (f p) (fun β a b k=>X β (mk p::a) b k)):DK (dA acc f) X:=by
 intro β a b k r e
 cases a with
 | nil=>have e:none=some r:=e; cases e
 | cons v a=>
  have e:acc β v (fun p=>f p β a b k)=some r:=e
  obtain ⟨p,rfl,e2⟩:=hi _ _ _ _ e
  exact h p _ _ _ _ _ e2
theorem zWr{X:Nat→Dk}{c:Nat}{v:V}(e:∀ (β:Type) (n:Nat) (k:V→Bor→Option β),X (n+c) β [] [] k=k v [])(L:Nat):DK (d0 fun _ k=>chk (c≤L) (k v [])) (X L):=by
 refine fun β args bor k r h=>?_
 obtain ⟨rfl,rfl,h2⟩:=zOq h
 rw [zhc] at h2
 split at h2
 ·rename_i hc
  obtain ⟨n,rfl⟩:∃ n,L=n+c:=⟨L-c,by omega⟩
  rw [e]; exact h2
 ·cases h2
abbrev AI(kd:IntKind)(β:Type)(v:V)(k:Int→Option β):Option β:=aI kd v k
abbrev AB(β:Type)(v:V)(k:Bool→Option β):Option β:=aB v k
abbrev AS(β:Type)(v:V)(k:ByteArray→Option β):Option β:=aS v k
abbrev AL(sz:Nat)(β:Type)(v:V)(k:Ls→Option β):Option β:=aL sz v k
abbrev AGs(sz:Nat)(β:Type)(v:V)(k:Ls→Option β):Option β:=aGs sz v k
abbrev AG(β:Type)(v:V)(k:List V→Option β):Option β:=aG v k
abbrev AFp(n:Nat)(β:Type)(v:V)(k:List V→Option β):Option β:=aFp n v k
abbrev AP(id off:Nat)(β:Type)(v:V)(k:Option β):Option β:=aP id off v k
abbrev AV(u:Value)(β:Type)(v:V)(k:Option β):Option β:=aV u v k
abbrev AF(f:Nat)(caps:List (Nat × Nat))(β:Type)(v:V)(k:Option β):Option β:=aF f caps v k
theorem z8{kd:IntKind}:zIS (AI kd) (fun n=>.sc (.int kd n)):=fun _ _ _ _ h=>zbv h
theorem zU7:zIS AB (fun n=>.sc (.bool n)):=fun _ _ _ _ h=>zx5 h
theorem zaV{sz:Nat}:zIS (AL sz) (fun n=>.sl sz n):=fun _ _ _ _ h=>zlA h
theorem zbR:zIS AG (fun n=>.agg n):=fun _ _ _ _ h=>zX5 h
theorem zZu{β:Type}(sz:Nat)(l:Ls)(k:Ls→Option β):aL sz (.sl sz l) k=k l:=by show chk (sz=sz) (k l)=k l; rw [zhc,if_pos rfl]
theorem zZy{β:Type}(l:List V)(k:List V→Option β):aG (.agg l) k=k l:=rfl
end
end
section
section
variable {β:Type}
theorem zg{α:Type}(a:α)(k:α→Option β):lt a k=k a:=Eq.trans rfl rfl
theorem zb{p:Prop}{inst:Decidable p}(h:p)(k:Option β):@chk β p inst k=k:=(zhc p k).trans (if_pos h)
theorem zvK{inst:Decidable True}(k:Option β):@chk β True inst k=k:=(zhc True k).trans (if_pos trivial)
theorem zzp(a b:Option β):ifb true a b=a:=rfl
theorem zc7(a b:Option β):ifb false a b=b:=rfl
theorem zef{p:Prop}{inst:Decidable p}(a b:Option β):ifb (@decide p inst) a b=if p then a else b:=by
 by_cases h:p <;> simp [ifb,h]
theorem yv{p:Prop}{inst:Decidable p}(h:p)(a b:Option β):ifb (@decide p inst) a b=a:=by rw [zef,if_pos h]
theorem zp{p:Prop}{inst:Decidable p}(h:¬ p)(a b:Option β):ifb (@decide p inst) a b=b:=by rw [zef,if_neg h]
theorem zhH{x y:Int}(h:x=y)(a b:Option β):ifb (x==y) a b=a:=by subst h; simp [ifb]
theorem zfX{x y:Int}(h:x≠y)(a b:Option β):ifb (x==y) a b=b:=by rw [beq_eq_false_iff_ne.2 h]; rfl
theorem zie{kd:IntKind}{cs:List V}{off:Nat}{n:Int}(h:cs[off]?=some (.sc (.int kd n)))(k:Int→Option β):cI kd cs off k=k n:=by
 simp [cI,zdp,h,aI,zvK]
theorem zqB{sz:Nat}{cs:List V}{off:Nat}{es:Ls}(h:cs[off]?=some (.sl sz es))(k:Ls→Option β):cL sz cs off k=k es:=by
 simp [cL,zdp,h,aL,zvK]
theorem zhm{sz:Nat}{cs:List V}{off:Nat}{es:Ls}(h:cs[off]?=some (.sl sz es))(k:Ls→Option β):cLd sz cs off k=k es:=by
 simp [cLd,zdp,h,aLd,zvK]
theorem zTI{es:Ls}{j:Int}{c:List V}(h0:0≤j)(h:es[j.toNat]?=some c)(k:List V→Option β):idx es j k=k c:=by
 simp [idx,h0,h,zvK]
theorem zaG{es:Ls}{j:Nat}{c:List V}(h:es[j]?=some c)(k:List V→Option β):idx es (j:Int) k=k c:=
 zTI (Int.natCast_nonneg j) (by simpa using h) k
end
theorem xH{n:Int}(h1:-9223372036854775808≤n)(h2:n≤9223372036854775807):QG .i64 n=n:=IntWalk.i64_in _ ⟨h1,h2⟩
theorem zyf{k:IntKind}{n:Int}(hk:k.signed=false)(h1:0≤n)(h2:n<2 ^ k.bits):QG k n=n:=by
 unfold QG
 simp only [hk,Bool.false_and,WP,if_false]
 exact Int.emod_eq_of_lt h1 h2
theorem xW{n:Int}(h1:0≤n)(h2:n≤18446744073709551615):QG .u64 n=n:=zyf rfl h1 (Xx h2 (by decide))
theorem zla{n:Int}(h1:0≤n)(h2:n≤4294967295):QG .u32 n=n:=zyf rfl h1 (Xx h2 (by decide))
theorem zN5{n:Int}(h1:0≤n)(h2:n≤65535):QG .u16 n=n:=zyf rfl h1 (Xx h2 (by decide))
theorem zPU{n:Int}(h1:0≤n)(h2:n≤255):QG .u8 n=n:=zyf rfl h1 (Xx h2 (by decide))
theorem zYy{n:Int}(h:(Lit.int .i64 n).wf=true):-9223372036854775808≤n∧n≤9223372036854775807:=by
 simpa [Lit.wf,XI,XJ,XF,XH] using h
theorem zsj{n:Int}(h:(Lit.int .u32 n).wf=true):0≤n∧n≤4294967295:=by
 simpa [Lit.wf,XI,XJ,XF,XH] using h
theorem zD4{n:Int}(h:(Lit.int .u8 n).wf=true):0≤n∧n≤255:=by
 simpa [Lit.wf,XI,XJ,XF,XH] using h
def yf(k:IntKind)(l:List Int):Ls:=l.map fun n=>[.sc (.int k n)]
theorem xr(k:IntKind)(l:List Int):(yf k l).length=l.length:=by simp [yf]
theorem zUt(k:IntKind){l:List Int}{i:Nat}(h:i<l.length):(yf k l)[i]?=some [.sc (.int k l[i])]:=by simp [yf,h]
theorem zDv(k:IntKind)(l:List Int)(i:Nat):(yf k l).drop i=yf k (l.drop i):=by simp [yf,List.map_drop]
theorem zoi(k:IntKind)(l:List Int)(i:Nat):(yf k l).take i=yf k (l.take i):=by simp [yf,List.map_take]
theorem zb0(k:IntKind)(l m:List Int):yf k l++yf k m=yf k (l++m):=by simp [yf]
theorem HasRow.int1{k:IntKind}{e:List V}(h:HasRow [.int k] e):∃ n,e=[.sc (.int k n)]∧(Lit.int k n).wf=true:=by
 obtain ⟨h1,h2⟩:=h
 match e,h1 with
 | [v],_=>
  obtain ⟨n,rfl,hn⟩:=(h2 0 v _ rfl rfl).int_inv
  exact ⟨n,rfl,hn⟩
theorem zD3{k:IntKind}:∀ {es:Ls},(∀ e∈es,HasRow [.int k] e)→∃ l:List Int,es=yf k l∧∀ n∈l,(Lit.int k n).wf=true
 | [],_=>⟨[],rfl,by simp⟩
 | e::es,h=>by
  obtain ⟨n,rfl,hn⟩:=(h e (by simp)).int1
  obtain ⟨l,rfl,hl⟩:=zD3 (es:=es) (fun x hx=>h x (by simp [hx]))
  exact ⟨n::l,rfl,by simpa [hn] using hl⟩
def row(k:IntKind)(l:List Int):List V:=l.map fun n=>.sc (.int k n)
theorem xk(k:IntKind)(l:List Int):(row k l).length=l.length:=by simp [row]
theorem zIl{k:IntKind}:∀ {n:Nat} {vs:List V},HasRow (We n (.int k)) vs→∃ l:List Int,vs=row k l∧l.length=n∧∀ x∈l,(Lit.int k x).wf=true
 | 0,vs,h=>by
  have:vs=[]:=WZ.1 (by simpa using h.1)
  subst this
  exact ⟨[],rfl,rfl,by simp⟩
 | n+1,[],h=>by have:=h.1; simp at this
 | n+1,v::vs,h=>by
  obtain ⟨x,rfl,hx⟩:=(h.2 0 v (.int k) rfl (by simp [Xz])).int_inv
  obtain ⟨l,rfl,hl,hw⟩:=zIl (n:=n) (vs:=vs) ⟨by have:=h.1; simpa using this,fun i c ct hc hct=>h.2 (i+1) c ct (by simpa using hc) (by simpa [Xz] using hct)⟩
  exact ⟨x::l,rfl,by simp [hl],by simpa [hx] using hw⟩
theorem ztM(k:IntKind):∀ (n:Nat) (l:List Int),n≤l.length→zf 1 n (row k l)=yf k (l.take n)
 | 0,l,_=>by simp [zf,yf]
 | n+1,[],h=>by simp at h
 | n+1,x::l,h=>by
  have:=ztM k n l (by simpa using h)
  simp only [row] at this
  simp [zf,row,yf,this]
theorem zTT(k:IntKind)(l:List Int)(i:Nat):(row k l).drop i=row k (l.drop i):=by simp [row,List.map_drop]
end
end Go.Proofs.YtgmhijonllockaaGreatDoor
