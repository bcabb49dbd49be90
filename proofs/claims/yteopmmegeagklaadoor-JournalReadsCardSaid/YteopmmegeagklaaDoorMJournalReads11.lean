/- Part 11 of the proof of JournalReads: an abstract machine over plain values, its soundness, and the functions of the program on plain values. -/
import Derived.ProofKit
import Derived.OpenShut
import Derived.ChangeOld
import Derived.Deep.Slices
import Derived.SizedLaws
import Derived.Laws.Strings
import Derived.Test.YteopmmegeagklaaDoorMJournalReads10
namespace Go.Proofs.YteopmmegeagklaaDoor
section
open Go.ChangeShapes Go.WideShapes Go.RowKit Go.Deep
set_option linter.unusedVariables false
set_option linter.unusedSimpArgs false
inductive CT where
 | int (k:IntKind)
 | bool
 | str
 | sl (cs:List CT)
inductive HasC:CT→V→Prop
 | int (k:IntKind) (n:Int) (h:(Lit.int k n).wf=true):HasC (.int k) (.sc (.int k n))
 | bool (b:Bool):HasC .bool (.sc (.bool b))
 | str (s:ByteArray) (h:s.size≤maxLen):HasC .str (.sc (.string s))
 | sl (cs:List CT) (es:List (List V)) (hl:es.length≤maxLen) (h0:∀ e ∈ es,e.length=cs.length) (h:∀ e ∈ es,∀ (i:Nat) (c:V) (ct:CT),e[i]?=some c→cs[i]?=some ct→HasC ct c):HasC (.sl cs) (.sl cs.length es)
def HasRow (cts:List CT) (vs:List V):Prop:=vs.length=cts.length∧∀ (i:Nat) (c:V) (ct:CT),vs[i]?=some c→cts[i]?=some ct→HasC ct c
def zuE (f:TypeId→Option (List CT)) (size:TypeId→Nat):List Field→Nat→Option (List CT)
 | [],_=>some []
 | x::xs,off=>do
  let a ← f x.type
  if x.offset=off∧size x.type=a.length then
   let b ← zuE f size xs (off+a.length)
   some (a++b)
  else none
def zm0 (P:Program):Nat→TypeId→Option (List CT)
 | 0,_=>none
 | d+1,t=>match P.underlying t with
  | some .bool=>some [.bool]
  | some (.int k)=>some [.int k]
  | some .string=>some [.str]
  | some (.slice e)=>do
   let c ← zm0 P d e
   if P.cellsOf e=c.length∧0 < c.length then some [.sl c] else none
  | some (.array n e)=>do
   let c ← zm0 P d e
   if P.cellsOf e=c.length∧P.cellsOf t=n * c.length then some (List.replicate n c).flatten else none
  | some (.struct fs)=>do
   let c ← zuE (zm0 P d) P.cellsOf fs.toList 0
   if P.cellsOf t=c.length then some c else none
  | _=>none
section
variable {H:Type} {enc:TypeId × Value→H} {P:Program} {w:World} {base:Nat} {spare:Nat→Bool} {held:Bool} {ren:Rn}
def RdC (ren:Rn) (w:World) (cts:List CT) (cs:List Value) (vs:List V):Prop :=
 cs.length=cts.length∧vs.length=cts.length∧∀ (i:Nat) (u:Value) (v:V) (ct:CT),cs[i]?=some u→vs[i]?=some v→cts[i]?=some ct→u.oneCell'=true∧RepP ren w zhO v u∧HasC ct v
theorem RdC.one {ct:CT} {u:Value} {v:V} (h1:u.oneCell'=true) (h2:RepP ren w zhO v u) (h3:HasC ct v):RdC ren w [ct] [u] [v]:=by
 refine ⟨rfl,rfl,fun i u' v' ct' hu hv hc=>?_⟩
 cases i with
 | zero=>simp at hu hv hc; subst hu; subst hv; subst hc; exact ⟨h1,h2,h3⟩
 | succ i=>simp at hu
theorem RdC.nil:RdC ren w [] [] []:=⟨rfl,rfl,fun i u v ct h=>by simp at h⟩
theorem RdC.app {c1 c2:List CT} {a1 a2:List Value} {b1 b2:List V} (h1:RdC ren w c1 a1 b1) (h2:RdC ren w c2 a2 b2):RdC ren w (c1++c2) (a1++a2) (b1++b2):=by
 obtain ⟨l1,m1,q1⟩:=h1
 obtain ⟨l2,m2,q2⟩:=h2
 refine ⟨by simp [l1,l2],by simp [m1,m2],fun i u v ct hu hv hc=>?_⟩
 by_cases hi:i < c1.length
 ·rw [List.getElem?_append_left (by omega)] at hu hv hc
  exact q1 i u v ct hu hv hc
 ·rw [List.getElem?_append_right (by omega)] at hu hv hc
  rw [l1] at hu; rw [m1] at hv
  exact q2 _ u v ct hu hv hc
theorem RdC.row {cts:List CT} {cs:List Value} {vs:List V} (h:RdC ren w cts cs vs):HasRow cts vs:=by
 refine ⟨h.2.1,fun i c ct hc ht=>?_⟩
 have hlt:i < cs.length:=by rw [h.1,← h.2.1]; exact (List.getElem?_eq_some_iff.1 hc).1
 exact (h.2.2 i _ c ct (List.getElem?_eq_getElem hlt) hc ht).2.2
theorem ztK {f:TypeId→Option (List CT)} {size:TypeId→Nat} {cs:List Value} (rd:∀ (t:TypeId) (cts:List CT),f t=some cts→∀ x ∈ ([]:List Nat),True) :
  ∀ (fs:List Field) (off:Nat) (cts:List CT),zuE f size fs off=some cts→(∀ x ∈ fs,∀ a,f x.type=some a→∃ vs,RdC ren w a ((cs.drop x.offset).take (size x.type)) vs)→∃ vs,RdC ren w cts ((cs.drop off).take cts.length) vs
 | [],off,cts,h,_=>by
  cases h
  exact ⟨[],by simpa using RdC.nil⟩
 | x::xs,off,cts,h,H=>by
  simp only [zuE,Option.bind_eq_bind,Option.bind_eq_some_iff] at h
  obtain ⟨a,ha,h⟩:=h
  split at h
  ·rename_i hc
   simp only [Option.bind_eq_some_iff,Option.some.injEq] at h
   obtain ⟨b,hb,rfl⟩:=h
   obtain ⟨vs1,r1⟩:=H x (by simp) a ha
   obtain ⟨vs2,r2⟩:=ztK rd xs _ b hb (fun y hy=>H y (by simp [hy]))
   refine ⟨vs1++vs2,?_⟩
   have e:(cs.drop off).take (a++b).length=(cs.drop x.offset).take (size x.type)++(cs.drop (off+a.length)).take b.length:=by
    rw [hc.1,hc.2,List.length_append,List.take_add,List.drop_drop]
   rw [e]
   exact r1.app r2
  ·cases h
theorem zvA {cs:List Value} {c:List CT}:∀ (n m:Nat),(∀ i,i < n→∃ vs,RdC ren w c ((cs.drop ((m+i) * c.length)).take c.length) vs)→∃ vs,RdC ren w (List.replicate n c).flatten ((cs.drop (m * c.length)).take (n * c.length)) vs
 | 0,m,H=>⟨[],by simpa using RdC.nil⟩
 | n+1,m,H=>by
  obtain ⟨vs1,r1⟩:=H 0 (by omega)
  obtain ⟨vs2,r2⟩:=zvA n (m+1) (fun i hi=>by
   obtain ⟨vs,r⟩:=H (i+1) (by omega)
   exact ⟨vs,by rw [show m+1+i=m+(i+1) by omega]; exact r⟩)
  refine ⟨vs1++vs2,?_⟩
  have e:(cs.drop (m * c.length)).take ((n+1) * c.length)=(cs.drop ((m+0) * c.length)).take c.length++(cs.drop ((m+1) * c.length)).take (n * c.length):=by
   rw [Nat.add_zero,Nat.add_mul n,Nat.one_mul,Nat.add_comm (n * c.length),List.take_add,List.drop_drop,show (m+1) * c.length=m * c.length+c.length by rw [Nat.add_mul,Nat.one_mul]]
   rw [show m+0=m from rfl]
  rw [e,List.replicate_succ,List.flatten_cons]
  exact r1.app r2
theorem zAx {α:Type} {n:Nat}:∀ (es:List (List α)),(∀ e ∈ es,e.length=n)→0 < n→∀ (i:Nat),es.flatten[i]?=(es[i / n]?).bind (fun e=>e[i % n]?)
 | [],_,_,i=>by simp
 | e::es,h,hn,i=>by
  have he:=h e (by simp)
  rw [List.flatten_cons]
  by_cases hi:i < n
  ·rw [List.getElem?_append_left (by omega),Nat.div_eq_of_lt hi,Nat.mod_eq_of_lt hi]; simp
  ·rw [List.getElem?_append_right (by omega),zAx es (fun x hx=>h x (by simp [hx])) hn,he]
   obtain ⟨j,rfl⟩:∃ j,i=j+n:=⟨i - n,by omega⟩
   rw [Nat.add_sub_cancel,Nat.add_div_right _ hn,Nat.add_mod_right]
   simp
theorem zpM:∀ (d:Nat) (t:TypeId) (cts:List CT),zm0 P d t=some cts→∀ (fuel:Nat) (cs:List Value) (x:DataW H × List MemPlace),DataW.trod enc P w base spare held fuel t cs=some x→∃ vs,RdC ren w cts cs vs
 | 0,t,cts,h,fuel,cs,x,hx=>by cases h
 | d+1,t,cts,h,fuel,cs,x,hx=>by
  unfold zm0 at h
  split at h
  ·rename_i ht
   cases h
   obtain ⟨b,rfl,_⟩:=DataW.trod_bool ht hx
   exact ⟨[.sc (.bool b)],.one rfl (.sc _ rfl) (.bool b)⟩
  ·rename_i k ht
   cases h
   obtain ⟨n,rfl,_,hw⟩:=DataW.trod_int ht hx
   exact ⟨[.sc (.int k n)],.one rfl (.sc _ rfl) (.int k n hw)⟩
  ·rename_i ht
   cases h
   obtain ⟨s,rfl,_,hw⟩:=DataW.trod_string ht hx
   exact ⟨[.sc (.string s)],.one rfl (.sc _ rfl) (.str s hw)⟩
  ·rename_i e ht
   simp only [Option.bind_eq_bind,Option.bind_eq_some_iff] at h
   obtain ⟨c,hc,h⟩:=h
   split at h
   ·rename_i hsz
    obtain ⟨hsz,hpos⟩:=hsz
    cases h
    rcases open_slice ht hx with ⟨rfl,_⟩ | ⟨a,len,cap,m,n,D,Pl,rfl,_,hl,hm,hmm,_,hi⟩
    ·refine ⟨[.sl c.length []],.one rfl (.sl _ [] none 0 (fun _=>undef) (Nat.le_refl _) (by simp) 0 0 (by simp) (by simp) (by simp) (by simp)) (.sl c [] (by simp) (by simp) (by simp))⟩
    ·have hlm:len≤m:=by rw [hmm]; split <;> omega
     have each:∀ i,i < len→∃ (us:List Value) (vs:List V),RdC ren w c us vs∧∀ j,j < c.length→w.cell? ((a.add (i * c.length)).add j)=us[j]?:=by
      intro i hil
      obtain ⟨cs',h1,h2⟩:=hi i (by omega)
      rw [hsz] at h1
      obtain ⟨_,hcl,hat⟩:=World.cells?_some h1
      obtain ⟨vs,r⟩:=zpM d e c hc _ _ _ h2
      exact ⟨cs',vs,r,hat⟩
     have hex:∃ (us:Nat→List Value) (vs:Nat→List V),∀ i,i < len→RdC ren w c (us i) (vs i)∧∀ j,j < c.length→w.cell? ((a.add (i * c.length)).add j)=(us i)[j]?:=by
      have:∀ i,∃ p:List Value × List V,i < len→RdC ren w c p.1 p.2∧∀ j,j < c.length→w.cell? ((a.add (i * c.length)).add j)=p.1[j]?:=by
       intro i
       by_cases hil:i < len
       ·obtain ⟨us,vs,q⟩:=each i hil; exact ⟨(us,vs),fun _=>q⟩
       ·exact ⟨([],[]),fun h=>absurd h hil⟩
      refine ⟨fun i=>(Classical.choose (this i)).1,fun i=>(Classical.choose (this i)).2,fun i hil=>Classical.choose_spec (this i) hil⟩
     obtain ⟨us,vs,hrow⟩:=hex
     have hget:∀ i,i < len→((List.range len).map vs)[i]?=some (vs i):=fun i hil=>by simp [hil]
     have hsz2:∀ e ∈ (List.range len).map vs,e.length=c.length:=by
      intro e he
      obtain ⟨i,hil,rfl⟩:=List.mem_map.1 he
      exact (hrow i (List.mem_range.1 hil)).1.2.1
     have cell:∀ (i:Nat) (v:V),((List.range len).map vs).flatten[i]?=some v→0 < c.length∧i / c.length < len∧(vs (i / c.length))[i % c.length]?=some v∧∃ u,(us (i / c.length))[i % c.length]?=some u∧u.oneCell'=true∧RepP ren w zhO v u∧w.cell? ((a.add (i / c.length * c.length)).add (i % c.length))=some u:=by
      intro i v hv
      have hpos:0 < c.length:=by
       rcases Nat.eq_zero_or_pos c.length with h0 | h0
       ·have:((List.range len).map vs).flatten=[]:=by
         rw [List.flatten_eq_nil_iff]
         intro l hl'
         exact List.length_eq_zero_iff.1 ((hsz2 l hl').trans h0)
        rw [this] at hv; simp at hv
       ·exact h0
      rw [zAx _ hsz2 hpos] at hv
      have hlt:i / c.length < len:=by
       cases hq:((List.range len).map vs)[i / c.length]? with
       | none=>rw [hq] at hv; simp at hv
       | some e=>have:=(List.getElem?_eq_some_iff.1 hq).1; simpa using this
      rw [hget _ hlt] at hv
      have hv:(vs (i / c.length))[i % c.length]?=some v:=hv
      have hr:=hrow _ hlt
      have hm:=Nat.mod_lt i hpos
      have hu:(us (i / c.length))[i % c.length]?=some ((us (i / c.length))[i % c.length]'(by rw [hr.1.1]; exact hm)):=List.getElem?_eq_getElem _
      obtain ⟨q1,q2,q3⟩:=hr.1.2.2 _ _ _ _ hu hv (List.getElem?_eq_getElem hm)
      exact ⟨hpos,hlt,hv,_,hu,q1,q2,by rw [hr.2 _ hm]; exact hu⟩
     have spot:((List.range len).map vs).flatten≠[]→a.spot=none:=by
      intro hne
      have hl0:0 < ((List.range len).map vs).flatten.length:=List.length_pos_iff.2 hne
      obtain ⟨_,_,_,u,_,_,_,hcell⟩:=cell 0 _ (List.getElem?_eq_getElem hl0)
      have hcell:w.cell? a=some u:=by simpa [Addr.add] using hcell
      unfold World.cell? at hcell
      split at hcell
      ·split at hcell
       ·cases hcell
       ·rename_i hs; simpa using hs
      ·cases hcell
     have addr:((List.range len).map vs).flatten≠[]→a=⟨a.block,a.off,none⟩:=by
      intro hne
      have:=spot hne
      cases a; simp_all
     have addto:∀ i v,((List.range len).map vs).flatten[i]?=some v→(a.add (i / c.length * c.length)).add (i % c.length)=⟨a.block,a.off+i,none⟩:=by
      intro i v hv
      have hne:((List.range len).map vs).flatten≠[]:=by intro h0; rw [h0] at hv; simp at hv
      rw [addr hne,zdr,zdr]
      have:=Nat.div_add_mod i c.length
      rw [Nat.mul_comm] at this
      show (⟨a.block,a.off+i / c.length * c.length+i % c.length,none⟩:Addr)=⟨a.block,a.off+i,none⟩
      congr 1; omega
     have hcap:len≤maxLen:=by omega
     have hlen:((List.range len).map vs).length=len:=by simp
     have rp:RepP ren w zhO (.sl c.length ((List.range len).map vs)) (.slice (some a) ((List.range len).map vs).length cap):=by
      by_cases hne:((List.range len).map vs).flatten=[]
      ·
       have:(List.range len).map vs=[]:=by
        cases hes:(List.range len).map vs with
        | nil=>rfl
        | cons e es =>
         have h1:=hsz2 e (by rw [hes]; simp)
         rw [hes,List.flatten_cons,List.append_eq_nil_iff] at hne
         rw [hne.1] at h1
         simp at h1; omega
       rw [this]
       exact .sl _ [] (some a) cap (fun _=>undef) (Nat.zero_le _) (by simp) 0 0 (by simp) (by simp) (by simp) (by simp)
      ·refine .sl _ _ (some a) cap (fun i=>(w.cell? ⟨a.block,a.off+i,none⟩).getD undef) (by rw [hlen]; exact hl) hsz2 a.block a.off (fun _=>by rw [← addr hne]) (fun i v hv=>?_) (fun i v hv=>?_) (fun i v hv=>?_) <;>
        (obtain ⟨hpos,hlt,hv',u,hu,q1,q2,hcell⟩:=cell i v hv
         rw [addto i v hv] at hcell
         simp only [hcell,Option.getD_some])
       ·exact ⟨fun h=>h,trivial⟩
       ·exact q1
       ·exact q2
     refine ⟨[.sl c.length ((List.range len).map vs)],.one rfl (by rw [hlen] at rp; exact rp) (.sl c _ (by rw [hlen]; exact hcap) hsz2 (fun e he i v ct hv hct=>?_))⟩
     obtain ⟨q,hq,rfl⟩:=List.mem_map.1 he
     exact (hrow q (List.mem_range.1 hq)).1.row.2 i v ct hv hct
   ·cases h
  ·rename_i n e ht
   simp only [Option.bind_eq_bind,Option.bind_eq_some_iff] at h
   obtain ⟨c,hc,h⟩:=h
   split at h
   ·rename_i hsz
    cases h
    obtain ⟨xs,m,_,_,hl,hxl,hi⟩:=DataW.trod_array ht hx
    have:=zvA (ren:=ren) (w:=w) (cs:=cs) (c:=c) n 0 (fun i hin=>by
     have:=hi i hin
     rw [List.getElem?_eq_getElem (by omega)] at this
     rw [hsz.1] at this
     obtain ⟨vs,r⟩:=zpM d e c hc _ _ _ this
     exact ⟨vs,by rw [Nat.zero_add]; exact r⟩)
    rw [Nat.zero_mul,List.drop_zero,List.take_of_length_le (by omega)] at this
    exact this
   ·cases h
  ·rename_i fs ht
   simp only [Option.bind_eq_bind,Option.bind_eq_some_iff] at h
   obtain ⟨c,hc,h⟩:=h
   split at h
   ·rename_i hsz
    cases h
    obtain ⟨xs,m,_,_,hl,hxl,hi⟩:=DataW.trod_struct ht hx
    have:=ztK (ren:=ren) (w:=w) (cs:=cs) (fun _ _ _ _ h=>by cases h) fs.toList 0 cts hc (fun y hy a ha=>by
     obtain ⟨i,hil,rfl⟩:=List.getElem_of_mem hy
     have hil':i < fs.size:=by simpa using hil
     have:=hi i fs[i] (Array.getElem?_eq_getElem hil')
     rw [List.getElem?_eq_getElem (by omega)] at this
     exact zpM d _ a ha _ _ _ (by simpa using this))
    rw [List.drop_zero,List.take_of_length_le (by omega)] at this
    exact this
   ·cases h
  ·cases h
theorem zFA {r:Reach} {b0:Nat} {t:TypeId} {v:Value} {dd:DataW H} {p:List MemPlace} {cts:List CT} {d:Nat} (hagg:zaw P t=some true) (hv:Value.okWide P w r b0 t v) (h:DataW.Trod enc P w base spare held t v dd p) (hc:zm0 P d t=some cts) :
  ∃ vs,HasRow cts vs∧RepP ren w zhO (.agg vs) v:=by
 obtain ⟨fuel,hf⟩:=h
 obtain ⟨vs,rd⟩:=zpM (ren:=ren) d t cts hc _ _ _ hf
 have:∃ us:Array Value,v=.agg us:=by
  unfold zaw at hagg
  cases hu:P.underlying t with
  | none=>simp [hu] at hagg
  | some T =>
   simp only [Value.okWide,hu] at hv
   cases T <;> simp [hu] at hagg
   ·obtain ⟨us,h1,_⟩:=hv; exact ⟨us,h1⟩
   ·obtain ⟨us,h1,_⟩:=hv; exact ⟨us,h1⟩
 obtain ⟨us,rfl⟩:=this
 have rd:RdC ren w cts us.toList vs:=rd
 refine ⟨vs,rd.row,?_⟩
 have key:=RepP.agg (ren:=ren) (w:=w) (Wr:=zhO) vs us.toList (by rw [rd.1,rd.2.1]) (fun i c u hc hu=>(rd.2.2 i u c _ hu hc (List.getElem?_eq_getElem (by rw [← rd.1]; exact (List.getElem?_eq_some_iff.1 hu).1))).2.1) (fun u hu=>by
  obtain ⟨i,hi,rfl⟩:=List.getElem_of_mem hu
  have h1:i < vs.length:=by rw [rd.2.1,← rd.1]; exact hi
  have h2:i < cts.length:=by rw [← rd.1]; exact hi
  exact (rd.2.2 i _ _ _ (List.getElem?_eq_getElem hi) (List.getElem?_eq_getElem h1) (List.getElem?_eq_getElem h2)).1)
 simpa using key
theorem zCe {r:Reach} {b0:Nat} {t:TypeId} {v:Value} {dd:DataW H} {p:List MemPlace} {ct:CT} {d:Nat} (hv1:v.cells=#[v]) (h:DataW.Trod enc P w base spare held t v dd p) (hc:zm0 P d t=some [ct]) :
  ∃ x,HasC ct x∧RepP ren w zhO x v:=by
 obtain ⟨fuel,hf⟩:=h
 obtain ⟨vs,rd⟩:=zpM (ren:=ren) d t [ct] hc _ _ _ hf
 rw [hv1] at rd
 have hl:vs.length=1:=rd.2.1
 obtain ⟨x,rfl⟩:∃ x,vs=[x]:=by
  match vs,hl with
  | [x],_=>exact ⟨x,rfl⟩
 obtain ⟨q1,q2,q3⟩:=rd.2.2 0 v x ct rfl rfl rfl
 exact ⟨x,q3,q2⟩
theorem HasC.int_inv {k:IntKind} {v:V} (h:HasC (.int k) v):∃ n,v=.sc (.int k n)∧(Lit.int k n).wf=true:=by
 cases h with | int _ n h=>exact ⟨n,rfl,h⟩
theorem HasC.sl_inv {cs:List CT} {v:V} (h:HasC (.sl cs) v):∃ es,v=.sl cs.length es∧es.length≤maxLen∧∀ e ∈ es,HasRow cs e:=by
 cases h with | sl _ es hl h0 h=>exact ⟨es,rfl,hl,fun e he=>⟨h0 e he,h e he⟩⟩
end
def zuO:V→Bor→Option Bool:=fun v _=>match v with
 | .sc (.bool true)=>some true
 | _=>none
theorem zD9 {v:V} {b:Bor} (h:zuO v b=some true):v=.sc (.bool true):=by
 unfold zuO at h
 split at h
 ·rfl
 ·cases h
end
section
set_option linter.unusedVariables false
set_option linter.unusedSimpArgs false
section
variable {β:Type}
theorem xl {α:Type} (a:α) (k:α→Option β):lt a k=k a:=Eq.trans rfl rfl
theorem yg {p:Prop} {inst:Decidable p} (h:p) (k:Option β):@chk β p inst k=k:=(zht p k).trans (if_pos h)
theorem zwQ {inst:Decidable True} (k:Option β):@chk β True inst k=k:=(zht True k).trans (if_pos trivial)
theorem ziM (a b:Option β):ifb true a b=a:=rfl
theorem zb8 (a b:Option β):ifb false a b=b:=rfl
theorem zyC {p:Prop} {inst:Decidable p} (a b:Option β):ifb (@decide p inst) a b=if p then a else b:=by
 by_cases h:p <;> simp [ifb,h]
theorem yQ {p:Prop} {inst:Decidable p} (h:p) (a b:Option β):ifb (@decide p inst) a b=a:=by rw [zyC,if_pos h]
theorem zM {p:Prop} {inst:Decidable p} (h:¬ p) (a b:Option β):ifb (@decide p inst) a b=b:=by rw [zyC,if_neg h]
theorem zpc {kd:IntKind} {cs:List V} {off:Nat} {n:Int} (h:cs[off]?=some (.sc (.int kd n))) (k:Int→Option β):cI kd cs off k=k n:=by
 simp [cI,zfd,h,aI,zwQ]
theorem zo9 {sz:Nat} {cs:List V} {off:Nat} {es:List (List V)} (h:cs[off]?=some (.sl sz es)) (k:List (List V)→Option β):cL sz cs off k=k es:=by
 simp [cL,zfd,h,aL,zwQ]
theorem zEr {sz:Nat} {cs:List V} {off:Nat} {es:List (List V)} (h:cs[off]?=some (.sl sz es)) (k:List (List V)→Option β):cLd sz cs off k=k es:=by
 simp [cLd,zfd,h,aLd,zwQ]
theorem zE1 {es:List (List V)} {j:Int} {c:List V} (h0:0≤j) (h:es[j.toNat]?=some c) (k:List V→Option β):idx es j k=k c:=by
 simp [idx,h0,h,zwQ]
theorem zcc {es:List (List V)} {j:Nat} {c:List V} (h:es[j]?=some c) (k:List V→Option β):idx es (j:Int) k=k c :=
 zE1 (Int.natCast_nonneg j) (by simpa using h) k
end
theorem xz {n:Int} (h1:-9223372036854775808≤n) (h2:n≤9223372036854775807):IntKind.wrap .i64 n=n:=IntWalk.i64_in _ ⟨h1,h2⟩
theorem zBl {k:IntKind} {n:Int} (hk:k.signed=false) (h1:0≤n) (h2:n < 2 ^ k.bits):IntKind.wrap k n=n:=by
 unfold IntKind.wrap
 simp only [hk,Bool.false_and,Bool.false_eq_true,if_false]
 exact Int.emod_eq_of_lt h1 h2
theorem zdx {n:Int} (h1:0≤n) (h2:n≤18446744073709551615):IntKind.wrap .u64 n=n:=zBl rfl h1 (Int.lt_of_le_of_lt h2 (by decide))
theorem zdw {n:Int} (h1:0≤n) (h2:n≤4294967295):IntKind.wrap .u32 n=n:=zBl rfl h1 (Int.lt_of_le_of_lt h2 (by decide))
theorem zFQ {n:Int} (h1:0≤n) (h2:n≤255):IntKind.wrap .u8 n=n:=zBl rfl h1 (Int.lt_of_le_of_lt h2 (by decide))
theorem zGy {n:Int} (h:(Lit.int .u8 n).wf=true):0≤n∧n≤255:=by
 simpa [Lit.wf,IntKind.min,IntKind.max,IntKind.signed,IntKind.bits] using h
def yl (k:IntKind) (l:List Int):List (List V):=l.map fun n=>[.sc (.int k n)]
theorem yx (k:IntKind) (l:List Int):(yl k l).length=l.length:=by simp [yl]
theorem zA6 (k:IntKind) {l:List Int} {i:Nat} (h:i < l.length):(yl k l)[i]?=some [.sc (.int k l[i])]:=by simp [yl,h]
theorem zzs (k:IntKind) (l:List Int) (i:Nat):(yl k l).drop i=yl k (l.drop i):=by simp [yl,List.map_drop]
theorem zd5 (k:IntKind) (l:List Int) (i:Nat):(yl k l).take i=yl k (l.take i):=by simp [yl,List.map_take]
theorem zcS (k:IntKind) (l m:List Int):yl k l++yl k m=yl k (l++m):=by simp [yl]
theorem HasRow.int1 {k:IntKind} {e:List V} (h:HasRow [.int k] e):∃ n,e=[.sc (.int k n)]∧(Lit.int k n).wf=true:=by
 obtain ⟨h1,h2⟩:=h
 match e,h1 with
 | [v],_ =>
  obtain ⟨n,rfl,hn⟩:=(h2 0 v _ rfl rfl).int_inv
  exact ⟨n,rfl,hn⟩
theorem zuC {k:IntKind}:∀ {es:List (List V)},(∀ e ∈ es,HasRow [.int k] e)→∃ l:List Int,es=yl k l∧∀ n ∈ l,(Lit.int k n).wf=true
 | [],_=>⟨[],rfl,by simp⟩
 | e::es,h=>by
  obtain ⟨n,rfl,hn⟩:=(h e (by simp)).int1
  obtain ⟨l,rfl,hl⟩:=zuC (es:=es) (fun x hx=>h x (by simp [hx]))
  exact ⟨n::l,rfl,by simpa [hn] using hl⟩
def row (k:IntKind) (l:List Int):List V:=l.map fun n=>.sc (.int k n)
theorem xw (k:IntKind) (l:List Int):(row k l).length=l.length:=by simp [row]
theorem zoR (k:IntKind):∀ (n:Nat) (l:List Int),n≤l.length→zh 1 n (row k l)=yl k (l.take n)
 | 0,l,_=>by simp [zh,yl]
 | n+1,[],h=>by simp at h
 | n+1,x::l,h=>by
  have:=zoR k n l (by simpa using h)
  simp only [row] at this
  simp [zh,row,yl,this]
theorem zEU (k:IntKind) (l:List Int) (i:Nat):(row k l).drop i=row k (l.drop i):=by simp [row,List.map_drop]
theorem zEX (k:IntKind) (l:List Int) (i:Nat):(row k l).take i=row k (l.take i):=by simp [row,List.map_take]
end
section
set_option linter.unusedVariables false
set_option linter.unusedSimpArgs false
theorem zbO {cs new:List V} (h:new.length=cs.length):zr cs 0 new=new:=by
 simp [zr,h]
theorem zzf {cs:List V} {off:Nat} {v:V} (h:off < cs.length):zr cs off [v]=cs.set off v:=by
 simp only [zr,List.length_singleton]
 rw [List.set_eq_take_append_cons_drop,if_pos h]
 simp
theorem zvy {sz:Nat}:∀ {es:List (List V)},(∀ e ∈ es,e.length=sz)→zh sz es.length es.flatten=es
 | [],_=>rfl
 | e::es,h=>by
  have he:=h e (by simp)
  have:=zvy (es:=es) (fun x hx=>h x (by simp [hx]))
  simp only [List.length_cons,zh,List.flatten_cons]
  rw [List.take_append_of_le_length (by omega),List.take_of_length_le (by omega),List.drop_append_of_le_length (by omega),List.drop_of_length_le (by omega),List.nil_append,this]
theorem zuk (k:IntKind):∀ (l m:List Int),l.length=m.length→zgF (row k l) (row k m)=some (decide (l=m))
 | [],[],_=>rfl
 | x::l,y::m,h=>by
  have:=zuk k l m (by simpa using h)
  simp only [row] at this
  simp only [row,List.map_cons,zgF,if_true,this,Option.map_some]
  congr 1
  by_cases h1:x=y <;> by_cases h2:l=m <;> simp [h1,h2]
theorem zFP {β:Type} (k:IntKind) {n:Nat} {l m:List Int} (h1:l.length=n) (h2:m.length=n) (κ:Bool→Option β):eqC n (row k l) (row k m) κ=κ (decide (l=m)):=by
 simp only [eqC,xw,h1,h2,and_self,zwQ,zuk k l m (by omega)]
theorem zAj {β:Type} {p:Prop} {inst:Decidable p} (a b:Option β):ifb (!(@decide p inst)) a b=if p then b else a:=by
 by_cases h:p <;> simp [ifb,h]
theorem zce {β:Type} (x y:Int) (a b:Option β):ifb (x != y) a b=if x=y then b else a:=by
 by_cases h:x=y
 ·subst h; simp [ifb]
 ·rw [bne_iff_ne.2 h,if_neg h]; rfl
end
section
set_option linter.unusedVariables false
set_option linter.unusedSimpArgs false
def zG2 {α:Type} (p:α→Bool):List α→Nat→Int
 | [],_=>-1
 | x::l,i=>if p x=true then (i:Int) else zG2 p l (i+1)
theorem zaM {i:Nat} (h:i≤1000000000):IntKind.wrap .i64 ((i:Int)+1)=((i+1:Nat):Int):=by
 rw [xz (by omega) (by omega)]; omega
end
section
set_option linter.unusedVariables false
set_option linter.unusedSimpArgs false
theorem zqj (n:Int):0≤IntKind.wrap .u64 n:=by
 unfold IntKind.wrap
 simp only [IntKind.signed,Bool.false_and,Bool.false_eq_true,if_false]
 exact Int.emod_nonneg _ (by decide)
def zod (p n:Int):Int :=
 ior .u32 (zbU .u32 p (zf4 .u64 (IntKind.wrap .u64 (IntKind.wrap .i64 (0 - n))) 31)) (zco .u32 p (IntKind.wrap .u64 (32 - (zf4 .u64 (IntKind.wrap .u64 (IntKind.wrap .i64 (0 - n))) 31))))
theorem zBR {β:Type} (L:Nat) (p n:Int) (k:Int→Option β):xp β L p n k=k (ior .u32 (zbU .u32 p (zf4 .u64 (IntKind.wrap .u64 n) 31)) (zco .u32 p (IntKind.wrap .u64 (32 - (zf4 .u64 (IntKind.wrap .u64 n) 31))))):=by
 unfold xp zfc
 simp only [xl]
 rw [yg (show 0≤zf4 .u64 (IntKind.wrap .u64 n) 31 from zqj _),yg (zqj _)]
theorem zBS {β:Type} (L:Nat) (p n:Int) (k:Int→Option β):xd β L p n k=k (zod p n):=by
 unfold xd zsc
 simp only [xl]
 rw [zBR]; exact Eq.trans rfl rfl
theorem zEI {β:Type} (L:Nat) (p n:Int) (k:Int→Option β):ye β L p n k=k (zod p n):=by
 unfold ye zpB
 simp only [xl]
 rw [zBR]; exact Eq.trans rfl rfl
theorem xN {β:Type} {k:IntKind} {l:List Int} {j:Nat} (h:j < l.length) (κ:Int→Option β):cI k (row k l) j κ=κ (l.getD j 0) :=
 zpc (by simp [row,h]) κ
theorem zfT {k:IntKind} {w:List Int} {j:Nat} (h:j < w.length) (x:Int):zr (row k w) j [V.sc (.int k x)]=row k (w.set j x):=by
 rw [zzf (by rw [xw]; exact h)]
 simp [row]
theorem zCt {t c:Nat} (h:c≤t) (h2:t≤1000000):IntKind.wrap .i64 ((t:Int) - (c:Int))=((t - c:Nat):Int):=by
 rw [xz (by omega) (by omega)]; omega
def s2 (w:List Int) (t:Nat):Int :=
 IntKind.wrap .u32 (IntKind.wrap .u32 (IntKind.wrap .u32 (w.getD (t - 16) 0+zb3 .u32 (zb3 .u32 (zod (w.getD (t - 15) 0) 7) (zod (w.getD (t - 15) 0) 18)) (zco .u32 (w.getD (t - 15) 0) 3))+w.getD (t - 7) 0)+zb3 .u32 (zb3 .u32 (zod (w.getD (t - 2) 0) 17) (zod (w.getD (t - 2) 0) 19)) (zco .u32 (w.getD (t - 2) 0) 10))
def zyE:Nat→Nat→List Int→List Int
 | 0,_,w=>w
 | m+1,t,w=>zyE m (t+1) (w.set t (s2 w t))
theorem zAh:∀ (m t:Nat) (w:List Int),(zyE m t w).length=w.length
 | 0,_,_=>rfl
 | m+1,t,w=>by rw [zyE,zAh m]; simp
theorem zy1 {β:Type} (L:Nat) {t:Nat} (h1:16≤t) (h2:t < 64) (b2:List V) {w:List Int} (hw:w.length=64) (kh:Int→List V→List V→Option β) (kx:List V→List V→Option β):zbW xd L (t:Int) b2 (row .u32 w) kh kx=kh ((t+1:Nat):Int) b2 (row .u32 (w.set t (s2 w t))):=by
 unfold zbW
 have e15:IntKind.wrap .i64 ((t:Int) - (15:Int))=((t - 15:Nat):Int):=zCt (c:=15) (by omega) (by omega)
 have e2:IntKind.wrap .i64 ((t:Int) - (2:Int))=((t - 2:Nat):Int):=zCt (c:=2) (by omega) (by omega)
 have e16:IntKind.wrap .i64 ((t:Int) - (16:Int))=((t - 16:Nat):Int):=zCt (c:=16) (by omega) (by omega)
 have e7:IntKind.wrap .i64 ((t:Int) - (7:Int))=((t - 7:Nat):Int):=zCt (c:=7) (by omega) (by omega)
 have c15:0≤((t - 15:Nat):Int)∧((t - 15:Nat):Int) < ((64:Nat):Int):=by omega
 have c2:0≤((t - 2:Nat):Int)∧((t - 2:Nat):Int) < ((64:Nat):Int):=by omega
 have c16:0≤((t - 16:Nat):Int)∧((t - 16:Nat):Int) < ((64:Nat):Int):=by omega
 have c7:0≤((t - 7:Nat):Int)∧((t - 7:Nat):Int) < ((64:Nat):Int):=by omega
 have c0:0≤(t:Int)∧(t:Int) < ((64:Nat):Int):=by omega
 have cl:True∧t+1≤64:=⟨trivial,by omega⟩
 rw [yQ (by omega:(t:Int) < 64)]
 simp only [xl,e15,e2,e16,e7,yg c15,yg c2,yg c16,yg c7,yg c0,Int.toNat_natCast,Nat.mul_one,Nat.zero_add,zBS,xN (show t - 15 < w.length by omega),xN (show t - 2 < w.length by omega),xN (show t - 16 < w.length by omega),xN (show t - 7 < w.length by omega),xw,hw,zfT (show t < w.length by omega),zaM (show t≤1000000000 by omega)]
 rw [yg cl]
 exact Eq.trans rfl rfl
theorem zCE {β:Type} (L:Nat) {t:Nat} (h1:16≤t) (h2:t < 64) (b2:List V) {w:List Int} (hw:w.length=64) (kh:Int→List V→List V→Option β) (kx:List V→List V→Option β):zcm ye L (t:Int) b2 (row .u32 w) kh kx=kh ((t+1:Nat):Int) b2 (row .u32 (w.set t (s2 w t))) :=
 (show zcm ye L (t:Int) b2 (row .u32 w) kh kx=zbW xd L (t:Int) b2 (row .u32 w) kh kx from rfl).trans (zy1 L h1 h2 b2 hw kh kx)
theorem zzn {β:Type} (L:Nat) (b2:List V) (kx:List V→List V→Option β):∀ (n m t:Nat) (w:List Int),w.length=64→16≤t→t+m=64→m < n→zbV xd L kx n (t:Int) b2 (row .u32 w)=kx b2 (row .u32 (zyE m t w))
 | 0,m,t,w,_,_,_,h=>by omega
 | n+1,0,t,w,hw,h1,h2,h=>by
  unfold zbV zbW
  rw [zM (by omega)]; exact Eq.trans rfl rfl
 | n+1,m+1,t,w,hw,h1,h2,h=>by
  unfold zbV
  rw [zy1 L h1 (by omega) b2 hw]
  exact zzn L b2 kx n m (t+1) _ (by simpa using hw) (by omega) (by omega) (by omega)
theorem zwZ {β:Type} (L:Nat) (b2:List V) (kx:List V→List V→Option β):∀ (n m t:Nat) (w:List Int),w.length=64→16≤t→t+m=64→m < n→zbs ye L kx n (t:Int) b2 (row .u32 w)=kx b2 (row .u32 (zyE m t w))
 | 0,m,t,w,_,_,_,h=>by omega
 | n+1,0,t,w,hw,h1,h2,h=>by
  unfold zbs zcm
  rw [zM (by omega)]; exact Eq.trans rfl rfl
 | n+1,m+1,t,w,hw,h1,h2,h=>by
  unfold zbs
  rw [zCE L h1 (by omega) b2 hw]
  exact zwZ L b2 kx n m (t+1) _ (by simpa using hw) (by omega) (by omega) (by omega)
theorem zvE {n:Int} (h1:0≤n) (h2:n < 4294967296):IntKind.wrap .u32 n=n:=zdw h1 (by omega)
theorem zo4 {a b:Int} {n:Nat} (ha:0≤a) (hb:0≤b) (hb2:b < 2 ^ n) (hs:a * 2 ^ n+b < 4294967296):ior .u32 (a * 2 ^ n) b=a * 2 ^ n+b:=by
 obtain ⟨x,rfl⟩:=Int.eq_ofNat_of_zero_le ha
 obtain ⟨y,rfl⟩:=Int.eq_ofNat_of_zero_le hb
 have hy:y < 2 ^ n:=by exact_mod_cast hb2
 have e:((x:Int) * 2 ^ n)=((x * 2 ^ n:Nat):Int):=by rw [Int.natCast_mul,Int.natCast_pow]; rfl
 rw [e] at hs ⊢
 have hxy:x * 2 ^ n+y < 4294967296:=by omega
 unfold ior
 have q1:(BitVec.ofInt (IntKind.bits .u32) ((x * 2 ^ n:Nat):Int)).toNat=x * 2 ^ n:=by
  rw [BitVec.toNat_ofInt]
  show (((x * 2 ^ n:Nat):Int) % ((2 ^ 32:Nat):Int)).toNat=_
  rw [← Int.natCast_emod,Int.toNat_natCast,Nat.mod_eq_of_lt (by omega)]
 have q2:(BitVec.ofInt (IntKind.bits .u32) (y:Int)).toNat=y:=by
  rw [BitVec.toNat_ofInt]
  show ((y:Int) % ((2 ^ 32:Nat):Int)).toNat=_
  rw [← Int.natCast_emod,Int.toNat_natCast,Nat.mod_eq_of_lt (by omega)]
 rw [BitVec.toNat_or,q1,q2,← Nat.shiftLeft_eq,← Nat.shiftLeft_add_eq_or_of_lt hy,Nat.shiftLeft_eq]
 rw [zvE (by omega) (by omega),Int.natCast_add]
theorem zmW {a:Int} (n:Nat) (hn:n≤32) (ha:0≤a) (hs:a * 2 ^ n < 4294967296):zbU .u32 a (n:Int)=a * 2 ^ n:=by
 unfold zbU
 have:min (Int.toNat (n:Int)) (IntKind.bits .u32)=n:=by
  rw [Int.toNat_natCast]; exact Nat.min_eq_left hn
 rw [this]
 have h0:0≤a * 2 ^ n:=Int.mul_nonneg ha (Int.le_of_lt (Int.pow_pos (by decide)))
 exact zvE h0 hs
theorem zeZ {l:List Int} (h:∀ x ∈ l,0≤x∧x≤255) (i:Nat):0≤l.getD i 0∧l.getD i 0≤255:=by
 rw [List.getD_eq_getElem?_getD]
 by_cases hi:i < l.length
 ·rw [List.getElem?_eq_getElem hi]; exact h _ (List.getElem_mem hi)
 ·rw [List.getElem?_eq_none (by omega)]; simp
theorem zeY {w:List Int} {t:Nat} (h:t < w.length) (x:Int):(w.set t x).getD t 0=x:=by
 simp [List.getD_eq_getElem?_getD,h]
theorem getD_set_ne {w:List Int} {t i:Nat} (h:t≠i) (x:Int):(w.set t x).getD i 0=w.getD i 0:=by
 simp [List.getD_eq_getElem?_getD,List.getElem?_set_ne h]
def zvQ (l:List Int) (t:Nat):Int :=
 ((l.getD (4 * t) 0 * 256+l.getD (4 * t+1) 0) * 256+l.getD (4 * t+2) 0) * 256+l.getD (4 * t+3) 0
theorem zFY {x y:Int} (h0:0≤x) (h1:x < 16777216) (b0:0≤y) (b1:y≤255):ior .u32 (zbU .u32 x (8:Int)) y=x * 256+y:=by
 have e1:zbU .u32 x (8:Int)=x * 2 ^ 8:=zmW 8 (by decide) h0 (by omega)
 rw [e1,zo4 (n:=8) h0 b0 (by omega) (by omega)]; exact Eq.trans rfl rfl
theorem zGD {a b c d:Int} (ha:0≤a∧a≤255) (hb:0≤b∧b≤255) (hc:0≤c∧c≤255) (hd:0≤d∧d≤255):ior .u32 (ior .u32 (ior .u32 (zbU .u32 a (24:Int)) (zbU .u32 b (16:Int))) (zbU .u32 c (8:Int))) d=((a * 256+b) * 256+c) * 256+d:=by
 have e1:zbU .u32 a (24:Int)=a * 2 ^ 24:=zmW 24 (by decide) ha.1 (by omega)
 have e2:zbU .u32 b (16:Int)=b * 2 ^ 16:=zmW 16 (by decide) hb.1 (by omega)
 have e3:zbU .u32 c (8:Int)=c * 2 ^ 8:=zmW 8 (by decide) hc.1 (by omega)
 rw [e1,e2,e3,zo4 (n:=24) ha.1 (by omega) (by omega) (by omega)]
 rw [show a * 2 ^ 24+b * 2 ^ 16=(a * 256+b) * 2 ^ 16 by omega,zo4 (n:=16) (by omega) (by omega) (by omega) (by omega)]
 rw [show (a * 256+b) * 2 ^ 16+c * 2 ^ 8=((a * 256+b) * 256+c) * 2 ^ 8 by omega,zo4 (n:=8) (by omega) (by omega) (by omega) (by omega)]
 omega
theorem zCK {t:Nat} (h:t≤1000000):IntKind.wrap .i64 ((4:Int) * (t:Int))=((4 * t:Nat):Int):=by
 rw [xz (by omega) (by omega)]; omega
theorem zwo {a b:Nat} (h:a≤1000000000) (h2:b≤1000000000):IntKind.wrap .i64 ((a:Int)+(b:Int))=((a+b:Nat):Int):=by
 rw [xz (by omega) (by omega)]; omega
theorem zF1 {β:Type} (L:Nat) {t j:Nat} (ht:t < 16) (hj:j < 4) (b2:List V) {l w:List Int} (hl:l.length=64) (hb:∀ x ∈ l,0≤x∧x≤255) (hw:w.length=64) {x:Int} (hx:w.getD t 0=x) (h0:0≤x) (h1:x < 16777216) (kh:Int→Int→Int→List V→List V→List V→Option β) (kx:Int→List V→List V→List V→Option β):z8 xd L (t:Int) (t:Int) (j:Int) (row .u8 l) b2 (row .u32 w) kh kx=kh (t:Int) (t:Int) ((j+1:Nat):Int) (row .u8 l) b2 (row .u32 (w.set t (x * 256+l.getD (4 * t+j) 0))):=by
 unfold z8
 have bb:=zeZ hb (4 * t+j)
 have e4:IntKind.wrap .i64 ((4:Int) * (t:Int))=((4 * t:Nat):Int):=zCK (by omega)
 have e5:IntKind.wrap .i64 (((4 * t:Nat):Int)+(j:Int))=((4 * t+j:Nat):Int):=zwo (by omega) (by omega)
 have e6:IntKind.wrap .u32 (l.getD (4 * t+j) 0)=l.getD (4 * t+j) 0:=zdw bb.1 (by omega)
 have e7:ior .u32 (zbU .u32 x (8:Int)) (l.getD (4 * t+j) 0)=x * 256+l.getD (4 * t+j) 0:=zFY h0 h1 bb.1 bb.2
 have c0:0≤(t:Int)∧(t:Int) < ((64:Nat):Int):=by omega
 have c5:0≤((4 * t+j:Nat):Int)∧((4 * t+j:Nat):Int) < ((64:Nat):Int):=by omega
 have cl:True∧t+1≤64:=⟨trivial,by omega⟩
 rw [yQ (by omega:(j:Int) < 4)]
 simp only [xl,e4,e5,yg c0,yg c5,Int.toNat_natCast,Nat.mul_one,Nat.zero_add,xN (show t < w.length by omega),xN (show 4 * t+j < l.length by omega),hx,e6,e7,xw,hw,zfT (show t < w.length by omega),zaM (show j≤1000000000 by omega)]
 rw [yg cl]
theorem zsx {β:Type} (L n:Nat) {t j:Nat} (ht:t < 16) (hj:j < 4) (b2:List V) {l w:List Int} (hl:l.length=64) (hb:∀ x ∈ l,0≤x∧x≤255) (hw:w.length=64) {x:Int} (hx:w.getD t 0=x) (h0:0≤x) (h1:x < 16777216) (kx:Int→List V→List V→List V→Option β):zR xd L kx (n+1) (t:Int) (t:Int) (j:Int) (row .u8 l) b2 (row .u32 w)=zR xd L kx n (t:Int) (t:Int) ((j+1:Nat):Int) (row .u8 l) b2 (row .u32 (w.set t (x * 256+l.getD (4 * t+j) 0))) :=
 (show zR xd L kx (n+1) (t:Int) (t:Int) (j:Int) (row .u8 l) b2 (row .u32 w)=z8 xd L (t:Int) (t:Int) (j:Int) (row .u8 l) b2 (row .u32 w) (fun p4 p9 p12 b1 b2 b3=>zR xd L kx n p4 p9 p12 b1 b2 b3) kx from rfl).trans (zF1 L ht hj b2 hl hb hw hx h0 h1 _ _)
theorem zF0 {β:Type} (L n:Nat) {t:Nat} (ht:t < 16) (b2:List V) {l w:List Int} (hl:l.length=64) (hb:∀ x ∈ l,0≤x∧x≤255) (hw:w.length=64) (hx:w.getD t 0=0) (kx:Int→List V→List V→List V→Option β):zR xd L kx (n+5) (t:Int) (t:Int) ((0:Nat):Int) (row .u8 l) b2 (row .u32 w)=kx (t:Int) (row .u8 l) b2 (row .u32 (w.set t (zvQ l t))):=by
 have htw:t < w.length:=by omega
 have a0:=zeZ hb (4 * t+0)
 have a1:=zeZ hb (4 * t+1)
 have a2:=zeZ hb (4 * t+2)
 have a3:=zeZ hb (4 * t+3)
 refine (zsx L (n+4) ht (j:=0) (by decide) b2 hl hb hw hx (by decide) (by decide) kx).trans ?_
 refine (zsx L (n+3) ht (j:=1) (by decide) b2 hl hb (by simpa using hw) (zeY htw _) (by omega) (by omega) kx).trans ?_
 rw [List.set_set]
 refine (zsx L (n+2) ht (j:=2) (by decide) b2 hl hb (by simpa using hw) (zeY htw _) (by omega) (by omega) kx).trans ?_
 rw [List.set_set]
 refine (zsx L (n+1) ht (j:=3) (by decide) b2 hl hb (by simpa using hw) (zeY htw _) (by omega) (by omega) kx).trans ?_
 rw [List.set_set]
 have e:(((0 * 256+l.getD (4 * t+0) 0) * 256+l.getD (4 * t+1) 0) * 256+l.getD (4 * t+2) 0) * 256+l.getD (4 * t+3) 0=zvQ l t:=by
  unfold zvQ; rw [Nat.add_zero,Int.zero_mul,Int.zero_add]
 rw [e]
 refine (show _=z8 xd L (t:Int) (t:Int) ((3+1:Nat):Int) (row .u8 l) b2 (row .u32 (w.set t (zvQ l t))) (fun p4 p9 p12 b1 b2 b3=>zR xd L kx n p4 p9 p12 b1 b2 b3) kx from rfl).trans ?_
 unfold z8
 rw [zM (by omega)]
def zyG:Nat→Nat→List Int→List Int→List Int
 | 0,_,_,w=>w
 | m+1,t,l,w=>zyG m (t+1) l (w.set t (zvQ l t))
theorem zsi:∀ (m t:Nat) (l w:List Int),(zyG m t l w).length=w.length
 | 0,_,_,_=>rfl
 | m+1,t,l,w=>by rw [zyG,zsi m]; simp
theorem zEw {β:Type} {L:Nat} (hL:5≤L) {t:Nat} (ht:t < 16) (b2:List V) {l w:List Int} (hl:l.length=64) (hb:∀ x ∈ l,0≤x∧x≤255) (hw:w.length=64) (hx:w.getD t 0=0) (k0:List V→List V→Option β) (kh:Int→List V→List V→List V→Option β):zbR xd L (t:Int) (row .u8 l) b2 (row .u32 w) k0 kh=kh ((t+1:Nat):Int) (row .u8 l) b2 (row .u32 (w.set t (zvQ l t))):=by
 obtain ⟨n,rfl⟩:=Nat.exists_eq_add_of_le hL
 unfold zbR zfi
 rw [yQ (by omega:(t:Int) < 16)]
 rw [Nat.add_comm 5 n]
 refine (zF0 (n+5) n ht b2 hl hb hw hx _).trans ?_
 unfold zdm
 rw [xl,zaM (by omega)]
theorem zAH {β:Type} {L:Nat} (hL:5≤L) (b2:List V) {l:List Int} (hl:l.length=64) (hb:∀ x ∈ l,0≤x∧x≤255) (k0:List V→List V→Option β):∀ (n m t:Nat) (w:List Int),w.length=64→(∀ i,t≤i→w.getD i 0=0)→t+m=16→m < n→zcb xd L k0 n (t:Int) (row .u8 l) b2 (row .u32 w)=k0 b2 (row .u32 (zyG m t l w))
 | 0,m,t,w,_,_,_,h=>by omega
 | n+1,0,t,w,hw,hz,h1,h=>by
  unfold zcb zbR zfi
  rw [zM (by omega)]; exact Eq.trans rfl rfl
 | n+1,m+1,t,w,hw,hz,h1,h=>by
  unfold zcb
  rw [zEw hL (by omega) b2 hl hb hw (hz t (Nat.le_refl t))]
  exact zAH hL b2 hl hb k0 n m (t+1) _ (by simpa using hw) (fun i hi=>by rw [getD_set_ne (by omega)]; exact hz i (by omega)) (by omega) (by omega)
theorem zDh {β:Type} (L:Nat) {t:Nat} (ht:t < 16) (b2:List V) {l w:List Int} (hl:l.length=64) (hb:∀ x ∈ l,0≤x∧x≤255) (hw:w.length=64) (kh:Int→List V→List V→List V→Option β) (k0:List V→List V→Option β):zcA ye L (t:Int) (row .u8 l) b2 (row .u32 w) kh k0=kh ((t+1:Nat):Int) (row .u8 l) b2 (row .u32 (w.set t (zvQ l t))):=by
 unfold zcA
 have a0:=zeZ hb (4 * t)
 have a1:=zeZ hb (4 * t+1)
 have a2:=zeZ hb (4 * t+2)
 have a3:=zeZ hb (4 * t+3)
 have e4:IntKind.wrap .i64 ((4:Int) * (t:Int))=((4 * t:Nat):Int):=zCK (by omega)
 have e1:IntKind.wrap .i64 (((4 * t:Nat):Int)+(1:Int))=((4 * t+1:Nat):Int):=zwo (b:=1) (by omega) (by omega)
 have e2:IntKind.wrap .i64 (((4 * t:Nat):Int)+(2:Int))=((4 * t+2:Nat):Int):=zwo (b:=2) (by omega) (by omega)
 have e3:IntKind.wrap .i64 (((4 * t:Nat):Int)+(3:Int))=((4 * t+3:Nat):Int):=zwo (b:=3) (by omega) (by omega)
 have c0:0≤(t:Int)∧(t:Int) < ((64:Nat):Int):=by omega
 have c4:0≤((4 * t:Nat):Int)∧((4 * t:Nat):Int) < ((64:Nat):Int):=by omega
 have c1:0≤((4 * t+1:Nat):Int)∧((4 * t+1:Nat):Int) < ((64:Nat):Int):=by omega
 have c2:0≤((4 * t+2:Nat):Int)∧((4 * t+2:Nat):Int) < ((64:Nat):Int):=by omega
 have c3:0≤((4 * t+3:Nat):Int)∧((4 * t+3:Nat):Int) < ((64:Nat):Int):=by omega
 have cl:True∧t+1≤64:=⟨trivial,by omega⟩
 rw [yQ (by omega:(t:Int) < 16)]
 simp only [xl,e4,e1,e2,e3,yg c0,yg c4,yg c1,yg c2,yg c3,Int.toNat_natCast,Nat.mul_one,Nat.zero_add,xN (show 4 * t < l.length by omega),xN (show 4 * t+1 < l.length by omega),xN (show 4 * t+2 < l.length by omega),xN (show 4 * t+3 < l.length by omega),zdw a0.1 (show l.getD (4 * t) 0≤4294967295 by omega),zdw a1.1 (show l.getD (4 * t+1) 0≤4294967295 by omega),zdw a2.1 (show l.getD (4 * t+2) 0≤4294967295 by omega),zdw a3.1 (show l.getD (4 * t+3) 0≤4294967295 by omega),zGD a0 a1 a2 a3,xw,hw,zfT (show t < w.length by omega),zaM (show t≤1000000000 by omega)]
 rw [yg cl]
 exact Eq.trans rfl rfl
theorem zze {β:Type} (L:Nat) (b2:List V) {l:List Int} (hl:l.length=64) (hb:∀ x ∈ l,0≤x∧x≤255) (k0:List V→List V→Option β):∀ (n m t:Nat) (w:List Int),w.length=64→t+m=16→m < n→zbG ye L k0 n (t:Int) (row .u8 l) b2 (row .u32 w)=k0 b2 (row .u32 (zyG m t l w))
 | 0,m,t,w,_,_,h=>by omega
 | n+1,0,t,w,hw,h1,h=>by
  unfold zbG zcA
  rw [zM (by omega)]; exact Eq.trans rfl rfl
 | n+1,m+1,t,w,hw,h1,h=>by
  unfold zbG
  rw [zDh L (by omega) b2 hl hb hw]
  exact zze L b2 hl hb k0 n m (t+1) _ (by simpa using hw) (by omega) (by omega)
def zns (l:List Int):List Int:=zyE 48 16 (zyG 16 0 l (List.replicate 64 0))
theorem zgR (l:List Int):(zns l).length=64:=by
 unfold zns; rw [zAh,zsi]; rfl
theorem zrt (n:Nat) (k:IntKind) (x:Int):List.replicate n (V.sc (.int k x))=row k (List.replicate n x):=by simp [row]
theorem zEv (n i:Nat):(List.replicate n (0:Int)).getD i 0=0:=by
 rw [List.getD_eq_getElem?_getD]
 by_cases hi:i < n
 ·simp [hi]
 ·simp [hi]
theorem zy9 {β:Type} {w:List Int} (hw:w.length=64) (z:List Int) (hz:z.length=64) (k:List V→Option β) :
  chk (0+64≤(List.length (row .u32 w))) (chk ((List.length (List.take 64 (row .u32 w)))=64∧0+64≤(List.length (row .u32 z))) (
   lt (zr (row .u32 z) 0 (List.take 64 (row .u32 w))) fun r41=>chk (0=0∧(List.length r41)=64∧64≠0) (k r41)))=k (row .u32 w):=by
 have e:List.take 64 (row .u32 w)=row .u32 w:=List.take_of_length_le (by rw [xw]; omega)
 rw [xl,e,zbO (by rw [xw,xw]; omega)]
 rw [yg (by rw [xw]; omega),yg ⟨by rw [xw]; omega,by rw [xw]; omega⟩,yg ⟨rfl,by rw [xw]; omega,by decide⟩]
theorem zBv {β:Type} {L:Nat} (hL:100≤L) {l:List Int} (hl:l.length=64) (hb:∀ x ∈ l,0≤x∧x≤255) (k:List V→Option β):yr β L (row .u8 l) k=k (row .u32 (zns l)):=by
 unfold yr zi0 zmK
 rw [zrt]
 refine (zAH (by omega) _ hl hb _ L 16 0 _ rfl (fun i _=>?_) rfl (by omega)).trans ?_
 ·exact zEv 64 i
 unfold zdH zgI
 refine (zzn L _ _ L 48 16 _ (by rw [zsi]; rfl) (by omega) rfl (by omega)).trans ?_
 unfold zf9
 exact zy9 (zgR l) _ rfl k
theorem zAa {β:Type} {L:Nat} (hL:100≤L) {l:List Int} (hl:l.length=64) (hb:∀ x ∈ l,0≤x∧x≤255) (k:List V→Option β):zo β L (row .u8 l) k=k (row .u32 (zns l)):=by
 unfold zo zg8 zkM
 rw [zrt]
 refine (zze L _ hl hb _ L 16 0 _ rfl rfl (by omega)).trans ?_
 unfold zcU zfy
 refine (zwZ L _ _ L 48 16 _ (by rw [zsi]; rfl) (by omega) rfl (by omega)).trans ?_
 unfold zff
 exact zy9 (zgR l) _ rfl k
end
section
set_option linter.unusedVariables false
set_option linter.unusedSimpArgs false
def kc:List Int:=gk_sha_k.map fun v=>match v with | .sc (.int _ n)=>n | _=>0
theorem zDo:gk_sha_k=row .u32 kc:=rfl
theorem zDL:kc.length=64:=rfl
def t1 (e f g h kk ww:Int):Int :=
 IntKind.wrap .u32 (IntKind.wrap .u32 (IntKind.wrap .u32 (IntKind.wrap .u32 (h+zb3 .u32 (zb3 .u32 (zod e 6) (zod e 11)) (zod e 25))+zb3 .u32 (zf4 .u32 e f) (zf4 .u32 (zEY .u32 e) g))+kk)+ww)
def t2 (a b c:Int):Int :=
 IntKind.wrap .u32 (zb3 .u32 (zb3 .u32 (zod a 2) (zod a 13)) (zod a 22)+zb3 .u32 (zb3 .u32 (zf4 .u32 a b) (zf4 .u32 a c)) (zf4 .u32 b c))
def zsQ {γ:Type} (w:List Int) (κ:Int→Int→Int→Int→Int→Int→Int→Int→γ):Nat→Nat→Int→Int→Int→Int→Int→Int→Int→Int→γ
 | 0,_,a,b,c,d,e,f,g,h=>κ a b c d e f g h
 | m+1,t,a,b,c,d,e,f,g,h=>zsQ w κ m (t+1) (IntKind.wrap .u32 (t1 e f g h (kc.getD t 0) (w.getD t 0)+t2 a b c)) a b c (IntKind.wrap .u32 (d+t1 e f g h (kc.getD t 0) (w.getD t 0))) e f g
theorem zqe {γ δ:Type} (u:γ→δ) (w:List Int) (κ:Int→Int→Int→Int→Int→Int→Int→Int→γ):∀ (m t:Nat) (a b c d e f g h:Int),zsQ w (fun a b c d e f g h=>u (κ a b c d e f g h)) m t a b c d e f g h=u (zsQ w κ m t a b c d e f g h)
 | 0,_,_,_,_,_,_,_,_,_=>rfl
 | m+1,t,a,b,c,d,e,f,g,h=>zqe u w κ m (t+1) _ _ _ _ _ _ _ _
theorem zvD {γ:Type} (u:γ) (w:List Int):∀ (m t:Nat) (a b c d e f g h:Int),zsQ w (fun _ _ _ _ _ _ _ _=>u) m t a b c d e f g h=u
 | 0,_,_,_,_,_,_,_,_,_=>rfl
 | m+1,t,a,b,c,d,e,f,g,h=>zvD u w m (t+1) _ _ _ _ _ _ _ _
theorem zDt {β:Type} (L:Nat) {t:Nat} (ht:t < 64) (a b c d e f g h:Int) (b2:List V) (z0 z1 z2 z3 z4 z5 z6 z7:Int) {w:List Int} (hw:w.length=64) (kh:zf5 β) (kx:zg3 β):zcD yr xd L a b c d e f g h (t:Int) b2 z0 z1 z2 z3 z4 z5 z6 z7 (row .u32 w) kh kx=kh (IntKind.wrap .u32 (t1 e f g h (kc.getD t 0) (w.getD t 0)+t2 a b c)) a b c (IntKind.wrap .u32 (d+t1 e f g h (kc.getD t 0) (w.getD t 0))) e f g ((t+1:Nat):Int) b2 z0 z1 z2 z3 z4 z5 z6 z7 (row .u32 w):=by
 unfold zcD
 have c0:0≤(t:Int)∧(t:Int) < ((64:Nat):Int):=by omega
 have ek:∀ κ:Int→Option β,cI .u32 (List.drop t gk_sha_k) 0 κ=κ (kc.getD t 0):=by
  intro κ
  rw [zDo,zEU,xN (by rw [List.length_drop,zDL]; omega)]
  simp [List.getD_eq_getElem?_getD]
 rw [yQ (by omega:(t:Int) < 64)]
 simp only [xl,yg c0,zBS,Int.toNat_natCast,Nat.mul_one,Nat.zero_add,ek,xN (show t < w.length by omega),zaM (show t≤1000000000 by omega)]
 exact Eq.trans rfl rfl
theorem zCp {β:Type} (L:Nat) {t:Nat} (ht:t < 64) (a b c d e f g h:Int) (b2:List V) (z0 z1 z2 z3 z4 z5 z6 z7:Int) {w:List Int} (hw:w.length=64) (kh:zfw β) (kx:zfU β):zcr zo zm ye L a b c d e f g h (t:Int) b2 z0 z1 z2 z3 z4 z5 z6 z7 (row .u32 w) gk_sha_k kh kx=kh (IntKind.wrap .u32 (t1 e f g h (kc.getD t 0) (w.getD t 0)+t2 a b c)) a b c (IntKind.wrap .u32 (d+t1 e f g h (kc.getD t 0) (w.getD t 0))) e f g ((t+1:Nat):Int) b2 z0 z1 z2 z3 z4 z5 z6 z7 (row .u32 w) gk_sha_k:=by
 unfold zcr
 have c0:0≤(t:Int)∧(t:Int) < ((64:Nat):Int):=by omega
 have ek:∀ κ:Int→Option β,cI .u32 gk_sha_k t κ=κ (kc.getD t 0):=by
  intro κ
  rw [zDo,xN (by rw [zDL]; omega)]
 rw [yQ (by omega:(t:Int) < 64)]
 simp only [xl,yg c0,zEI,Int.toNat_natCast,Nat.mul_one,Nat.zero_add,ek,xN (show t < w.length by omega),zaM (show t≤1000000000 by omega)]
 exact Eq.trans rfl rfl
theorem zzd {β:Type} (L:Nat) (b2:List V) (z0 z1 z2 z3 z4 z5 z6 z7:Int) {w:List Int} (hw:w.length=64) (kx:zg3 β):∀ (n m t:Nat) (a b c d e f g h:Int),t+m=64→m < n→zbF yr xd L kx n a b c d e f g h (t:Int) b2 z0 z1 z2 z3 z4 z5 z6 z7 (row .u32 w)=zsQ w (fun a b c d e f g h=>kx a b c d e f g h b2 z0 z1 z2 z3 z4 z5 z6 z7) m t a b c d e f g h
 | 0,m,t,_,_,_,_,_,_,_,_,_,h=>by omega
 | n+1,0,t,a,b,c,d,e,f,g,h,h1,h2=>by
  unfold zbF zcD
  rw [zM (by omega)]; exact Eq.trans rfl rfl
 | n+1,m+1,t,a,b,c,d,e,f,g,h,h1,h2=>by
  unfold zbF
  rw [zDt L (by omega) a b c d e f g h b2 z0 z1 z2 z3 z4 z5 z6 z7 hw]
  exact zzd L b2 z0 z1 z2 z3 z4 z5 z6 z7 hw kx n m (t+1) _ _ _ _ _ _ _ _ (by omega) (by omega)
theorem zwK {β:Type} (L:Nat) (b2:List V) (z0 z1 z2 z3 z4 z5 z6 z7:Int) {w:List Int} (hw:w.length=64) (kx:zfU β):∀ (n m t:Nat) (a b c d e f g h:Int),t+m=64→m < n→zbp zo zm ye L kx n a b c d e f g h (t:Int) b2 z0 z1 z2 z3 z4 z5 z6 z7 (row .u32 w) gk_sha_k=zsQ w (fun a b c d e f g h=>kx a b c d e f g h b2 z0 z1 z2 z3 z4 z5 z6 z7) m t a b c d e f g h
 | 0,m,t,_,_,_,_,_,_,_,_,_,h=>by omega
 | n+1,0,t,a,b,c,d,e,f,g,h,h1,h2=>by
  unfold zbp zcr
  rw [zM (by omega)]; exact Eq.trans rfl rfl
 | n+1,m+1,t,a,b,c,d,e,f,g,h,h1,h2=>by
  unfold zbp
  rw [zCp L (by omega) a b c d e f g h b2 z0 z1 z2 z3 z4 z5 z6 z7 hw]
  exact zwK L b2 z0 z1 z2 z3 z4 z5 z6 z7 hw kx n m (t+1) _ _ _ _ _ _ _ _ (by omega) (by omega)
def zuL (hs:List Int) (a b c d e f g h:Int):List Int :=
 [IntKind.wrap .u32 (hs.getD 0 0+a),IntKind.wrap .u32 (hs.getD 1 0+b),IntKind.wrap .u32 (hs.getD 2 0+c),IntKind.wrap .u32 (hs.getD 3 0+d),IntKind.wrap .u32 (hs.getD 4 0+e),IntKind.wrap .u32 (hs.getD 5 0+f),IntKind.wrap .u32 (hs.getD 6 0+g),IntKind.wrap .u32 (hs.getD 7 0+h)]
def zyl (hs l:List Int):List Int :=
 zsQ (zns l) (zuL hs) 64 0 (hs.getD 0 0) (hs.getD 1 0) (hs.getD 2 0) (hs.getD 3 0) (hs.getD 4 0) (hs.getD 5 0) (hs.getD 6 0) (hs.getD 7 0)
theorem zkV (hs l:List Int):(zyl hs l).length=8 :=
 ((zqe List.length (zns l) (zuL hs) 64 0 _ _ _ _ _ _ _ _).symm).trans (zvD 8 (zns l) 64 0 _ _ _ _ _ _ _ _)
theorem zEy {β:Type} (L:Nat) {hs:List Int} (hh:hs.length=8) (k:List V→Option β) (a b c d e f g h z0 z1 z2 z3 z4 z5 z6 z7:Int):zdq yr xd L a b c d e f g h (row .u32 hs) z0 z1 z2 z3 z4 z5 z6 z7 k=k (row .u32 (zuL hs a b c d e f g h)):=by
 unfold zdq
 simp only [xl,xN (show 0 < hs.length by omega),xN (show 1 < hs.length by omega),xN (show 2 < hs.length by omega),xN (show 3 < hs.length by omega),xN (show 4 < hs.length by omega),xN (show 5 < hs.length by omega),xN (show 6 < hs.length by omega),xN (show 7 < hs.length by omega)]
 exact (yg ⟨trivial,rfl,by decide⟩ _).trans rfl
theorem zDq {β:Type} (L:Nat) {hs:List Int} (hh:hs.length=8) (k:List V→Option β) (a b c d e f g h z0 z1 z2 z3 z4 z5 z6 z7:Int):zcP zo zm ye L a b c d e f g h (row .u32 hs) z0 z1 z2 z3 z4 z5 z6 z7 k=k (row .u32 (zuL hs a b c d e f g h)):=by
 unfold zcP
 simp only [xl,xN (show 0 < hs.length by omega),xN (show 1 < hs.length by omega),xN (show 2 < hs.length by omega),xN (show 3 < hs.length by omega),xN (show 4 < hs.length by omega),xN (show 5 < hs.length by omega),xN (show 6 < hs.length by omega),xN (show 7 < hs.length by omega)]
 exact (yg ⟨trivial,rfl,by decide⟩ _).trans rfl
theorem zBI {β:Type} {L:Nat} (hL:100≤L) {hs l:List Int} (hh:hs.length=8) (hl:l.length=64) (hb:∀ x ∈ l,0≤x∧x≤255) (k:List V→Option β):xh β L (row .u32 hs) (row .u8 l) k=k (row .u32 (zyl hs l)):=by
 unfold xh zjp znc
 have e1:List.take 64 (row .u8 l)=row .u8 l:=List.take_of_length_le (by rw [xw]; omega)
 rw [yg (by rw [xw]; omega),e1]
 refine (zBv hL hl hb _).trans ?_
 rw [yg ⟨by rw [xw,zgR],by decide⟩,xl,zbO (by rw [xw,zgR]; rfl)]
 rw [xN (show 0 < hs.length by omega),xN (show 1 < hs.length by omega),xN (show 2 < hs.length by omega),xN (show 3 < hs.length by omega),xN (show 4 < hs.length by omega),xN (show 5 < hs.length by omega),xN (show 6 < hs.length by omega),xN (show 7 < hs.length by omega)]
 refine (zzd L (row .u32 hs) 0 0 0 0 0 0 0 0 (zgR l) _ L 64 0 _ _ _ _ _ _ _ _ rfl (by omega)).trans ?_
 simp only [zEy L hh]
 exact zqe (fun r=>k (row .u32 r)) (zns l) (zuL hs) 64 0 _ _ _ _ _ _ _ _
theorem zA1 {β:Type} (L:Nat) (k:List V→Option β):zm β L k=k gk_sha_k:=by
 unfold zm zjQ
 rw [xl]
 exact (yg ⟨rfl,rfl,by decide⟩ _).trans rfl
theorem zAi {β:Type} {L:Nat} (hL:100≤L) {hs l:List Int} (hh:hs.length=8) (hl:l.length=64) (hb:∀ x ∈ l,0≤x∧x≤255) (k:List V→Option β):xf β L (row .u32 hs) (row .u8 l) k=k (row .u32 (zyl hs l)):=by
 unfold xf zhl zkH
 have e1:List.take 64 (row .u8 l)=row .u8 l:=List.take_of_length_le (by rw [xw]; omega)
 rw [yg (by rw [xw]; omega),e1]
 refine (zAa hL hl hb _).trans ?_
 refine (zA1 L _).trans ?_
 rw [yg ⟨by rw [xw,zgR],by decide⟩,xl,zbO (cs:=List.replicate 64 (V.sc (.int .u32 (0:Int)))) (new:=row .u32 (zns l)) (by rw [xw,zgR]; rfl)]
 rw [yg ⟨rfl,by decide⟩,xl,zbO (cs:=List.replicate 64 (V.sc (.int .u32 (0:Int)))) (new:=gk_sha_k) rfl]
 rw [xN (show 0 < hs.length by omega),xN (show 1 < hs.length by omega),xN (show 2 < hs.length by omega),xN (show 3 < hs.length by omega),xN (show 4 < hs.length by omega),xN (show 5 < hs.length by omega),xN (show 6 < hs.length by omega),xN (show 7 < hs.length by omega)]
 refine (zwK L (row .u32 hs) 0 0 0 0 0 0 0 0 (zgR l) _ L 64 0 _ _ _ _ _ _ _ _ rfl (by omega)).trans ?_
 simp only [zDq L hh]
 exact zqe (fun r=>k (row .u32 r)) (zns l) (zuL hs) 64 0 _ _ _ _ _ _ _ _
end
section
set_option linter.unusedVariables false
set_option linter.unusedSimpArgs false
def zs (n:Nat):Nat:=(64 - (n+9) % 64) % 64
def pb (n i:Nat):Int:=IntKind.wrap .u8 (zco .u64 (IntKind.wrap .u64 ((8:Int) * (n:Int))) ((56 - 8 * i:Nat):Int))
def pbs (n:Nat):Nat→Nat→List Int
 | 0,_=>[]
 | m+1,i=>pb n i::pbs n m (i+1)
theorem zCa (n:Nat):∀ m i:Nat,(pbs n m i).length=m
 | 0,_=>rfl
 | m+1,i=>by rw [pbs,List.length_cons,zCa n m]
theorem zs1 (n:Int):0≤IntKind.wrap .u8 n∧IntKind.wrap .u8 n≤255:=by
 unfold IntKind.wrap
 simp only [IntKind.signed,Bool.false_and,Bool.false_eq_true,if_false]
 have h1:=Int.emod_nonneg n (show (2:Int) ^ IntKind.bits .u8≠0 by decide)
 have h2:=Int.emod_lt_of_pos n (show (0:Int) < 2 ^ IntKind.bits .u8 by decide)
 exact ⟨h1,Int.le_of_lt_add_one h2⟩
theorem zDn (n:Nat):∀ m i:Nat,∀ x ∈ pbs n m i,0≤x∧x≤255
 | 0,_=>fun x h=>by simp [pbs] at h
 | m+1,i=>fun x h=>by
  rw [pbs,List.mem_cons] at h
  rcases h with rfl | h
  ·exact zs1 _
  ·exact zDn n m (i+1) x h
def ze8 (n:Nat):List Int:=(128::List.replicate (zs n) 0)++pbs n 8 0
theorem zpJ (n:Nat):(ze8 n).length=9+zs n:=by simp [ze8,zCa]; omega
theorem zFu (n:Nat):∀ x ∈ ze8 n,0≤x∧x≤255:=by
 intro x hx
 rw [ze8,List.mem_append,List.mem_cons] at hx
 rcases hx with (rfl | hx) | hx
 ·exact ⟨by decide,by decide⟩
 ·rw [List.eq_of_mem_replicate hx]; exact ⟨by decide,by decide⟩
 ·exact zDn n 8 0 x hx
theorem zx2 (n:Nat):zs n < 64:=Nat.mod_lt _ (by decide)
theorem zDm (n:Nat):(n+9+zs n) % 64=0:=by unfold zs; omega
theorem zGo (n k:Nat) (h:k < zs n):(n+9+k) % 64≠0:=by unfold zs at h; omega
theorem zss (x:Int):zh 1 1 [V.sc (.int .u8 x)]=yl .u8 [x]:=rfl
theorem zEu {β:Type} (L:Nat) {n i:Nat} (hi:i < 8) (b:Nat) {acc:List Int} (ha:acc.length≤1000000) (kh:Int→List (List V)→Int→Nat→Option β) (kx:List (List V)→Nat→Option β):zd4 L (n:Int) (yl .u8 acc) (i:Int) b kh kx=kh (n:Int) (yl .u8 (acc++[pb n i])) ((i+1:Nat):Int) b:=by
 unfold zd4
 have e8:IntKind.wrap .i64 ((8:Int) * (i:Int))=((8 * i:Nat):Int):=by rw [xz (by omega) (by omega)]; omega
 have e56:IntKind.wrap .i64 ((56:Int) - ((8 * i:Nat):Int))=((56 - 8 * i:Nat):Int):=by rw [xz (by omega) (by omega)]; omega
 rw [yQ (by omega:(i:Int) < 8)]
 simp only [xl,e8,e56,zss,zcS,zaM (show i≤1000000000 by omega)]
 rw [yg (by omega),yg (by simp [yx,xj]; omega)]
 exact Eq.trans rfl rfl
theorem zAD {β:Type} (L n b:Nat) (kx:List (List V)→Nat→Option β):∀ (f m i:Nat) (acc:List Int),i+m=8→m < f→acc.length≤900000+i→zbL L kx f (n:Int) (yl .u8 acc) (i:Int) b=kx (yl .u8 (acc++pbs n m i)) b
 | 0,m,i,acc,_,h,_=>by omega
 | f+1,0,i,acc,h1,h2,h3=>by
  unfold zbL zd4
  rw [zM (by omega),pbs,List.append_nil]
 | f+1,m+1,i,acc,h1,h2,h3=>by
  unfold zbL
  rw [zEu L (by omega) b (by omega)]
  refine (zAD L n b kx f m (i+1) _ (by omega) (by omega) (by simp; omega)).trans ?_
  rw [pbs,List.append_assoc]; exact Eq.trans rfl rfl
theorem zGh {β:Type} {L:Nat} (hL:100≤L) {n:Nat} (hn:n≤100000000) (k k1:List (List V)→Option β):xq β L (n:Int) k k1=k1 (yl .u8 (ze8 n)):=by
 unfold xq zqA zt6
 have z64:=zx2 n
 have e0:IntKind.wrap .u64 ((n:Int)+(9:Int))=((n+9:Nat):Int):=by rw [zdx (by omega) (by omega)]; omega
 have e1:Int.tmod ((n+9:Nat):Int) (64:Int)=(((n+9) % 64:Nat):Int):=(Int.ofNat_tmod (n+9) 64).symm
 have e2:IntKind.wrap .u64 ((64:Int) - (((n+9) % 64:Nat):Int))=((64 - (n+9) % 64:Nat):Int):=by rw [zdx (by omega) (by omega)]; omega
 have e3:Int.tmod ((64 - (n+9) % 64:Nat):Int) (64:Int)=((zs n:Nat):Int):=(Int.ofNat_tmod (64 - (n+9) % 64) 64).symm
 have e4:IntKind.wrap .u64 ((1:Int)+((zs n:Nat):Int))=((1+zs n:Nat):Int):=by rw [zdx (by omega) (by omega)]; omega
 have e5:IntKind.wrap .u64 ((9:Int)+((zs n:Nat):Int))=((9+zs n:Nat):Int):=by rw [zdx (by omega) (by omega)]; omega
 have e6:List.flatten (List.replicate (9+zs n) [V.sc (.int .u8 (0:Int))])=row .u8 (List.replicate (9+zs n) 0):=by
  rw [List.flatten_replicate_singleton,zrt]
 have e7:zr (row .u8 (List.replicate (9+zs n) 0)) 0 [V.sc (.int .u8 (128:Int))]=row .u8 (128::List.replicate (8+zs n) 0):=by
  rw [zfT (by simp; omega),show 9+zs n=(8+zs n)+1 by omega,List.replicate_succ,List.set_cons_zero]
 simp only [xl,e0,e1,e2,e3,e4,e5,Int.toNat_natCast,e6,e7]
 rw [yg ⟨by omega,by omega,by simp [xj]; omega,by simp [xj]; omega⟩,yg ⟨by omega,by omega⟩,yg ⟨trivial,by simp [xw]; omega⟩]
 obtain ⟨L',rfl⟩:=Nat.exists_eq_add_of_le hL
 rw [show 100+L'=(99+L')+1 by omega]
 refine (show _=zgZ (99+L'+1) (n:Int) (1+zs n) (0:Int) (row .u8 (128::List.replicate (8+zs n) 0)) (fun p0 p4 p18 b15=>zbL (99+L'+1) (fun p4 b15=>zdI (99+L'+1) p4 b15 k1) (99+L') p0 p4 p18 b15) (fun p4l b15=>ziF (99+L'+1) p4l b15 k) from rfl).trans ?_
 unfold zgZ
 have e8:IntKind.wrap .i64 ((8:Int) * (0:Int))=((8 * 0:Nat):Int):=by rw [xz (by omega) (by omega)]; omega
 have e56:IntKind.wrap .i64 ((56:Int) - ((8 * 0:Nat):Int))=((56 - 8 * 0:Nat):Int):=by rw [xz (by omega) (by omega)]; omega
 have e9:IntKind.wrap .i64 ((0:Int)+(1:Int))=((1:Nat):Int):=zaM (i:=0) (by omega)
 have ec:zh 1 (1+zs n) (row .u8 (128::List.replicate (8+zs n) 0))=yl .u8 (128::List.replicate (zs n) 0):=by
  rw [zoR _ _ _ (by simp; omega),show 1+zs n=zs n+1 by omega,List.take_succ_cons,List.take_replicate,show min (zs n) (8+zs n)=zs n by omega]
 rw [yQ (by decide:(0:Int) < 8)]
 simp only [xl,e8,e56,e9,zss,ec,zcS]
 rw [yg ⟨trivial,by simp [xw]; omega,by simp [xw]⟩,yg (by omega),yg (by simp [yx,xj]; omega)]
 refine (zAD _ n _ _ (99+L') 7 1 _ rfl (by omega) (by simp; omega)).trans ?_
 unfold zdI ze8
 rw [pbs,List.append_assoc]; exact Eq.trans rfl rfl
theorem zwO {β:Type} (L:Nat) {n:Nat} (hn:n≤100000000) (kx:Int→List (List V)→Option β):∀ (f m k:Nat),k+m=zs n→m < f→zfN L kx f (n:Int) (yl .u8 (128::List.replicate k 0))=kx (n:Int) (yl .u8 (128::List.replicate (zs n) 0))
 | 0,m,k,_,h=>by omega
 | f+1,m,k,h1,h2=>by
  have z64:=zx2 n
  unfold zfN zmb
  have e0:IntKind.wrap .u64 (((yl .u8 (128::List.replicate k 0)).length:Nat):Int)=((k+1:Nat):Int):=by
   rw [yx,List.length_cons,List.length_replicate,zdx (by omega) (by omega)]
  have e1:IntKind.wrap .u64 ((n:Int)+((k+1:Nat):Int))=((n+(k+1):Nat):Int):=by rw [zdx (by omega) (by omega)]; omega
  have e2:IntKind.wrap .u64 (((n+(k+1):Nat):Int)+(8:Int))=((n+9+k:Nat):Int):=by rw [zdx (by omega) (by omega)]; omega
  have e3:Int.tmod ((n+9+k:Nat):Int) (64:Int)=(((n+9+k) % 64:Nat):Int):=(Int.ofNat_tmod (n+9+k) 64).symm
  simp only [xl,e0,e1,e2,e3]
  rw [zce]
  match m,h1,h2 with
  | 0,h1,h2 =>
   have:k=zs n:=by omega
   subst this
   rw [if_pos (by rw [zDm]; rfl)]
  | m+1,h1,h2 =>
   have hz:=zGo n k (by omega)
   rw [if_neg (by omega)]
   rw [zss,zcS]
   rw [yg (by simp [yx,xj]; omega)]
   have e4:(128::List.replicate k (0:Int))++[0]=128::List.replicate (k+1) 0:=by
    rw [List.cons_append,List.replicate_succ']
   rw [e4]
   exact zwO L hn kx f m (k+1) (by omega) (by omega)
theorem zD7 {β:Type} (L:Nat) {n i:Nat} (hi:i < 8) {acc:List Int} (ha:acc.length≤1000000) (kh:Int→List (List V)→Int→Option β) (kx:List (List V)→Option β):zez L (n:Int) (yl .u8 acc) ((7:Int) - (i:Int)) kh kx=kh (n:Int) (yl .u8 (acc++[pb n i])) ((7:Int) - ((i+1:Nat):Int)):=by
 unfold zez
 have e8:IntKind.wrap .i64 ((8:Int) * ((7:Int) - (i:Int)))=((56 - 8 * i:Nat):Int):=by rw [xz (by omega) (by omega)]; omega
 have e1:IntKind.wrap .i64 (((7:Int) - (i:Int)) - (1:Int))=(7:Int) - ((i+1:Nat):Int):=by rw [xz (by omega) (by omega)]; omega
 rw [yQ (by omega:(7:Int) - (i:Int) ≥ 0)]
 simp only [xl,e8,e1,zss,zcS]
 rw [yg (by omega),yg (by simp [yx,xj]; omega)]
 exact Eq.trans rfl rfl
theorem zzj {β:Type} (L n:Nat) (kx:List (List V)→Option β):∀ (f m i:Nat) (acc:List Int),i+m=8→m < f→acc.length≤900000+i→zdc L kx f (n:Int) (yl .u8 acc) ((7:Int) - (i:Int))=kx (yl .u8 (acc++pbs n m i))
 | 0,m,i,acc,_,h,_=>by omega
 | f+1,0,i,acc,h1,h2,h3=>by
  unfold zdc zez
  rw [zM (by omega),pbs,List.append_nil]
 | f+1,m+1,i,acc,h1,h2,h3=>by
  unfold zdc
  rw [zD7 L (by omega) (by omega)]
  refine (zzj L n kx f m (i+1) _ (by omega) (by omega) (by simp; omega)).trans ?_
  rw [pbs,List.append_assoc]; exact Eq.trans rfl rfl
theorem zFL {β:Type} {L:Nat} (hL:100≤L) {n:Nat} (hn:n≤100000000) (k:List (List V)→Option β):zl β L (n:Int) k=k (yl .u8 (ze8 n)):=by
 unfold zl znf zrc
 have z64:=zx2 n
 refine (zwO L hn _ L (zs n) 0 (by omega) (by omega)).trans ?_
 unfold zfF zjW
 refine (zzj L n _ L 8 0 _ rfl (by omega) (by simp; omega)).trans ?_
 unfold zhR ze8
 exact Eq.trans rfl rfl
theorem zDs {β:Type} {L:Nat} (hL:100≤L) {a b:List Int} (ha:a.length≤1000000000) (hb:b.length≤1000000000) (k:List (List V)→Option β):zq β L (zh 1 2 [V.sl 1 (yl .u8 a),V.sl 1 (yl .u8 b)]) k=k (yl .u8 (a++b)):=by
 unfold zq zqF zue
 obtain ⟨L',rfl⟩:=Nat.exists_eq_add_of_le hL
 have es:zh 1 2 [V.sl 1 (yl .u8 a),V.sl 1 (yl .u8 b)]=[[V.sl 1 (yl .u8 a)],[V.sl 1 (yl .u8 b)]]:=rfl
 rw [es,show 100+L'=(97+L')+1+1+1 by omega]
 refine (show _=zcB (97+L'+1+1+1) [] [[V.sl 1 (yl .u8 a)],[V.sl 1 (yl .u8 b)]] ((2:Nat):Int) ((0:Nat):Int) (fun p3 p6 p7 p8=>ze3 (97+L'+1+1+1) _ (97+L'+1+1) p3 p6 p7 p8) (fun p3=>zdB (97+L'+1+1+1) p3 k) from rfl).trans ?_
 unfold zcB
 rw [yQ (by decide),zcc (c:=[V.sl 1 (yl .u8 a)]) rfl,zo9 (sz:=1) (es:=yl .u8 a) rfl,yg (by simp [yx,xj]; omega),xl,List.nil_append,xl,zaM (i:=0) (by omega)]
 refine (show _=zcB (97+L'+1+1+1) (yl .u8 a) [[V.sl 1 (yl .u8 a)],[V.sl 1 (yl .u8 b)]] ((2:Nat):Int) ((1:Nat):Int) (fun p3 p6 p7 p8=>ze3 (97+L'+1+1+1) _ (97+L'+1) p3 p6 p7 p8) (fun p3=>zdB (97+L'+1+1+1) p3 k) from rfl).trans ?_
 unfold zcB
 rw [yQ (by decide),zcc (c:=[V.sl 1 (yl .u8 b)]) rfl,zo9 (sz:=1) (es:=yl .u8 b) rfl,yg (by simp [yx,xj]; omega),xl,zcS,xl,zaM (i:=1) (by omega)]
 refine (show _=zcB (97+L'+1+1+1) (yl .u8 (a++b)) [[V.sl 1 (yl .u8 a)],[V.sl 1 (yl .u8 b)]] ((2:Nat):Int) ((2:Nat):Int) (fun p3 p6 p7 p8=>ze3 (97+L'+1+1+1) _ (97+L') p3 p6 p7 p8) (fun p3=>zdB (97+L'+1+1+1) p3 k) from rfl).trans ?_
 unfold zcB
 rw [zM (by decide)]
 unfold zdB
 exact Eq.trans rfl rfl
end
section
set_option linter.unusedVariables false
set_option linter.unusedSimpArgs false
def init0:List Int:=gk_sha_initial.map fun v=>match v with | .sc (.int _ n)=>n | _=>0
theorem zqB:init0.length=8:=rfl
def zyD:Nat→Nat→List Int→List Int→List Int
 | 0,_,_,h=>h
 | m+1,i,p,h=>zyD m (i+1) p (zyl h ((p.drop (64 * i)).take 64))
theorem zwc:∀ (m i:Nat) (p h:List Int),h.length=8→(zyD m i p h).length=8
 | 0,_,_,_,hh=>hh
 | m+1,i,p,h,hh=>by rw [zyD]; exact zwc m _ _ _ (zkV _ _)
theorem zqm (k:IntKind):∀ l:List Int,List.flatten (yl k l)=row k l
 | []=>rfl
 | x::l=>by
  have:=zqm k l
  simp only [yl,row] at this
  simp only [yl,row,List.map_cons,List.flatten_cons,this,List.singleton_append]
theorem zo2 {p:List Int} {i:Nat} (h:64 * (i+1)≤p.length):((p.drop (64 * i)).take 64).length=64:=by
 rw [List.length_take,List.length_drop]; omega
theorem zDR {p:List Int} (hp:∀ x ∈ p,0≤x∧x≤255) (i:Nat):∀ x ∈ (p.drop (64 * i)).take 64,0≤x∧x≤255 :=
 fun x hx=>hp x (List.mem_of_mem_drop (List.mem_of_mem_take hx))
theorem zB5 (p:List Int) (n:Nat):List.take ((yl .u8 p).length - n) (List.drop n (yl .u8 p))=yl .u8 (p.drop n):=by
 rw [zzs,List.take_of_length_le (by rw [yx,yx,List.length_drop]; omega)]
theorem zEe {β:Type} {L:Nat} (hL:100≤L) {p:List Int} (hp:∀ x ∈ p,0≤x∧x≤255) (hs:p.length≤1000000000) {N i:Nat} (hi:i < N) (hN:64 * (i+1)≤p.length) (b2:List V) {h:List Int} (hh:h.length=8) (kh:List (List V)→Int→Int→List V→List V→Option β) (kx:List V→List V→Option β):zfX xq zq xh L (yl .u8 p) (N:Int) (i:Int) b2 (row .u32 h) kh kx=kh (yl .u8 p) (N:Int) ((i+1:Nat):Int) b2 (row .u32 (zyl h ((p.drop (64 * i)).take 64))):=by
 unfold zfX
 have e9:IntKind.wrap .i64 ((64:Int) * (i:Int))=((64 * i:Nat):Int):=by rw [xz (by omega) (by omega)]; omega
 have e8:List.take 8 (row .u32 h)=row .u32 h:=List.take_of_length_le (by rw [xw]; omega)
 have ec:List.take 64 (row .u8 ((p.drop (64 * i)).take 64))=row .u8 ((p.drop (64 * i)).take 64):=List.take_of_length_le (by rw [xw,zo2 hN]; omega)
 rw [yQ (by omega:(i:Int) < (N:Int)),yg (by rw [xw]; omega),xl,e9,Int.toNat_natCast,zB5,zd5,zqm,e8,ec]
 rw [yg ⟨by omega,by rw [yx]; omega⟩,yg (by rw [yx,List.length_drop]; omega)]
 refine (zBI hL hh (zo2 hN) (zDR hp i) _).trans ?_
 rw [yg ⟨by rw [xw,zkV],by rw [xw]; omega⟩,xl,xl,zbO (by rw [xw,xw,zkV,hh]),zaM (by omega)]
theorem zAe {β:Type} {L:Nat} (hL:100≤L) {p:List Int} (hp:∀ x ∈ p,0≤x∧x≤255) (hs:p.length≤1000000000) {N:Nat} (hN:64 * N≤p.length) (b2:List V) (kx:List V→List V→Option β):∀ (f m i:Nat) (h:List Int),h.length=8→i+m=N→m < f→zec xq zq xh L kx f (yl .u8 p) (N:Int) (i:Int) b2 (row .u32 h)=kx b2 (row .u32 (zyD m i p h))
 | 0,m,i,h,_,_,hf=>by omega
 | f+1,0,i,h,hh,h1,h2=>by
  unfold zec zfX
  rw [zM (by omega)]; exact Eq.trans rfl rfl
 | f+1,m+1,i,h,hh,h1,h2=>by
  unfold zec
  rw [zEe hL hp hs (by omega) (by omega) b2 hh]
  exact zAe hL hp hs hN b2 kx f m (i+1) _ (zkV _ _) (by omega) (by omega)
theorem zDJ {β:Type} {L:Nat} (hL:100≤L) {p:List Int} (hp:∀ x ∈ p,0≤x∧x≤255) (hs:p.length≤1000000000) {i:Nat} (hN:64 * (i+1)≤p.length) (b2:List V) {h:List Int} (hh:h.length=8) (kh:List (List V)→Int→List V→List V→Option β) (kx:List V→List V→Option β):zeB zl xg xf L (yl .u8 p) ((64 * i:Nat):Int) b2 (row .u32 h) kh kx=kh (yl .u8 p) ((64 * (i+1):Nat):Int) b2 (row .u32 (zyl h ((p.drop (64 * i)).take 64))):=by
 unfold zeB
 have e9:IntKind.wrap .i64 (((64 * i:Nat):Int)+(64:Int))=((64 * (i+1):Nat):Int):=by rw [xz (by omega) (by omega)]; omega
 have e8:List.take 8 (row .u32 h)=row .u32 h:=List.take_of_length_le (by rw [xw]; omega)
 have em:min (yl .u8 (p.drop (64 * i))).length 64=64:=by rw [yx,List.length_drop]; omega
 have er:zr (List.replicate 64 (V.sc (.int .u8 (0:Int)))) 0 (row .u8 ((p.drop (64 * i)).take 64))=row .u8 ((p.drop (64 * i)).take 64):=zbO (by rw [xw,zo2 hN,List.length_replicate])
 have ec:List.take 64 (row .u8 ((p.drop (64 * i)).take 64))=row .u8 ((p.drop (64 * i)).take 64):=List.take_of_length_le (by rw [xw,zo2 hN]; omega)
 rw [xl,e9,yQ (by rw [yx]; omega),Int.toNat_natCast,zB5,em,zd5,zqm,er,e8,xl,ec]
 rw [yg ⟨by omega,by rw [yx]; omega⟩,yg (by rw [xw]; omega),yg (by rw [xw,zo2 hN]; omega)]
 refine (zAi hL hh (zo2 hN) (zDR hp i) _).trans ?_
 rw [yg ⟨by rw [xw,zkV],by rw [xw]; omega⟩,xl,xl,zbO (by rw [xw,xw,zkV,hh])]
theorem zzc {β:Type} {L:Nat} (hL:100≤L) {p:List Int} (hp:∀ x ∈ p,0≤x∧x≤255) (hs:p.length≤1000000000) {N:Nat} (hN:64 * N=p.length) (b2:List V) (kx:List V→List V→Option β):∀ (f m i:Nat) (h:List Int),h.length=8→i+m=N→m < f→zde zl xg xf L kx f (yl .u8 p) ((64 * i:Nat):Int) b2 (row .u32 h)=kx b2 (row .u32 (zyD m i p h))
 | 0,m,i,h,_,_,hf=>by omega
 | f+1,0,i,h,hh,h1,h2=>by
  unfold zde zeB
  have e9:IntKind.wrap .i64 (((64 * i:Nat):Int)+(64:Int))=((64 * (i+1):Nat):Int):=by rw [xz (by omega) (by omega)]; omega
  rw [xl,e9,zM (by rw [yx]; omega)]; exact Eq.trans rfl rfl
 | f+1,m+1,i,h,hh,h1,h2=>by
  unfold zde
  rw [zDJ hL hp hs (by omega) b2 hh]
  exact zzc hL hp hs hN b2 kx f m (i+1) _ (zkV _ _) (by omega) (by omega)
def ob (h:List Int) (i:Nat):Int:=IntKind.wrap .u8 (zco .u32 (h.getD (i / 4) 0) ((24 - i % 4 * 8:Nat):Int))
def zq9 (h:List Int):List Int:=(List.range 32).map (ob h)
theorem zsk (h:List Int):(zq9 h).length=32:=by simp [zq9]
theorem zEk (h:List Int) {i:Nat} (hi:i < 32):(zq9 h).getD i 0=ob h i:=by
 simp [zq9,List.getD_eq_getElem?_getD,hi]
theorem zFj (h:List Int):∀ x ∈ zq9 h,0≤x∧x≤255:=by
 intro x hx
 rw [zq9,List.mem_map] at hx
 obtain ⟨i,_,rfl⟩:=hx
 exact zs1 _
theorem zEV {l m:List Int} (h:l.length=m.length) (hg:∀ i,i < l.length→l.getD i 0=m.getD i 0):l=m:=by
 apply List.ext_getElem h
 intro i h1 h2
 have:=hg i h1
 rwa [List.getD_eq_getElem?_getD,List.getD_eq_getElem?_getD,List.getElem?_eq_getElem h1,List.getElem?_eq_getElem h2] at this
theorem zB7 {h z:List Int} (hz:z.length=32) (hg:∀ j,j < 32→z.getD j 0=ob h j):z=zq9 h :=
 zEV (by rw [hz,zsk]) fun i hi=>by rw [zEk h (by omega)]; exact hg i (by omega)
theorem zD0 {β:Type} (L:Nat) {i:Nat} (hi:i < 32) (b2:List V) {h z:List Int} (hh:h.length=8) (hz:z.length=32) (kh:Int→List V→List V→List V→Option β) (kx:List V→List V→Option β):zeF xq zq xh L (i:Int) b2 (row .u32 h) (row .u8 z) kh kx=kh ((i+1:Nat):Int) b2 (row .u32 h) (row .u8 (z.set i (ob h i))):=by
 unfold zeF
 have e1:IntKind.wrap .i64 (Int.tdiv (i:Int) (4:Int))=((i / 4:Nat):Int):=by
  rw [show Int.tdiv (i:Int) (4:Int)=((i / 4:Nat):Int) from (Int.ofNat_tdiv i 4).symm,xz (by omega) (by omega)]
 have e2:Int.tmod (i:Int) (4:Int)=((i % 4:Nat):Int):=(Int.ofNat_tmod i 4).symm
 have e3:IntKind.wrap .i64 (((i % 4:Nat):Int) * (8:Int))=((i % 4 * 8:Nat):Int):=by rw [xz (by omega) (by omega)]; omega
 have e4:IntKind.wrap .i64 ((24:Int) - ((i % 4 * 8:Nat):Int))=((24 - i % 4 * 8:Nat):Int):=by rw [xz (by omega) (by omega)]; omega
 have c1:0≤((i / 4:Nat):Int)∧((i / 4:Nat):Int) < ((8:Nat):Int):=by omega
 have c2:0≤(i:Int)∧(i:Int) < ((32:Nat):Int):=by omega
 have c3:0≤((24 - i % 4 * 8:Nat):Int):=by omega
 have cl:True∧i+1≤32:=⟨trivial,by omega⟩
 rw [yQ (by omega:(i:Int) < 32)]
 simp only [xl,e1,e2,e3,e4,yg c1,yg c2,yg c3,Int.toNat_natCast,Nat.mul_one,Nat.zero_add,xN (show i / 4 < h.length by omega),xw,hz,zfT (show i < z.length by omega),zaM (show i≤1000000000 by omega)]
 rw [yg cl]
 exact Eq.trans rfl rfl
theorem zzh {β:Type} (L:Nat) (b2:List V) {h:List Int} (hh:h.length=8) (kx:List V→List V→Option β):∀ (f m i:Nat) (z:List Int),z.length=32→i+m=32→m < f→(∀ j,j < i→z.getD j 0=ob h j)→zdd xq zq xh L kx f (i:Int) b2 (row .u32 h) (row .u8 z)=kx b2 (row .u8 (zq9 h))
 | 0,m,i,z,_,_,hf,_=>by omega
 | f+1,0,i,z,hz,h1,h2,hg=>by
  unfold zdd zeF
  rw [zM (by omega),zB7 hz fun j hj=>hg j (by omega)]
 | f+1,m+1,i,z,hz,h1,h2,hg=>by
  unfold zdd
  rw [zD0 L (by omega) b2 hh hz]
  refine zzh L b2 hh kx f m (i+1) _ (by simpa using hz) (by omega) (by omega) fun j hj=>?_
  by_cases he:i=j
  ·subst he; exact zeY (by omega) _
  ·rw [getD_set_ne he]; exact hg j (by omega)
theorem zGN (v:Int):zco .u32 v ((0:Nat):Int)=v:=by
 unfold zco
 rw [show min (Int.toNat ((0:Nat):Int)) (IntKind.bits .u32)=0 from rfl,show (2:Int) ^ 0=1 from rfl,Int.fdiv_one]
theorem zCN {β:Type} (L:Nat) {i:Nat} (hi:i < 8) (b2:List V) {h z:List Int} (hh:h.length=8) (hz:z.length=32) (kh:List V→Int→List V→List V→Option β) (kx:List V→List V→Option β):zdt zl xg xf L (row .u32 h) (i:Int) b2 (row .u8 z) kh kx=kh (row .u32 h) ((i+1:Nat):Int) b2 (row .u8 ((((z.set (4 * i) (ob h (4 * i))).set (4 * i+1) (ob h (4 * i+1))).set (4 * i+2) (ob h (4 * i+2))).set (4 * i+3) (ob h (4 * i+3)))):=by
 unfold zdt
 have e4:IntKind.wrap .i64 ((4:Int) * (i:Int))=((4 * i:Nat):Int):=zCK (by omega)
 have e1:IntKind.wrap .i64 (((4 * i:Nat):Int)+(1:Int))=((4 * i+1:Nat):Int):=zwo (b:=1) (by omega) (by omega)
 have e2:IntKind.wrap .i64 (((4 * i:Nat):Int)+(2:Int))=((4 * i+2:Nat):Int):=zwo (b:=2) (by omega) (by omega)
 have e3:IntKind.wrap .i64 (((4 * i:Nat):Int)+(3:Int))=((4 * i+3:Nat):Int):=zwo (b:=3) (by omega) (by omega)
 have c0:0≤(i:Int)∧(i:Int) < ((8:Nat):Int):=by omega
 have c4:0≤((4 * i:Nat):Int)∧((4 * i:Nat):Int) < ((32:Nat):Int):=by omega
 have c1:0≤((4 * i+1:Nat):Int)∧((4 * i+1:Nat):Int) < ((32:Nat):Int):=by omega
 have c2:0≤((4 * i+2:Nat):Int)∧((4 * i+2:Nat):Int) < ((32:Nat):Int):=by omega
 have c3:0≤((4 * i+3:Nat):Int)∧((4 * i+3:Nat):Int) < ((32:Nat):Int):=by omega
 have l0:True∧4 * i+1≤32:=⟨trivial,by omega⟩
 have l1:True∧4 * i+1+1≤32:=⟨trivial,by omega⟩
 have l2:True∧4 * i+2+1≤32:=⟨trivial,by omega⟩
 have l3:True∧4 * i+3+1≤32:=⟨trivial,by omega⟩
 have o0:IntKind.wrap .u8 (zco .u32 (h.getD i 0) (24:Int))=ob h (4 * i):=by
  unfold ob; rw [show 4 * i / 4=i by omega,show 24 - 4 * i % 4 * 8=24 by omega]; exact Eq.trans rfl rfl
 have o1:IntKind.wrap .u8 (zco .u32 (h.getD i 0) (16:Int))=ob h (4 * i+1):=by
  unfold ob; rw [show (4 * i+1) / 4=i by omega,show 24 - (4 * i+1) % 4 * 8=16 by omega]; exact Eq.trans rfl rfl
 have o2:IntKind.wrap .u8 (zco .u32 (h.getD i 0) (8:Int))=ob h (4 * i+2):=by
  unfold ob; rw [show (4 * i+2) / 4=i by omega,show 24 - (4 * i+2) % 4 * 8=8 by omega]; exact Eq.trans rfl rfl
 have o3:IntKind.wrap .u8 (h.getD i 0)=ob h (4 * i+3):=by
  unfold ob; rw [show (4 * i+3) / 4=i by omega,show 24 - (4 * i+3) % 4 * 8=0 by omega,zGN]
 rw [yQ (by omega:(i:Int) < 8)]
 simp only [xl,e4,e1,e2,e3,yg c0,yg c4,yg c1,yg c2,yg c3,Int.toNat_natCast,Nat.mul_one,Nat.zero_add,xN (show i < h.length by omega),o0,o1,o2,o3,xw]
 rw [zfT (by omega),zfT (by rw [List.length_set]; omega),zfT (by rw [List.length_set,List.length_set]; omega),zfT (by rw [List.length_set,List.length_set,List.length_set]; omega)]
 simp only [xw,List.length_set,hz,zaM (show i≤1000000000 by omega)]
 rw [yg l0,yg l1,yg l2,yg l3]
theorem zwF {β:Type} (L:Nat) (b2:List V) {h:List Int} (hh:h.length=8) (kx:List V→List V→Option β):∀ (f m i:Nat) (z:List Int),z.length=32→i+m=8→m < f→(∀ j,j < 4 * i→z.getD j 0=ob h j)→zcd zl xg xf L kx f (row .u32 h) (i:Int) b2 (row .u8 z)=kx b2 (row .u8 (zq9 h))
 | 0,m,i,z,_,_,hf,_=>by omega
 | f+1,0,i,z,hz,h1,h2,hg=>by
  unfold zcd zdt
  rw [zM (by omega),zB7 hz fun j hj=>hg j (by omega)]
 | f+1,m+1,i,z,hz,h1,h2,hg=>by
  unfold zcd
  rw [zCN L (by omega) b2 hh hz]
  refine zwF L b2 hh kx f m (i+1) _ (by simpa using hz) (by omega) (by omega) fun j hj=>?_
  by_cases h3:4 * i+3=j
  ·subst h3; exact zeY (by simp; omega) _
  rw [getD_set_ne h3]
  by_cases h2:4 * i+2=j
  ·subst h2; exact zeY (by simp; omega) _
  rw [getD_set_ne h2]
  by_cases h1:4 * i+1=j
  ·subst h1; exact zeY (by simp; omega) _
  rw [getD_set_ne h1]
  by_cases h0:4 * i=j
  ·subst h0; exact zeY (by omega) _
  rw [getD_set_ne h0]
  exact hg j (by omega)
def ztT (l:List Int):List Int:=zq9 (zyD ((l++ze8 l.length).length / 64) 0 (l++ze8 l.length) init0)
theorem zv1 (l:List Int):(ztT l).length=32:=zsk _
theorem zFK (l:List Int):∀ x ∈ ztT l,0≤x∧x≤255:=zFj _
theorem zBP (l:List Int):64 * ((l++ze8 l.length).length / 64)=(l++ze8 l.length).length:=by
 have:=zDm l.length
 rw [List.length_append,zpJ]; omega
theorem zD6 {l:List Int} (h:∀ x ∈ l,0≤x∧x≤255):∀ x ∈ l++ze8 l.length,0≤x∧x≤255:=by
 intro x hx
 rcases List.mem_append.1 hx with hx | hx
 ·exact h x hx
 ·exact zFu _ x hx
theorem zB6 {β:Type} {w:List Int} (hw:w.length=32) (z:List Int) (hz:z.length=32) (k:List V→Option β) :
  chk (0+32≤(List.length (row .u8 w))) (chk ((List.length (List.take 32 (row .u8 w)))=32∧0+32≤(List.length (row .u8 z))) (
   lt (zr (row .u8 z) 0 (List.take 32 (row .u8 w))) fun r41=>chk (0=0∧(List.length r41)=32∧32≠0) (k r41)))=k (row .u8 w):=by
 have e:List.take 32 (row .u8 w)=row .u8 w:=List.take_of_length_le (by rw [xw]; omega)
 rw [xl,e,zbO (by rw [xw,xw]; omega)]
 rw [yg (by rw [xw]; omega),yg ⟨by rw [xw]; omega,by rw [xw]; omega⟩,yg ⟨rfl,by rw [xw]; omega,by decide⟩]
theorem zF5 {β:Type} {L:Nat} {l:List Int} (hL:l.length+200≤L) (hl:l.length≤100000000) (hb:∀ x ∈ l,0≤x∧x≤255) (k:List V→Option β):zbb β L (yl .u8 l) k=k (row .u8 (ztT l)):=by
 unfold zbb zqh ztP
 have z64:=zx2 l.length
 have hm:=zBP l
 have hlen:(l++ze8 l.length).length=l.length+(9+zs l.length):=by rw [List.length_append,zpJ]
 have e0:IntKind.wrap .u64 (((yl .u8 l).length:Nat):Int)=(l.length:Int):=by rw [yx,zdx (by omega) (by omega)]
 rw [xl,e0]
 refine (zGh (by omega) hl _ _).trans ?_
 refine (zDs (by omega) (by omega) (by rw [zpJ]; omega) _).trans ?_
 have e1:zr [V.sc (.int .u32 (0:Int)),V.sc (.int .u32 (0:Int)),V.sc (.int .u32 (0:Int)),V.sc (.int .u32 (0:Int)),V.sc (.int .u32 (0:Int)),V.sc (.int .u32 (0:Int)),V.sc (.int .u32 (0:Int)),V.sc (.int .u32 (0:Int))] 0 (List.take 8 gk_sha_initial)=row .u32 init0:=(zbO rfl).trans rfl
 have e2:IntKind.wrap .i64 (Int.tdiv (((yl .u8 (l++ze8 l.length)).length:Nat):Int) (64:Int))=(((l++ze8 l.length).length / 64:Nat):Int):=by
  rw [yx,show Int.tdiv (((l++ze8 l.length).length:Nat):Int) (64:Int)=(((l++ze8 l.length).length / 64:Nat):Int) from (Int.ofNat_tdiv _ 64).symm,xz (by omega) (by omega)]
 rw [yg ⟨rfl,by decide⟩,xl,e1,xl,e2]
 refine (zAe (by omega) (zD6 hb) (by omega) (by omega) _ _ L ((l++ze8 l.length).length / 64) 0 _ zqB (by omega) (by omega)).trans ?_
 unfold zfZ zjU
 rw [zrt]
 refine (zzh L _ (zwc _ _ _ _ zqB) _ L 32 0 _ List.length_replicate rfl (by omega) (fun j hj=>by omega)).trans ?_
 unfold zhS
 exact zB6 (zsk _) _ List.length_replicate k
theorem zCk {β:Type} (L:Nat) (k:List V→Option β):xg β L k=k (row .u32 init0):=by
 unfold xg zlZ
 rw [xl]
 exact (yg ⟨rfl,rfl,by decide⟩ _).trans rfl
theorem zFR {β:Type} {L:Nat} {l:List Int} (hL:l.length+200≤L) (hl:l.length≤100000000) (hb:∀ x ∈ l,0≤x∧x≤255) (k:List V→Option β):zao β L (yl .u8 l) k=k (row .u8 (ztT l)):=by
 unfold zao znr zrf
 have z64:=zx2 l.length
 have hm:=zBP l
 have hlen:(l++ze8 l.length).length=l.length+(9+zs l.length):=by rw [List.length_append,zpJ]
 have e0:IntKind.wrap .u64 (((yl .u8 l).length:Nat):Int)=(l.length:Int):=by rw [yx,zdx (by omega) (by omega)]
 rw [yg (by simp [yx,xj]; omega),xl,List.nil_append,xl,e0]
 refine (zFL (by omega) hl _).trans ?_
 rw [yg (by simp [yx,zpJ,xj]; omega),xl,zcS]
 refine (zCk L _).trans ?_
 have e1:zr [V.sc (.int .u32 (0:Int)),V.sc (.int .u32 (0:Int)),V.sc (.int .u32 (0:Int)),V.sc (.int .u32 (0:Int)),V.sc (.int .u32 (0:Int)),V.sc (.int .u32 (0:Int)),V.sc (.int .u32 (0:Int)),V.sc (.int .u32 (0:Int))] 0 (row .u32 init0)=row .u32 init0:=zbO rfl
 rw [yg ⟨rfl,by decide⟩,xl,e1]
 refine (zzc (by omega) (zD6 hb) (by omega) hm _ _ L ((l++ze8 l.length).length / 64) 0 _ zqB (by omega) (by omega)).trans ?_
 unfold zeL zhE
 have hb8:=zwc ((l++ze8 l.length).length / 64) 0 (l++ze8 l.length) init0 zqB
 rw [yg (by rw [xw,hb8]; omega),List.take_of_length_le (by rw [xw,hb8]; omega),zrt]
 refine (zwF L _ hb8 _ L 8 0 _ List.length_replicate rfl (by omega) (fun j hj=>by omega)).trans ?_
 unfold zgw
 exact zB6 (zsk _) _ List.length_replicate k
def zHe (l:List Int):List Int:=ztT (ztT l)
theorem zFf {w:List Int} (hw:w.length=32):zr (List.replicate 32 (V.sc (.int .u8 (0:Int)))) 0 (row .u8 w)=row .u8 w:=zbO (by rw [xw,hw,List.length_replicate])
end
section
set_option linter.unusedVariables false
set_option linter.unusedSimpArgs false
set_option maxRecDepth 100000
variable {β:Type}
def Byt (l:List Int):Prop:=∀ x ∈ l,0≤x∧x≤255
theorem Byt.app {a b:List Int} (ha:Byt a) (hb:Byt b):Byt (a++b):=fun x hx=>(List.mem_append.1 hx).elim (ha x) (hb x)
theorem Byt.sub {a b:List Int} (hb:Byt b) (h:∀ x ∈ a,x ∈ b):Byt a:=fun x hx=>hb x (h x hx)
theorem Byt.take {a:List Int} (ha:Byt a) (n:Nat):Byt (a.take n):=ha.sub fun x hx=>List.mem_of_mem_take hx
theorem Byt.drop {a:List Int} (ha:Byt a) (n:Nat):Byt (a.drop n):=ha.sub fun x hx=>List.mem_of_mem_drop hx
theorem Byt.getD {a:List Int} (ha:Byt a) (i:Nat):0≤a.getD i 0∧a.getD i 0≤255:=zeZ ha i
theorem Byt.nil:Byt []:=by intro x hx; cases hx
theorem zDd {l:List Int} (h:∀ x ∈ l,(Lit.int .u8 x).wf=true):Byt l:=fun x hx=>zGy (h x hx)
theorem zsJ (n:Int):0≤IntKind.wrap .u8 n∧IntKind.wrap .u8 n≤255:=by
 show 0≤n % (2 ^ 8:Nat)∧n % (2 ^ 8:Nat)≤255
 omega
theorem ztI (n:Int):IntKind.wrap .u8 n=n % 256:=rfl
def le4 (j:List Int) (p:Nat):Int:=j.getD p 0+256 * j.getD (p+1) 0+65536 * j.getD (p+2) 0+16777216 * j.getD (p+3) 0
theorem zxo {j:List Int} (h:Byt j) (p:Nat):0≤le4 j p∧le4 j p≤4294967295:=by
 have h0:=h.getD p; have h1:=h.getD (p+1); have h2:=h.getD (p+2); have h3:=h.getD (p+3)
 unfold le4; omega
theorem zGS {l:List Int} {i:Nat} (h:i < l.length):l[i]=l.getD i 0:=by simp [List.getD_eq_getElem?_getD,h]
theorem zuG {l:List Int} {i:Nat} (h:i < l.length):(yl .u8 l)[i]?=some [.sc (.int .u8 (l.getD i 0))]:=by rw [zA6 _ h,zGS h]
theorem cI8 (n:Int) (k:Int→Option β):cI .u8 [V.sc (.int .u8 n)] 0 k=k n:=zpc rfl k
theorem zzi (k:IntKind) (a b:Int):ior k a b=ior k b a:=by unfold ior; rw [BitVec.or_comm]
theorem in1 {a b:Int} (ha:0≤a∧a≤255):ior .u32 0 (zbU .u32 a (0:Int))=a:=by
 have e1:zbU .u32 a (0:Int)=a * 2 ^ 0:=zmW 0 (by decide) ha.1 (by omega)
 rw [e1,zzi,zo4 (n:=0) ha.1 (by omega) (by omega) (by omega)]; omega
theorem in2 {a x:Int} (n:Nat) (hn:n≤24) (ha:0≤a∧a≤255) (hx:0≤x) (hx2:x < 2 ^ n) (hs:a * 2 ^ n+x < 4294967296):ior .u32 x (zbU .u32 a (n:Int))=a * 2 ^ n+x:=by
 have e1:zbU .u32 a (n:Int)=a * 2 ^ n:=zmW n (by omega) ha.1 (by omega)
 rw [e1,zzi,zo4 (n:=n) ha.1 hx hx2 hs]
theorem zBO (L:Nat) (j:List Int) {a w:Nat} (ha:a≤j.length) (hj:j.length≤100000000) (hw:w≤100) (k:Int→Option β):yh β L (yl .u8 j) (a:Int) (w:Int) k=if a+w≤j.length then k 0 else k 1:=by
 unfold yh zpT
 rw [zM (by omega),yx,zM (by omega),xz (by omega) (by omega),xl,zyC]
 by_cases h:a+w≤j.length
 ·rw [if_neg (by omega),if_pos h]
 ·rw [if_pos (by omega),if_neg h]
theorem zDT (L:Nat) (j:List Int) (hj:j.length≤100000000) {a i:Nat} (h:a+i < j.length) (hi:i < 4) (acc:Int) (kh:List (List V)→Int→Int→Int→Int→Int→Option β) (kx:Int→Int→Int→Option β) (hb:Byt j) :
  zbA yh L (yl .u8 j) (a:Int) 4 acc 4 (i:Int) kh kx=kh (yl .u8 j) a 4 (ior .u32 acc (zbU .u32 (j.getD (a+i) 0) ((8 * i:Nat):Int))) 4 ((i+1:Nat):Int):=by
 have w1:IntKind.wrap .i64 ((a:Int)+i)=((a+i:Nat):Int):=by rw [xz (by omega) (by omega)]; omega
 have w2:IntKind.wrap .i64 ((8:Int) * i)=((8 * i:Nat):Int):=by rw [xz (by omega) (by omega)]; omega
 have w3:IntKind.wrap .i64 ((i:Int)+1)=((i+1:Nat):Int):=by rw [xz (by omega) (by omega)]; omega
 have hg:=hb.getD (a+i)
 unfold zbA
 rw [yQ (by omega),w1,xl,zcc (zuG h),cI8,zdw hg.1 (by omega),xl,w2,xl,yg (by omega),xl,xl,w3,xl]
theorem zqy (L n:Nat) (j:List Int) (hj:j.length≤100000000) {a i:Nat} (h:a+i < j.length) (hi:i < 4) (acc:Int) (kx:Int→Int→Int→Option β) (hb:Byt j) :
  xW yh L kx (n+1) (yl .u8 j) (a:Int) 4 acc 4 (i:Int)=xW yh L kx n (yl .u8 j) a 4 (ior .u32 acc (zbU .u32 (j.getD (a+i) 0) ((8 * i:Nat):Int))) 4 ((i+1:Nat):Int):=by
 rw [xW]
 exact zDT L j hj h hi acc _ _ hb
theorem zEc (L n:Nat) (j:List Int) (a:Int) (acc:Int) (kx:Int→Int→Int→Option β) :
  xW yh L kx (n+1) (yl .u8 j) a 4 acc 4 4=kx a 4 acc:=by
 rw [xW]
 unfold zbA
 rw [zM (by omega)]
theorem zDu {L:Nat} (hL:20≤L) {j:List Int} (hb:Byt j) (hj:j.length≤100000000) {a:Nat} (ha:a≤j.length) (k:Int→Int→Int→Option β):zad β L (yl .u8 j) (a:Int) k=if a+4≤j.length then k (le4 j a) ((a+4:Nat):Int) 0 else k 0 0 1:=by
 obtain ⟨m,rfl⟩:∃ m,L=m+5:=⟨L - 5,by omega⟩
 unfold zad zqY xI zfk zhN
 have rm:=zBO (m+5) j (a:=a) (w:=4) ha hj (by omega) (β:=β)
 rw [show ((4:Nat):Int)=4 from rfl] at rm
 rw [rm]
 by_cases h:a+4≤j.length
 ·have h0:=hb.getD a; have h1:=hb.getD (a+1); have h2:=hb.getD (a+2); have h3:=hb.getD (a+3)
  rw [if_pos h,if_pos h,zce,if_pos rfl]
  have q0:ior .u32 0 (zbU .u32 (j.getD (a+0) 0) ((8 * 0:Nat):Int))=j.getD a 0:=in1 (b:=0) h0
  have q1:ior .u32 (j.getD a 0) (zbU .u32 (j.getD (a+1) 0) ((8 * 1:Nat):Int))=j.getD (a+1) 0 * 2 ^ 8+j.getD a 0:=in2 8 (by omega) h1 h0.1 (by omega) (by omega)
  have q2:ior .u32 (j.getD (a+1) 0 * 2 ^ 8+j.getD a 0) (zbU .u32 (j.getD (a+2) 0) ((8 * 2:Nat):Int))=j.getD (a+2) 0 * 2 ^ 16+(j.getD (a+1) 0 * 2 ^ 8+j.getD a 0):=in2 16 (by omega) h2 (by omega) (by omega) (by omega)
  have q3:ior .u32 (j.getD (a+2) 0 * 2 ^ 16+(j.getD (a+1) 0 * 2 ^ 8+j.getD a 0)) (zbU .u32 (j.getD (a+3) 0) ((8 * 3:Nat):Int))=j.getD (a+3) 0 * 2 ^ 24+(j.getD (a+2) 0 * 2 ^ 16+(j.getD (a+1) 0 * 2 ^ 8+j.getD a 0)):=in2 24 (by omega) h3 (by omega) (by omega) (by omega)
  refine (zqy (m+5) (m+4) j hj (a:=a) (i:=0) (by omega) (by omega) 0 _ hb).trans ?_
  rw [q0]
  refine (zqy (m+5) (m+3) j hj (a:=a) (i:=1) (by omega) (by omega) _ _ hb).trans ?_
  rw [q1]
  refine (zqy (m+5) (m+2) j hj (a:=a) (i:=2) (by omega) (by omega) _ _ hb).trans ?_
  rw [q2]
  refine (zqy (m+5) (m+1) j hj (a:=a) (i:=3) (by omega) (by omega) _ _ hb).trans ?_
  rw [q3]
  refine (zEc (m+5) m j _ _ _).trans ?_
  unfold zd3
  rw [xz (by omega) (by omega),xl]
  congr 1
  unfold le4; omega
 ·rw [if_neg h,if_neg h,zce,if_neg (by decide)]
theorem zB3 (L n:Nat) (j:List Int) (a:Int) (kx:Int→Int→Int→Option β) {acc i:Int}:zaY yh L kx (n+2) (yl .u8 j) a 1 acc 1 i=zbM yh L (yl .u8 j) a 1 acc 1 i (fun p0 p1 p2 p10 p19 p20=>zaY yh L kx (n+1) p0 p1 p2 p10 p19 p20) kx:=by rw [zaY]
theorem zGP {L:Nat} (hL:20≤L) {j:List Int} (hb:Byt j) (hj:j.length≤100000000) {a:Nat} (ha:a≤j.length) (k:Int→Int→Int→Option β):zaF β L (yl .u8 j) (a:Int) k=if a+1≤j.length then k (j.getD a 0) ((a+1:Nat):Int) 0 else k 0 0 1:=by
 obtain ⟨m,rfl⟩:∃ m,L=m+5:=⟨L - 5,by omega⟩
 unfold zaF zsb yL zfV ziS
 have rm:=zBO (m+5) j (a:=a) (w:=1) ha hj (by omega) (β:=β)
 rw [show ((1:Nat):Int)=1 from rfl] at rm
 rw [rm]
 by_cases h:a+1≤j.length
 ·have h0:=hb.getD a
  rw [if_pos h,if_pos h,zce,if_pos rfl]
  refine (zB3 (m+5) (m+3) j a _).trans ?_
  unfold zbM
  have w1:IntKind.wrap .i64 ((a:Int)+0)=(a:Int):=by rw [xz (by omega) (by omega)]; omega
  have w2:IntKind.wrap .i64 ((8:Int) * 0)=0:=by decide
  have w3:IntKind.wrap .i64 ((0:Int)+1)=1:=by decide
  have e1:zbU .u8 (j.getD a 0) 0=j.getD a 0:=by
   show IntKind.wrap .u8 (j.getD a 0 * 2 ^ (min (Int.toNat 0) 8))=_
   rw [ztI]
   show (j.getD a 0 * 1) % 256=_
   omega
  have e2:ior .u8 0 (j.getD a 0)=j.getD a 0:=by
   obtain ⟨x,hx⟩:=Int.eq_ofNat_of_zero_le h0.1
   rw [hx] at h0 ⊢
   show IntKind.wrap .u8 (((BitVec.ofInt 8 0 ||| BitVec.ofInt 8 (x:Int)).toNat:Nat):Int)=x
   have q:(BitVec.ofInt 8 (x:Int)).toNat=x:=by
    rw [BitVec.toNat_ofInt]
    show (((x:Nat):Int) % ((2 ^ 8:Nat):Int)).toNat=_
    rw [← Int.natCast_emod,Int.toNat_natCast,Nat.mod_eq_of_lt (by omega)]
   have z:(BitVec.ofInt 8 0).toNat=0:=by decide
   rw [BitVec.toNat_or,q,z,Nat.zero_or,ztI]; omega
  rw [yQ (by decide),w1,xl,zcc (zuG (by omega)),cI8,w2,xl,yg (by decide),e1,xl,e2,xl,w3,xl]
  refine (zB3 (m+5) (m+2) j a _).trans ?_
  unfold zbM zew
  rw [zM (by decide)]
  show lt (IntKind.wrap .i64 ((a:Int)+1)) (fun x8=>k (j.getD a 0) x8 0)=_
  rw [xz (by omega) (by omega),xl]
  exact Eq.trans rfl rfl
 ·rw [if_neg h,if_neg h,zce,if_neg (by decide)]
end
section
set_option linter.unusedVariables false
set_option linter.unusedSimpArgs false
set_option maxRecDepth 100000
variable {β:Type}
theorem zGt {x y:Int} (h0:0≤x) (h1:x < 16777216) (b0:0≤y) (b1:y≤255):ior .u64 (zbU .u64 x (8:Int)) y=x * 256+y:=by
 obtain ⟨a,rfl⟩:=Int.eq_ofNat_of_zero_le h0
 obtain ⟨b,rfl⟩:=Int.eq_ofNat_of_zero_le b0
 have e1:zbU .u64 (a:Int) 8=((a * 2 ^ 8:Nat):Int):=by
  show IntKind.wrap .u64 ((a:Int) * 2 ^ (min (Int.toNat 8) 64))=_
  have:((a:Int) * 2 ^ (min (Int.toNat 8) 64))=((a * 2 ^ 8:Nat):Int):=by
   show ((a:Int) * 256)=_
   omega
  rw [this,zdx (by omega) (by omega)]
 rw [e1]
 show IntKind.wrap .u64 (((BitVec.ofInt 64 ((a * 2 ^ 8:Nat):Int) ||| BitVec.ofInt 64 (b:Int)).toNat:Nat):Int)=_
 have q1:(BitVec.ofInt 64 ((a * 2 ^ 8:Nat):Int)).toNat=a * 2 ^ 8:=by
  rw [BitVec.toNat_ofInt]
  show (((a * 2 ^ 8:Nat):Int) % ((2 ^ 64:Nat):Int)).toNat=_
  rw [← Int.natCast_emod,Int.toNat_natCast,Nat.mod_eq_of_lt (by omega)]
 have q2:(BitVec.ofInt 64 (b:Int)).toNat=b:=by
  rw [BitVec.toNat_ofInt]
  show ((b:Int) % ((2 ^ 64:Nat):Int)).toNat=_
  rw [← Int.natCast_emod,Int.toNat_natCast,Nat.mod_eq_of_lt (by omega)]
 have hb:b < 2 ^ 8:=by omega
 rw [BitVec.toNat_or,q1,q2,← Nat.shiftLeft_eq,← Nat.shiftLeft_add_eq_or_of_lt hb,Nat.shiftLeft_eq,zdx (by omega) (by omega)]
 omega
theorem zsh (L n:Nat) (j:List Int) (hj:j.length≤100000000) {a i:Nat} (h:a+i < j.length) (hi:i < 4) (acc:Int) (h0:0≤acc) (h1:acc < 16777216) (kx:Int→Int→Int→Option β) (hb:Byt j) :
  zat L kx (n+1) (yl .u8 j) (a:Int) 4 acc (i:Int)=zat L kx n (yl .u8 j) a 4 (acc * 256+j.getD (a+i) 0) ((i:Int) - 1):=by
 have w1:IntKind.wrap .i64 ((a:Int)+i)=((a+i:Nat):Int):=by rw [xz (by omega) (by omega)]; omega
 have w3:IntKind.wrap .i64 ((i:Int) - 1)=(i:Int) - 1:=xz (by omega) (by omega)
 have hg:=hb.getD (a+i)
 rw [zat]
 unfold zd9
 rw [yQ (by omega),xl,w1,xl,zcc (zuG h),cI8,zdx hg.1 (by omega),xl,zGt h0 h1 hg.1 hg.2,xl,w3,xl]
theorem zFk (L n:Nat) (j:List Int) (a:Int) (acc:Int) (kx:Int→Int→Int→Option β) :
  zat L kx (n+1) (yl .u8 j) a 4 acc (-1)=kx a 4 acc:=by
 rw [zat]
 unfold zd9
 rw [zM (by omega)]
theorem zBN {L:Nat} (hL:20≤L) {j:List Int} (hb:Byt j) (hj:j.length≤100000000) {a:Nat} (ha:a≤j.length) (k:Int→Int→Int→Option β):zac β L (yl .u8 j) (a:Int) k=if a+4≤j.length then k (le4 j a) ((a+4:Nat):Int) 0 else k 0 0 1:=by
 obtain ⟨m,rfl⟩:∃ m,L=m+5:=⟨L - 5,by omega⟩
 unfold zac zrp xU zjo zm5
 rw [zM (by omega),yx,zM (by omega),xz (by omega) (by omega),xl]
 by_cases h:a+4≤j.length
 ·have h0:=hb.getD a; have h1:=hb.getD (a+1); have h2:=hb.getD (a+2); have h3:=hb.getD (a+3)
  have w3:IntKind.wrap .i64 ((4:Int) - 1)=((3:Nat):Int):=by decide
  rw [if_pos h,zM (by omega),w3,xl]
  refine (zsh (m+5) (m+4) j hj (a:=a) (i:=3) (by omega) (by omega) 0 (by omega) (by omega) _ hb).trans ?_
  refine (zsh (m+5) (m+3) j hj (a:=a) (i:=2) (by omega) (by omega) _ (by omega) (by omega) _ hb).trans ?_
  refine (zsh (m+5) (m+2) j hj (a:=a) (i:=1) (by omega) (by omega) _ (by omega) (by omega) _ hb).trans ?_
  refine (zsh (m+5) (m+1) j hj (a:=a) (i:=0) (by omega) (by omega) _ (by omega) (by omega) _ hb).trans ?_
  refine (zFk (m+5) m j _ _ _).trans ?_
  unfold zfv
  have hz:j.getD (a+0) 0=j.getD a 0:=rfl
  rw [xz (by omega) (by omega),xl]
  show lt (IntKind.wrap .u32 _) (fun x3=>k x3 _ _)=_
  rw [zdw (by omega) (by omega),xl]
  congr 1
  unfold le4; omega
 ·rw [if_neg h,yQ (by omega)]
  show lt (IntKind.wrap .u32 0) (fun x3=>k x3 _ _)=_
  rw [zdw (by decide) (by decide),xl]
def zhJ (ls:List (List Int)):List (List V):=ls.map fun l=>[V.sl 1 (yl .u8 l)]
theorem zyb {ls:List (List Int)} {i:Nat} (h:i < ls.length):(zhJ ls)[i]?=some [V.sl 1 (yl .u8 ls[i])]:=by simp [zhJ,h]
theorem zpO (ls:List (List Int)):(zhJ ls).length=ls.length:=by simp [zhJ]
theorem zEJ (l:List (List V)) (k:List (List V)→Option β):cL 1 [V.sl 1 l] 0 k=k l:=zo9 rfl k
def zml (ls:List (List Int)):Nat:=(ls.map List.length).foldr (·+·) 0
theorem zDS (l:List Int) (ls:List (List Int)):zml (l::ls)=l.length+zml ls:=rfl
theorem zuf {ls:List (List Int)} {i:Nat} (h:i < ls.length):zml (ls.drop i)=ls[i].length+zml (ls.drop (i+1)):=by rw [List.drop_eq_getElem_cons h,zDS]
theorem zBf (L:Nat) (ls:List (List Int)) (hl:ls.length≤100) (p0:List (List V)) (kx:List (List V)→Int→Option β):∀ (n i s:Nat),i≤ls.length→ls.length - i < n→s+zml (ls.drop i)≤100000000 →
  zaA yd L kx n p0 (s:Int) (zhJ ls) (ls.length:Int) (i:Int)=kx p0 ((s+zml (ls.drop i):Nat):Int)
 | 0,i,s,h1,h2,h3=>by omega
 | n+1,i,s,h1,h2,h3=>by
  rw [zaA]
  unfold zcK
  by_cases h:i < ls.length
  ·have e:=zuf h
   have w1:IntKind.wrap .i64 ((s:Int)+((ls[i].length:Nat):Int))=((s+ls[i].length:Nat):Int):=by rw [xz (by omega) (by omega)]; omega
   rw [yQ (by omega),zcc (zyb h),zEJ,yx,w1,xl,zM (by omega),zaM (by omega),xl]
   refine (zBf L ls hl p0 kx n (i+1) (s+ls[i].length) (by omega) (by omega) (by omega)).trans ?_
   rw [e]; congr 1; omega
  ·rw [zM (by omega),List.drop_of_length_le (by omega)]
   congr 1
theorem zAg (L:Nat) (ls:List (List Int)) (hl:ls.length≤100) (kx:List (List V)→Option β):∀ (n i:Nat) (acc:List Int),i≤ls.length→ls.length - i < n→acc.length+zml (ls.drop i)≤100000000 →
  zan yd L kx n (yl .u8 acc) (zhJ ls) (ls.length:Int) (i:Int)=kx (yl .u8 (acc++(ls.drop i).flatten))
 | 0,i,s,h1,h2,h3=>by omega
 | n+1,i,acc,h1,h2,h3=>by
  rw [zan]
  unfold zcf
  by_cases h:i < ls.length
  ·have e:=zuf h
   rw [yQ (by omega),zcc (zyb h),zEJ,yx,yx,yg (by unfold xj; omega),zcS,xl,zaM (by omega),xl]
   refine (zAg L ls hl kx n (i+1) (acc++ls[i]) (by omega) (by omega) (by rw [List.length_append]; omega)).trans ?_
   rw [List.drop_eq_getElem_cons h,List.flatten_cons,List.append_assoc]
  ·rw [zM (by omega),List.drop_of_length_le (by omega),List.flatten_nil,List.append_nil]
theorem zzr {L:Nat} (hL:200≤L) (ls:List (List Int)) (hl:ls.length≤100) (hs:zml ls≤100000000) (k:List (List V)→Option β):xn β L (zhJ ls) k=k (yl .u8 ls.flatten):=by
 unfold xn zcu zes
 rw [zpO]
 refine (zBf L ls hl _ _ L 0 0 (by omega) (by omega) (by rw [List.drop_zero]; omega)).trans ?_
 unfold zaS zci yd
 rw [List.drop_zero,yg (by omega),zpO]
 refine (zAg L ls hl _ L 0 [] (by omega) (by omega) (by rw [List.drop_zero]; simp; omega)).trans ?_
 rw [List.drop_zero,List.nil_append]
 rfl
theorem zpl {a b:Nat} (h:a+b≤1000000000000):(a+b) * 1≤xj∧a+b≤xj:=by
 unfold xj; omega
theorem zBY {L:Nat} {b s:List Int} (h:b.length+s.length≤1000000000000) (k:List (List V)→Option β):ym β L (yl .u8 b) (yl .u8 s) k=k (yl .u8 (b++s)):=by
 simp only [ym,znb,xl,yx,List.replicate_zero,List.length_nil,List.nil_append]
 rw [xz (by omega) (by omega),yg (by unfold xj; omega),yg (by unfold xj; omega),yg (zpl h),zcS]
theorem zyZ (L:Nat) (ls:List (List Int)) (hl:ls.length≤100) (kx:List (List V)→Option β):∀ (n i:Nat) (acc:List Int),i≤ls.length→ls.length - i < n→acc.length+zml (ls.drop i)≤100000000 →
  zeA ym L kx n (yl .u8 acc) (zhJ ls) (ls.length:Int) (i:Int)=kx (yl .u8 (acc++(ls.drop i).flatten))
 | 0,i,s,h1,h2,h3=>by omega
 | n+1,i,acc,h1,h2,h3=>by
  rw [zeA]
  unfold zj4
  by_cases h:i < ls.length
  ·have e:=zuf h
   rw [yQ (by omega),zcc (zyb h),zEJ,zBY (by omega),zaM (by omega),xl]
   refine (zyZ L ls hl kx n (i+1) (acc++ls[i]) (by omega) (by omega) (by rw [List.length_append]; omega)).trans ?_
   rw [List.drop_eq_getElem_cons h,List.flatten_cons,List.append_assoc]
  ·rw [zM (by omega),List.drop_of_length_le (by omega),List.flatten_nil,List.append_nil]
theorem zry {L:Nat} (hL:200≤L) (ls:List (List Int)) (hl:ls.length≤100) (hs:zml ls≤100000000) (k:List (List V)→Option β):xa β L (zhJ ls) k=k (yl .u8 ls.flatten):=by
 unfold xa zll zpr
 rw [zpO]
 refine (zyZ L ls hl _ L 0 [] (by omega) (by omega) (by rw [List.drop_zero]; simp; omega)).trans ?_
 rw [List.drop_zero,List.nil_append]
 rfl
theorem zwC (a b:List Int):zh 1 2 [(V.sl 1 (yl .u8 a)),(V.sl 1 (yl .u8 b))]=zhJ [a,b]:=rfl
theorem zE9 (a b c:List Int):zh 1 3 [(V.sl 1 (yl .u8 a)),(V.sl 1 (yl .u8 b)),(V.sl 1 (yl .u8 c))]=zhJ [a,b,c]:=rfl
theorem zxR (a b:List Int):[a,b].flatten=a++b:=by simp
theorem zE4 (a b c:List Int):[a,b,c].flatten=a++b++c:=by simp
theorem zAN (a b:List Int):zml [a,b]=a.length+b.length:=by simp [zml]
theorem zF9 (a b c:List Int):zml [a,b,c]=a.length+b.length+c.length:=by simp [zml]; omega
theorem zC5 (l:List Int):∀ e ∈ yl .u8 l,e.length=1:=by
 intro e he
 obtain ⟨n,_,rfl⟩:=List.mem_map.1 he; rfl
theorem zGb (a:Option β) (b:List V→List (List V)→Option β):lc [] a b=a:=Eq.trans rfl rfl
theorem zFo (x:List V) (l:List (List V)) (a:Option β) (b:List V→List (List V)→Option β):lc (x::l) a b=b x l:=Eq.trans rfl rfl
theorem zDB (L:Nat) (l:List Int) (hl:l.length≤100000000) (k:List (List V)→Option β):xo β L (yl .u8 l) k=k (yl .u8 l):=by
 unfold xo zeJ
 cases h:yl .u8 l with
 | nil=>rw [zGb]
 | cons x m =>
  have hlen:(x::m).length≤100000000:=by rw [← h,yx]; exact hl
  rw [zFo,yg (by simp only [xj]; omega),yg (.inl (by simp)),zvy (by rw [← h]; exact zC5 l)]
theorem zsX:∀ (l:List Int),ze5 (yl .u8 l)=some (l.map fun n=>UInt8.ofNat n.toNat)
 | []=>rfl
 | n::l=>by
  have:=zsX l
  simp only [yl] at this
  simp only [yl,List.map_cons,ze5,this,Option.map_some]
theorem zqd (l:List Int) (k:ByteArray→Option β):zvP (yl .u8 l) k=k ⟨(l.map fun n=>UInt8.ofNat n.toNat).toArray⟩:=by
 simp only [zvP,zsX]
theorem zzq:∀ {a b:List Int},Byt a→Byt b→((a.map fun n=>UInt8.ofNat n.toNat)=(b.map fun n=>UInt8.ofNat n.toNat)↔a=b)
 | [],[],_,_=>by simp
 | [],y::b,_,_=>by simp
 | x::a,[],_,_=>by simp
 | x::a,y::b,ha,hb=>by
  have hx:=ha x (by simp); have hy:=hb y (by simp)
  have ih:=zzq (a:=a) (b:=b) (fun z hz=>ha z (by simp [hz])) (fun z hz=>hb z (by simp [hz]))
  simp only [List.map_cons,List.cons.injEq,ih]
  constructor
  ·rintro ⟨h1,h2⟩
   refine ⟨?_,h2⟩
   have:=congrArg UInt8.toNat h1
   simp only [UInt8.toNat_ofNat'] at this
   rw [Nat.mod_eq_of_lt (by omega),Nat.mod_eq_of_lt (by omega)] at this
   omega
  ·rintro ⟨h1,h2⟩
   exact ⟨by rw [h1],h2⟩
theorem zGE (L:Nat) {a b:List Int} (ha:Byt a) (hb:Byt b) (k:Bool→Option β):za β L (yl .u8 a) (yl .u8 b) k=k (decide (a=b)):=by
 unfold za zls
 rw [zqd,zqd]
 congr 1
 rw [ByteArray.toList_eq,ByteArray.toList_eq,Bool.eq_iff_iff,beq_iff_eq,decide_eq_true_eq]
 exact zzq ha hb
theorem zub (L:Nat) (a:List Int) (k:Bool→Option β):za β L (yl .u8 a) (yl .u8 a) k=k true:=by
 unfold za zls
 rw [zqd,zqd,BEq.rfl]
def zAc (n:Int) (w:Nat):List Int:=(List.range w).map fun (i:Nat)=>IntKind.wrap .u8 (zco .u64 n (8 * (i:Int)))
theorem zv6 (n:Int) (w:Nat):(zAc n w).length=w:=by simp [zAc]
def zkR (n:Int):List Int:=zAc (IntKind.wrap .u64 n) 4
theorem ziy (n:Int):(zkR n).length=4:=zv6 _ _
theorem zCg (n:Int):Byt (zkR n):=by
 intro x hx
 obtain ⟨i,_,rfl⟩:=List.mem_map.1 hx
 exact zsJ _
theorem zvS (k:IntKind):([]:List (List V))=yl k []:=rfl
theorem zGm {L:Nat} {b s:List Int} (h:b.length+s.length≤1000000000000) (k:List (List V)→Option β):zT β L (yl .u8 b) (yl .u8 s) k=k (yl .u8 (b++s)):=by
 simp only [zT,zmX,xl,yx,List.replicate_zero,List.length_nil,List.nil_append]
 rw [xz (by omega) (by omega),yg (by unfold xj; omega),yg (by unfold xj; omega),yg (zpl h),zcS]
theorem zHb (L:Nat) (n:Int) (k:List (List V)→Option β):zU β (L+20) n 4 k=k (yl .u8 (zAc n 4)):=by kernel_rfl
theorem zE7 {L:Nat} (hL:20≤L) {b:List Int} (h:b.length≤900000000000) (n:Int) (k:List (List V)→Option β):zJ β L (yl .u8 b) n k=k (yl .u8 (b++zkR n)):=by
 obtain ⟨m,rfl⟩:∃ m,L=m+20:=⟨L - 20,by omega⟩
 simp only [zJ,zjP,xl]
 rw [zHb,zGm (by rw [zv6]; omega)]; rfl
theorem zGB (L:Nat) (n:Int) (k:List (List V)→Option β):zV β (L+20) n 4 k=k (yl .u8 (zAc n 4)):=by kernel_rfl
theorem zDg {L:Nat} (hL:20≤L) {b:List Int} (h:b.length≤900000000000) (n:Int) (k:List (List V)→Option β):yJ β L (yl .u8 b) n k=k (yl .u8 (b++zkR n)):=by
 obtain ⟨m,rfl⟩:∃ m,L=m+20:=⟨L - 20,by omega⟩
 simp only [yJ,zjR,xl]
 rw [zGB,zBY (by rw [zv6]; omega)]; rfl
end
section
set_option linter.unusedVariables false
set_option linter.unusedSimpArgs false
set_option maxRecDepth 100000
variable {β:Type}
structure Rec where
 kd:Int
 ht:Int
 d:List Int
def Rec.v (r:Rec):List V:=[V.sc (.int .i64 r.kd),V.sc (.int .i64 r.ht),V.sl 1 (yl .u8 r.d)]
def Rec.okB (r:Rec):Bool:=decide (r.kd ≥ 1) && (decide (r.kd≤5) && (decide (r.ht ≥ 0) && (decide (r.ht≤16777216) && decide (((r.d.length:Nat):Int)≤4096))))
theorem zqz (r:Rec) (k:Int→Option β):cI .i64 r.v 0 k=k r.kd:=zpc rfl k
theorem zuB (r:Rec) (k:Int→Option β):cI .i64 r.v 1 k=k r.ht:=zpc rfl k
theorem zoO (r:Rec) (k:List (List V)→Option β):cLd 1 r.v 2 k=k (yl .u8 r.d):=zEr rfl k
theorem zAl (a b:Int) (d:List Int):[(V.sc (.int .i64 a)),(V.sc (.int .i64 b)),(V.sl 1 (yl .u8 d))]=(Rec.mk a b d).v:=rfl
theorem zrr (r:Rec):List.map V.dem (List.take 3 r.v)=r.v:=Eq.trans rfl rfl
theorem zrS (r:Rec):List.take 3 r.v=r.v:=Eq.trans rfl rfl
theorem zrN (r:Rec):zr [(V.sc (.int .i64 (0:Int))),(V.sc (.int .i64 (0:Int))),(V.gs 1 ([]:List (List V)))] 0 r.v=r.v:=zbO rfl
theorem zyc (r:Rec):zr [(V.sc (.int .i64 (0:Int))),(V.sc (.int .i64 (0:Int))),(V.sl 1 ([]:List (List V)))] 0 r.v=r.v:=zbO rfl
theorem zfA (r:Rec) (k:Option β):chk (0+3≤List.length r.v) k=k:=yg (by show 0+3≤3; omega) k
theorem zjd (r:Rec) (k:Option β):chk ((List.length r.v)=3∧0+3≤3) k=k:=yg ⟨rfl,by decide⟩ k
theorem zyq (r:Rec) (k:Option β):chk (0=0∧(List.length r.v)=3∧3≠0) k=k:=yg ⟨rfl,rfl,by decide⟩ k
theorem zsp (L:Nat) (r:Rec) (k:Bool→Option β):ze β L r.v k=k r.okB:=by
 unfold ze zlF Rec.okB
 rw [zqz,zqz,zuB,zuB,zoO,yx]
 cases decide (r.kd ≥ 1) <;> cases decide (r.kd≤5) <;> cases decide (r.ht ≥ 0) <;> cases decide (r.ht≤16777216) <;> rfl
theorem zqu (L:Nat) (r:Rec) (k:Bool→Option β):zf β L r.v k=k r.okB:=by
 unfold zf zom Rec.okB
 rw [zqz,zqz,zuB,zuB,zoO,yx]
 cases decide (r.kd ≥ 1) <;> cases decide (r.kd≤5) <;> cases decide (r.ht ≥ 0) <;> cases decide (r.ht≤16777216) <;> rfl
def crc (last fr:List Int):List Int:=(ztT (last++fr)).take 4
theorem zk8 (last fr:List Int):(crc last fr).length=4:=by rw [crc,List.length_take,zv1]; decide
theorem zwG (last fr:List Int):Byt (crc last fr):=Byt.take (a:=ztT (last++fr)) (zFK _) 4
theorem ztY {w:List Int} (hw:w.length=4):zr [(V.sc (.int .u8 (0:Int))),(V.sc (.int .u8 (0:Int))),(V.sc (.int .u8 (0:Int))),(V.sc (.int .u8 (0:Int)))] 0 (row .u8 w)=row .u8 w:=zbO (by rw [xw,hw]; rfl)
theorem zyz {w:List Int} (hw:4≤w.length):zh 1 4 (row .u8 w)=yl .u8 (w.take 4):=zoR .u8 4 w hw
theorem zkg {w:List Int} (hw:w.length=4) (k:Option β):chk ((List.length (row .u8 w))=4∧0+4≤4) k=k:=yg ⟨by rw [xw,hw],by decide⟩ k
theorem zm6 {w:List Int} (hw:w.length=4) (k:Option β):chk (0+4≤(List.length (row .u8 w))) k=k:=yg (by rw [xw,hw]; omega) k
theorem zyI {w:List Int} (hw:w.length=4) (k:Option β):chk (0=0∧(List.length (row .u8 w))=4∧4≠0) k=k:=yg ⟨rfl,by rw [xw,hw],by decide⟩ k
theorem zpa {w:List Int} (hw:w.length=4):List.take 4 (row .u8 w)=row .u8 w:=List.take_of_length_le (by rw [xw,hw]; omega)
theorem zyN (l:List V) (h:l.length≠0):∃ x t,l=x::t:=by
 cases l with
 | nil=>exact absurd rfl h
 | cons x t=>exact ⟨x,t,rfl⟩
theorem zv4 {α:Type} (x:α) (l:List α) (a:Option β) (b:α→List α→Option β):lc (x::l) a b=b x l:=Eq.trans rfl rfl
theorem zFX {α:Type} (a:Option β) (b:α→List α→Option β):lc [] a b=a:=Eq.trans rfl rfl
theorem zAd {L:Nat} (hL:20000≤L) {last fr:List Int} (h4:last.length=4) (hb:Byt last) (hf:Byt fr) (hl:fr.length≤10000) (k:List V→Option β):xA β L (row .u8 last) (yl .u8 fr) k=k (row .u8 (crc last fr)):=by
 unfold xA zlD
 obtain ⟨h0,t0,e0⟩:=zyN (row .u8 last) (by rw [xw,h4]; decide)
 rw [e0,zv4,← e0,yg (by rw [xw,h4]; decide),zyz (by omega),List.take_of_length_le (show last.length≤4 by omega),zwC,zzr (by omega) _ (by simp) (by rw [zAN]; omega),zxR]
 rw [zF5 (by rw [List.length_append]; omega) (by rw [List.length_append]; omega) (hb.app hf)]
 have hs:=zv1 (last++fr)
 rw [yg ⟨by rw [xw,hs],by decide⟩,zFf hs,xl,yg (by rw [xw,hs]; decide),yg (by rw [xw,hs]; decide),zEX]
 have hc:=zk8 last fr
 unfold crc at hc ⊢
 rw [zkg hc,ztY hc,xl,zyI hc]
theorem zBc {L:Nat} (hL:20000≤L) {last fr:List Int} (h4:last.length=4) (hb:Byt last) (hf:Byt fr) (hl:fr.length≤10000) (k:List (List V)→Option β):zF β L (yl .u8 last) (yl .u8 fr) k=k (yl .u8 (crc last fr)):=by
 unfold zF zn7
 rw [zwC,zry (by omega) _ (by simp) (by rw [zAN]; omega),zxR,zFR (by rw [List.length_append]; omega) (by rw [List.length_append]; omega) (hb.app hf)]
 have hs:=zv1 (last++fr)
 rw [yg ⟨by rw [xw,hs],by decide⟩,zFf hs,xl,yg (by rw [xw,hs]; decide),zyz (by omega),yx,yg (by rw [List.length_take,hs]; decide),xl]
 rfl
def slc (j:List Int) (a b:Nat):List Int:=(j.drop a).take (b - a)
theorem zrY {j:List Int} {a b:Nat} (h1:a≤b) (h2:b≤j.length):(slc j a b).length=b - a:=by rw [slc,List.length_take,List.length_drop]; omega
theorem zBm {j:List Int} (h:Byt j) (a b:Nat):Byt (slc j a b):=(h.drop a).take _
theorem zm8 (j:List Int) (a b:Nat):List.take (b - a) (List.drop a (yl .u8 j))=yl .u8 (slc j a b):=by rw [zzs,zd5,slc]
def zW (j:List Int) (a:Nat):Nat:=(le4 j a).toNat
def zkE (j:List Int) (a:Nat):Rec:=⟨j.getD (a+4) 0,le4 j (a+5),slc j (a+9) (a+9+zW j a)⟩
def Frm (j:List Int) (a:Nat) (last:List Int):Prop:=le4 j a≤4096∧a+13+zW j a≤j.length∧(zkE j a).okB=true∧slc j (a+9+zW j a) (a+13+zW j a)=crc last (slc j a (a+9+zW j a))
open Classical in
noncomputable def nextO (j:List Int) (a:Nat) (last:List Int):Option (Rec × Nat × List Int) :=
 if Frm j a last then some (zkE j a,a+13+zW j a,crc last (slc j a (a+9+zW j a))) else none
def zRec:Rec:=⟨0,0,[]⟩
def z4:List Int:=[0,0,0,0]
theorem zqt (k:List V→Int→List V→Bool→Option β) :
  lt [(V.sc (.int .i64 (0:Int))),(V.sc (.int .i64 (0:Int))),(V.sl 1 ([]:List (List V)))] (fun r3=>lt [(V.sc (.int .u8 (0:Int))),(V.sc (.int .u8 (0:Int))),(V.sc (.int .u8 (0:Int))),(V.sc (.int .u8 (0:Int)))] fun r4=>chk (0=0∧(List.length r3)=3∧3≠0) (chk (0=0∧(List.length r4)=4∧4≠0) (k r3 (0:Int) r4 false)))=k zRec.v 0 (row .u8 z4) false:=by
 rw [xl,xl,yg ⟨rfl,rfl,by decide⟩,yg ⟨rfl,rfl,by decide⟩]; exact Eq.trans rfl rfl
noncomputable def nextK (j:List Int) (a:Nat) (last:List Int) (k:List V→Int→List V→Bool→Option β):Option β:=match nextO j a last with
 | some (r,e,f)=>k r.v (e:Int) (row .u8 f) true
 | none=>k zRec.v 0 (row .u8 z4) false
theorem ziG {j:List Int} {a:Nat} {last:List Int} (h:¬ Frm j a last) (k:List V→Int→List V→Bool→Option β):nextK j a last k=k zRec.v 0 (row .u8 z4) false:=by
 unfold nextK nextO; rw [if_neg h]
theorem zDF {j:List Int} {a:Nat} {last:List Int} (h:Frm j a last) (k:List V→Int→List V→Bool→Option β):nextK j a last k=k (zkE j a).v ((a+13+zW j a:Nat):Int) (row .u8 (crc last (slc j a (a+9+zW j a)))) true:=by
 unfold nextK nextO; rw [if_pos h]
theorem zFN {L:Nat} (hL:20000≤L) {j last:List Int} (hb:Byt j) (hj:j.length≤1000000) (h4:last.length=4) (hlb:Byt last) {a:Nat} (ha:a≤j.length) (k:List V→Int→List V→Bool→Option β):yt β L (yl .u8 j) (a:Int) (row .u8 last) k=nextK j a last k:=by
 unfold yt zm4
 rw [zDu (by omega) hb (by omega) ha]
 have l0:=zxo hb a
 have l5:=zxo hb (a+5)
 rcases Classical.em (¬ (a+4≤j.length)) with c1 | c1'
 ·rw [if_neg c1,zce,if_neg (by decide),zqt,ziG (fun h=>by have:=h.2.1; omega)]
 have c1:a+4≤j.length:=Classical.not_not.1 c1'
 rw [if_pos c1,zce,if_pos rfl]
 rcases Classical.em (¬ (le4 j a≤4096)) with c2 | c2'
 ·rw [yQ (by omega),zqt,ziG (fun h=>c2 h.1)]
 have c2:le4 j a≤4096:=Classical.not_not.1 c2'
 have hN:le4 j a=((zW j a:Nat):Int):=by unfold zW; omega
 have hN2:zW j a≤4096:=by omega
 rw [zM (by omega),zGP (by omega) hb (by omega) (by omega)]
 rcases Classical.em (¬ (a+4+1≤j.length)) with c3 | c3'
 ·rw [if_neg c3,zce,if_neg (by decide),zqt,ziG (fun h=>by have:=h.2.1; omega)]
 have c3:a+4+1≤j.length:=Classical.not_not.1 c3'
 rw [if_pos c3,zce,if_pos rfl,zDu (by omega) hb (by omega) (by omega)]
 rcases Classical.em (¬ (a+4+1+4≤j.length)) with c4 | c4'
 ·rw [if_neg c4,zce,if_neg (by decide),zqt,ziG (fun h=>by have:=h.2.1; omega)]
 have c4:a+4+1+4≤j.length:=Classical.not_not.1 c4'
 rw [if_pos c4,zce,if_pos rfl]
 rcases Classical.em (¬ (le4 j (a+5)≤16777216)) with c5 | c5'
 ·rw [yQ (by show le4 j (a+5) > 16777216; omega),zqt,ziG (fun h=>by
   have:=h.2.2.1
   unfold Rec.okB zkE at this
   simp only [Bool.and_eq_true,decide_eq_true_eq] at this
   exact c5 this.2.2.2.1)]
 have c5:le4 j (a+5)≤16777216:=Classical.not_not.1 c5'
 have w1:IntKind.wrap .i64 (le4 j a)=((zW j a:Nat):Int):=by rw [xz (by omega) (by omega)]; exact hN
 have w2:IntKind.wrap .i64 (((a+4+1+4:Nat):Int)+((zW j a:Nat):Int))=((a+9+zW j a:Nat):Int):=by rw [xz (by omega) (by omega)]; omega
 have w3:IntKind.wrap .i64 (((a+9+zW j a:Nat):Int)+4)=((a+13+zW j a:Nat):Int):=by rw [xz (by omega) (by omega)]; omega
 rw [zM (by show ¬ le4 j (a+5) > 16777216; omega),w1,xl,w2,xl,w3,xl,yx]
 rcases Classical.em (¬ (a+13+zW j a≤j.length)) with c6 | c6'
 ·rw [yQ (by omega),zqt,ziG (fun h=>c6 h.2.1)]
 have c6:a+13+zW j a≤j.length:=Classical.not_not.1 c6'
 have hk:=hb.getD (a+4)
 rw [zM (by omega),xz (by omega) (by omega),xl,xz (show -9223372036854775808≤le4 j (a+4+1) by show _≤le4 j (a+5); omega) (by show le4 j (a+5)≤_; omega),xl,yg ⟨by omega,by omega⟩,Int.toNat_natCast,yg ⟨by omega,by omega⟩,Int.toNat_natCast,show a+4+1+4=a+9 by omega,zm8,zDB L _ (by rw [zrY (by omega) (by omega)]; omega),zAl,xl,xl,yg ⟨by omega,by omega⟩,Int.toNat_natCast,yg ⟨by omega,by omega⟩,zm8]
 have hF:(slc j (a+9+zW j a) (a+13+zW j a)).length=4:=by rw [zrY (by omega) (by omega)]; omega
 have eF:List.take 4 (List.flatten (List.take 4 (yl .u8 (slc j (a+9+zW j a) (a+13+zW j a)))))=row .u8 (slc j (a+9+zW j a) (a+13+zW j a)):=by
  rw [zd5,List.take_of_length_le (show (slc j (a+9+zW j a) (a+13+zW j a)).length≤4 by omega),zqm,zpa hF]
 rw [yg (by rw [yx]; omega),eF,zkg hF,ztY hF,xl,zfA,zrr,zsp]
 have eR:(Rec.mk (j.getD (a+4) 0) (le4 j (a+4+1)) (slc j (a+9) (a+9+zW j a)))=zkE j a:=rfl
 rw [eR]
 cases c7:(zkE j a).okB with
 | false=>rw [Bool.not_false,ziM,zqt,ziG (fun h=>by rw [h.2.2.1] at c7; cases c7)]
 | true =>
  rw [Bool.not_true,zb8,zm6 hF,zm6 h4,yg ⟨by omega,by omega⟩,yg ⟨by omega,by omega⟩,zpa h4,Int.toNat_natCast,zm8,zAd hL h4 hlb (zBm hb _ _) (by rw [zrY (by omega) (by omega)]; omega),zpa hF,zFP .u8 hF (zk8 _ _)]
  by_cases c8:slc j (a+9+zW j a) (a+13+zW j a)=crc last (slc j a (a+9+zW j a))
  ·rw [decide_eq_true c8,Bool.not_true,zb8,zfA,xl,zm6 hF,zrS,zjd,zrN,xl,zkg hF,ztY hF,xl,zyq,zyI hF,zDF ⟨c2,c6,c7,c8⟩,c8]
  ·rw [decide_eq_false c8,Bool.not_false,ziM,zqt,ziG (fun h=>c8 h.2.2.2)]
end
end Go.Proofs.YteopmmegeagklaaDoor
