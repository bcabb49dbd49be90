/- Part 8 of the proof of TxWitnessFree: an abstract machine over plain values, its soundness, and the functions of the program on plain values. -/
import Derived.ProofKit
import Derived.OpenShut
import Derived.ChangeOld
import Derived.Deep.Slices
import Derived.SizedLaws
import Derived.Test.YtoeobffjdbdpgaaDoorMTxWitnessFree7
namespace Go.Proofs.YtoeobffjdbdpgaaDoor
section
open Go.ChangeShapes Go.WideShapes Go.RowKit Go.Deep
set_option linter.unusedVariables false
set_option linter.unusedSimpArgs false
inductive CT where
 | int (k:IntKind)
 | bool
 | str
 | sl (cs:List CT)
inductive HasC:CT→V→Prop
 | int (k:IntKind) (n:Int) (h:(Lit.int k n).wf=true):HasC (.int k) (.sc (.int k n))
 | bool (b:Bool):HasC .bool (.sc (.bool b))
 | str (s:ByteArray) (h:s.size≤maxLen):HasC .str (.sc (.string s))
 | sl (cs:List CT) (es:List (List V)) (hl:es.length≤maxLen) (h0:∀ e ∈ es,e.length=cs.length) (h:∀ e ∈ es,∀ (i:Nat) (c:V) (ct:CT),e[i]?=some c→cs[i]?=some ct→HasC ct c):HasC (.sl cs) (.sl cs.length es)
def HasRow (cts:List CT) (vs:List V):Prop:=vs.length=cts.length∧∀ (i:Nat) (c:V) (ct:CT),vs[i]?=some c→cts[i]?=some ct→HasC ct c
def zq1 (f:TypeId→Option (List CT)) (size:TypeId→Nat):List Field→Nat→Option (List CT)
 | [],_=>some []
 | x::xs,off=>do
  let a ← f x.type
  if x.offset=off∧size x.type=a.length then
   let b ← zq1 f size xs (off+a.length)
   some (a++b)
  else none
def ziY (P:Program):Nat→TypeId→Option (List CT)
 | 0,_=>none
 | d+1,t=>match P.underlying t with
  | some .bool=>some [.bool]
  | some (.int k)=>some [.int k]
  | some .string=>some [.str]
  | some (.slice e)=>do
   let c ← ziY P d e
   if P.cellsOf e=c.length∧0 < c.length then some [.sl c] else none
  | some (.array n e)=>do
   let c ← ziY P d e
   if P.cellsOf e=c.length∧P.cellsOf t=n * c.length then some (List.replicate n c).flatten else none
  | some (.struct fs)=>do
   let c ← zq1 (ziY P d) P.cellsOf fs.toList 0
   if P.cellsOf t=c.length then some c else none
  | _=>none
section
variable {H:Type} {enc:TypeId × Value→H} {P:Program} {w:World} {base:Nat} {spare:Nat→Bool} {held:Bool} {ren:Rn}
def RdC (ren:Rn) (w:World) (cts:List CT) (cs:List Value) (vs:List V):Prop :=
 cs.length=cts.length∧vs.length=cts.length∧∀ (i:Nat) (u:Value) (v:V) (ct:CT),cs[i]?=some u→vs[i]?=some v→cts[i]?=some ct→u.oneCell'=true∧RepP ren w zeT v u∧HasC ct v
theorem RdC.one {ct:CT} {u:Value} {v:V} (h1:u.oneCell'=true) (h2:RepP ren w zeT v u) (h3:HasC ct v):RdC ren w [ct] [u] [v]:=by
 refine ⟨rfl,rfl,fun i u' v' ct' hu hv hc=>?_⟩
 cases i with
 | zero=>simp at hu hv hc; subst hu; subst hv; subst hc; exact ⟨h1,h2,h3⟩
 | succ i=>simp at hu
theorem RdC.nil:RdC ren w [] [] []:=⟨rfl,rfl,fun i u v ct h=>by simp at h⟩
theorem RdC.app {c1 c2:List CT} {a1 a2:List Value} {b1 b2:List V} (h1:RdC ren w c1 a1 b1) (h2:RdC ren w c2 a2 b2):RdC ren w (c1++c2) (a1++a2) (b1++b2):=by
 obtain ⟨l1,m1,q1⟩:=h1
 obtain ⟨l2,m2,q2⟩:=h2
 refine ⟨by simp [l1,l2],by simp [m1,m2],fun i u v ct hu hv hc=>?_⟩
 by_cases hi:i < c1.length
 ·rw [List.getElem?_append_left (by omega)] at hu hv hc
  exact q1 i u v ct hu hv hc
 ·rw [List.getElem?_append_right (by omega)] at hu hv hc
  rw [l1] at hu; rw [m1] at hv
  exact q2 _ u v ct hu hv hc
theorem RdC.row {cts:List CT} {cs:List Value} {vs:List V} (h:RdC ren w cts cs vs):HasRow cts vs:=by
 refine ⟨h.2.1,fun i c ct hc ht=>?_⟩
 have hlt:i < cs.length:=by rw [h.1,← h.2.1]; exact (List.getElem?_eq_some_iff.1 hc).1
 exact (h.2.2 i _ c ct (List.getElem?_eq_getElem hlt) hc ht).2.2
theorem zp1 {f:TypeId→Option (List CT)} {size:TypeId→Nat} {cs:List Value} (rd:∀ (t:TypeId) (cts:List CT),f t=some cts→∀ x ∈ ([]:List Nat),True) :
  ∀ (fs:List Field) (off:Nat) (cts:List CT),zq1 f size fs off=some cts→(∀ x ∈ fs,∀ a,f x.type=some a→∃ vs,RdC ren w a ((cs.drop x.offset).take (size x.type)) vs)→∃ vs,RdC ren w cts ((cs.drop off).take cts.length) vs
 | [],off,cts,h,_=>by
  cases h
  exact ⟨[],by simpa using RdC.nil⟩
 | x::xs,off,cts,h,H=>by
  simp only [zq1,Option.bind_eq_bind,Option.bind_eq_some_iff] at h
  obtain ⟨a,ha,h⟩:=h
  split at h
  ·rename_i hc
   simp only [Option.bind_eq_some_iff,Option.some.injEq] at h
   obtain ⟨b,hb,rfl⟩:=h
   obtain ⟨vs1,r1⟩:=H x (by simp) a ha
   obtain ⟨vs2,r2⟩:=zp1 rd xs _ b hb (fun y hy=>H y (by simp [hy]))
   refine ⟨vs1++vs2,?_⟩
   have e:(cs.drop off).take (a++b).length=(cs.drop x.offset).take (size x.type)++(cs.drop (off+a.length)).take b.length:=by
    rw [hc.1,hc.2,List.length_append,List.take_add,List.drop_drop]
   rw [e]
   exact r1.app r2
  ·cases h
theorem zrR {cs:List Value} {c:List CT}:∀ (n m:Nat),(∀ i,i < n→∃ vs,RdC ren w c ((cs.drop ((m+i) * c.length)).take c.length) vs)→∃ vs,RdC ren w (List.replicate n c).flatten ((cs.drop (m * c.length)).take (n * c.length)) vs
 | 0,m,H=>⟨[],by simpa using RdC.nil⟩
 | n+1,m,H=>by
  obtain ⟨vs1,r1⟩:=H 0 (by omega)
  obtain ⟨vs2,r2⟩:=zrR n (m+1) (fun i hi=>by
   obtain ⟨vs,r⟩:=H (i+1) (by omega)
   exact ⟨vs,by rw [show m+1+i=m+(i+1) by omega]; exact r⟩)
  refine ⟨vs1++vs2,?_⟩
  have e:(cs.drop (m * c.length)).take ((n+1) * c.length)=(cs.drop ((m+0) * c.length)).take c.length++(cs.drop ((m+1) * c.length)).take (n * c.length):=by
   rw [Nat.add_zero,Nat.add_mul n,Nat.one_mul,Nat.add_comm (n * c.length),List.take_add,List.drop_drop,show (m+1) * c.length=m * c.length+c.length by rw [Nat.add_mul,Nat.one_mul]]
   rw [show m+0=m from rfl]
  rw [e,List.replicate_succ,List.flatten_cons]
  exact r1.app r2
theorem zxa {α:Type} {n:Nat}:∀ (es:List (List α)),(∀ e ∈ es,e.length=n)→0 < n→∀ (i:Nat),es.flatten[i]?=(es[i / n]?).bind (fun e=>e[i % n]?)
 | [],_,_,i=>by simp
 | e::es,h,hn,i=>by
  have he:=h e (by simp)
  rw [List.flatten_cons]
  by_cases hi:i < n
  ·rw [List.getElem?_append_left (by omega),Nat.div_eq_of_lt hi,Nat.mod_eq_of_lt hi]; simp
  ·rw [List.getElem?_append_right (by omega),zxa es (fun x hx=>h x (by simp [hx])) hn,he]
   obtain ⟨j,rfl⟩:∃ j,i=j+n:=⟨i - n,by omega⟩
   rw [Nat.add_sub_cancel,Nat.add_div_right _ hn,Nat.add_mod_right]
   simp
theorem zlj:∀ (d:Nat) (t:TypeId) (cts:List CT),ziY P d t=some cts→∀ (fuel:Nat) (cs:List Value) (x:DataW H × List MemPlace),DataW.trod enc P w base spare held fuel t cs=some x→∃ vs,RdC ren w cts cs vs
 | 0,t,cts,h,fuel,cs,x,hx=>by cases h
 | d+1,t,cts,h,fuel,cs,x,hx=>by
  unfold ziY at h
  split at h
  ·rename_i ht
   cases h
   obtain ⟨b,rfl,_⟩:=DataW.trod_bool ht hx
   exact ⟨[.sc (.bool b)],.one rfl (.sc _ rfl) (.bool b)⟩
  ·rename_i k ht
   cases h
   obtain ⟨n,rfl,_,hw⟩:=DataW.trod_int ht hx
   exact ⟨[.sc (.int k n)],.one rfl (.sc _ rfl) (.int k n hw)⟩
  ·rename_i ht
   cases h
   obtain ⟨s,rfl,_,hw⟩:=DataW.trod_string ht hx
   exact ⟨[.sc (.string s)],.one rfl (.sc _ rfl) (.str s hw)⟩
  ·rename_i e ht
   simp only [Option.bind_eq_bind,Option.bind_eq_some_iff] at h
   obtain ⟨c,hc,h⟩:=h
   split at h
   ·rename_i hsz
    obtain ⟨hsz,hpos⟩:=hsz
    cases h
    rcases open_slice ht hx with ⟨rfl,_⟩ | ⟨a,len,cap,m,n,D,Pl,rfl,_,hl,hm,hmm,_,hi⟩
    ·refine ⟨[.sl c.length []],.one rfl (.sl _ [] none 0 (fun _=>undef) (Nat.le_refl _) (by simp) 0 0 (by simp) (by simp) (by simp) (by simp)) (.sl c [] (by simp) (by simp) (by simp))⟩
    ·have hlm:len≤m:=by rw [hmm]; split <;> omega
     have each:∀ i,i < len→∃ (us:List Value) (vs:List V),RdC ren w c us vs∧∀ j,j < c.length→w.cell? ((a.add (i * c.length)).add j)=us[j]?:=by
      intro i hil
      obtain ⟨cs',h1,h2⟩:=hi i (by omega)
      rw [hsz] at h1
      obtain ⟨_,hcl,hat⟩:=World.cells?_some h1
      obtain ⟨vs,r⟩:=zlj d e c hc _ _ _ h2
      exact ⟨cs',vs,r,hat⟩
     have hex:∃ (us:Nat→List Value) (vs:Nat→List V),∀ i,i < len→RdC ren w c (us i) (vs i)∧∀ j,j < c.length→w.cell? ((a.add (i * c.length)).add j)=(us i)[j]?:=by
      have:∀ i,∃ p:List Value × List V,i < len→RdC ren w c p.1 p.2∧∀ j,j < c.length→w.cell? ((a.add (i * c.length)).add j)=p.1[j]?:=by
       intro i
       by_cases hil:i < len
       ·obtain ⟨us,vs,q⟩:=each i hil; exact ⟨(us,vs),fun _=>q⟩
       ·exact ⟨([],[]),fun h=>absurd h hil⟩
      refine ⟨fun i=>(Classical.choose (this i)).1,fun i=>(Classical.choose (this i)).2,fun i hil=>Classical.choose_spec (this i) hil⟩
     obtain ⟨us,vs,hrow⟩:=hex
     have hget:∀ i,i < len→((List.range len).map vs)[i]?=some (vs i):=fun i hil=>by simp [hil]
     have hsz2:∀ e ∈ (List.range len).map vs,e.length=c.length:=by
      intro e he
      obtain ⟨i,hil,rfl⟩:=List.mem_map.1 he
      exact (hrow i (List.mem_range.1 hil)).1.2.1
     have cell:∀ (i:Nat) (v:V),((List.range len).map vs).flatten[i]?=some v→0 < c.length∧i / c.length < len∧(vs (i / c.length))[i % c.length]?=some v∧∃ u,(us (i / c.length))[i % c.length]?=some u∧u.oneCell'=true∧RepP ren w zeT v u∧w.cell? ((a.add (i / c.length * c.length)).add (i % c.length))=some u:=by
      intro i v hv
      have hpos:0 < c.length:=by
       rcases Nat.eq_zero_or_pos c.length with h0 | h0
       ·have:((List.range len).map vs).flatten=[]:=by
         rw [List.flatten_eq_nil_iff]
         intro l hl'
         exact List.length_eq_zero_iff.1 ((hsz2 l hl').trans h0)
        rw [this] at hv; simp at hv
       ·exact h0
      rw [zxa _ hsz2 hpos] at hv
      have hlt:i / c.length < len:=by
       cases hq:((List.range len).map vs)[i / c.length]? with
       | none=>rw [hq] at hv; simp at hv
       | some e=>have:=(List.getElem?_eq_some_iff.1 hq).1; simpa using this
      rw [hget _ hlt] at hv
      have hv:(vs (i / c.length))[i % c.length]?=some v:=hv
      have hr:=hrow _ hlt
      have hm:=Nat.mod_lt i hpos
      have hu:(us (i / c.length))[i % c.length]?=some ((us (i / c.length))[i % c.length]'(by rw [hr.1.1]; exact hm)):=List.getElem?_eq_getElem _
      obtain ⟨q1,q2,q3⟩:=hr.1.2.2 _ _ _ _ hu hv (List.getElem?_eq_getElem hm)
      exact ⟨hpos,hlt,hv,_,hu,q1,q2,by rw [hr.2 _ hm]; exact hu⟩
     have spot:((List.range len).map vs).flatten≠[]→a.spot=none:=by
      intro hne
      have hl0:0 < ((List.range len).map vs).flatten.length:=List.length_pos_iff.2 hne
      obtain ⟨_,_,_,u,_,_,_,hcell⟩:=cell 0 _ (List.getElem?_eq_getElem hl0)
      have hcell:w.cell? a=some u:=by simpa [Addr.add] using hcell
      unfold World.cell? at hcell
      split at hcell
      ·split at hcell
       ·cases hcell
       ·rename_i hs; simpa using hs
      ·cases hcell
     have addr:((List.range len).map vs).flatten≠[]→a=⟨a.block,a.off,none⟩:=by
      intro hne
      have:=spot hne
      cases a; simp_all
     have addto:∀ i v,((List.range len).map vs).flatten[i]?=some v→(a.add (i / c.length * c.length)).add (i % c.length)=⟨a.block,a.off+i,none⟩:=by
      intro i v hv
      have hne:((List.range len).map vs).flatten≠[]:=by intro h0; rw [h0] at hv; simp at hv
      rw [addr hne,zbv,zbv]
      have:=Nat.div_add_mod i c.length
      rw [Nat.mul_comm] at this
      show (⟨a.block,a.off+i / c.length * c.length+i % c.length,none⟩:Addr)=⟨a.block,a.off+i,none⟩
      congr 1; omega
     have hcap:len≤maxLen:=by omega
     have hlen:((List.range len).map vs).length=len:=by simp
     have rp:RepP ren w zeT (.sl c.length ((List.range len).map vs)) (.slice (some a) ((List.range len).map vs).length cap):=by
      by_cases hne:((List.range len).map vs).flatten=[]
      ·
       have:(List.range len).map vs=[]:=by
        cases hes:(List.range len).map vs with
        | nil=>rfl
        | cons e es =>
         have h1:=hsz2 e (by rw [hes]; simp)
         rw [hes,List.flatten_cons,List.append_eq_nil_iff] at hne
         rw [hne.1] at h1
         simp at h1; omega
       rw [this]
       exact .sl _ [] (some a) cap (fun _=>undef) (Nat.zero_le _) (by simp) 0 0 (by simp) (by simp) (by simp) (by simp)
      ·refine .sl _ _ (some a) cap (fun i=>(w.cell? ⟨a.block,a.off+i,none⟩).getD undef) (by rw [hlen]; exact hl) hsz2 a.block a.off (fun _=>by rw [← addr hne]) (fun i v hv=>?_) (fun i v hv=>?_) (fun i v hv=>?_) <;>
        (obtain ⟨hpos,hlt,hv',u,hu,q1,q2,hcell⟩:=cell i v hv
         rw [addto i v hv] at hcell
         simp only [hcell,Option.getD_some])
       ·exact ⟨fun h=>h,trivial⟩
       ·exact q1
       ·exact q2
     refine ⟨[.sl c.length ((List.range len).map vs)],.one rfl (by rw [hlen] at rp; exact rp) (.sl c _ (by rw [hlen]; exact hcap) hsz2 (fun e he i v ct hv hct=>?_))⟩
     obtain ⟨q,hq,rfl⟩:=List.mem_map.1 he
     exact (hrow q (List.mem_range.1 hq)).1.row.2 i v ct hv hct
   ·cases h
  ·rename_i n e ht
   simp only [Option.bind_eq_bind,Option.bind_eq_some_iff] at h
   obtain ⟨c,hc,h⟩:=h
   split at h
   ·rename_i hsz
    cases h
    obtain ⟨xs,m,_,_,hl,hxl,hi⟩:=DataW.trod_array ht hx
    have:=zrR (ren:=ren) (w:=w) (cs:=cs) (c:=c) n 0 (fun i hin=>by
     have:=hi i hin
     rw [List.getElem?_eq_getElem (by omega)] at this
     rw [hsz.1] at this
     obtain ⟨vs,r⟩:=zlj d e c hc _ _ _ this
     exact ⟨vs,by rw [Nat.zero_add]; exact r⟩)
    rw [Nat.zero_mul,List.drop_zero,List.take_of_length_le (by omega)] at this
    exact this
   ·cases h
  ·rename_i fs ht
   simp only [Option.bind_eq_bind,Option.bind_eq_some_iff] at h
   obtain ⟨c,hc,h⟩:=h
   split at h
   ·rename_i hsz
    cases h
    obtain ⟨xs,m,_,_,hl,hxl,hi⟩:=DataW.trod_struct ht hx
    have:=zp1 (ren:=ren) (w:=w) (cs:=cs) (fun _ _ _ _ h=>by cases h) fs.toList 0 cts hc (fun y hy a ha=>by
     obtain ⟨i,hil,rfl⟩:=List.getElem_of_mem hy
     have hil':i < fs.size:=by simpa using hil
     have:=hi i fs[i] (Array.getElem?_eq_getElem hil')
     rw [List.getElem?_eq_getElem (by omega)] at this
     exact zlj d _ a ha _ _ _ (by simpa using this))
    rw [List.drop_zero,List.take_of_length_le (by omega)] at this
    exact this
   ·cases h
  ·cases h
theorem zDr {r:Reach} {b0:Nat} {t:TypeId} {v:Value} {dd:DataW H} {p:List MemPlace} {cts:List CT} {d:Nat} (hagg:xN P t=some true) (hv:Value.okWide P w r b0 t v) (h:DataW.Trod enc P w base spare held t v dd p) (hc:ziY P d t=some cts) :
  ∃ vs,HasRow cts vs∧RepP ren w zeT (.agg vs) v:=by
 obtain ⟨fuel,hf⟩:=h
 obtain ⟨vs,rd⟩:=zlj (ren:=ren) d t cts hc _ _ _ hf
 have:∃ us:Array Value,v=.agg us:=by
  unfold xN at hagg
  cases hu:P.underlying t with
  | none=>simp [hu] at hagg
  | some T =>
   simp only [Value.okWide,hu] at hv
   cases T <;> simp [hu] at hagg
   ·obtain ⟨us,h1,_⟩:=hv; exact ⟨us,h1⟩
   ·obtain ⟨us,h1,_⟩:=hv; exact ⟨us,h1⟩
 obtain ⟨us,rfl⟩:=this
 have rd:RdC ren w cts us.toList vs:=rd
 refine ⟨vs,rd.row,?_⟩
 have key:=RepP.agg (ren:=ren) (w:=w) (Wr:=zeT) vs us.toList (by rw [rd.1,rd.2.1]) (fun i c u hc hu=>(rd.2.2 i u c _ hu hc (List.getElem?_eq_getElem (by rw [← rd.1]; exact (List.getElem?_eq_some_iff.1 hu).1))).2.1) (fun u hu=>by
  obtain ⟨i,hi,rfl⟩:=List.getElem_of_mem hu
  have h1:i < vs.length:=by rw [rd.2.1,← rd.1]; exact hi
  have h2:i < cts.length:=by rw [← rd.1]; exact hi
  exact (rd.2.2 i _ _ _ (List.getElem?_eq_getElem hi) (List.getElem?_eq_getElem h1) (List.getElem?_eq_getElem h2)).1)
 simpa using key
theorem zC3 {r:Reach} {b0:Nat} {t:TypeId} {v:Value} {dd:DataW H} {p:List MemPlace} {ct:CT} {d:Nat} (hv1:v.cells=#[v]) (h:DataW.Trod enc P w base spare held t v dd p) (hc:ziY P d t=some [ct]) :
  ∃ x,HasC ct x∧RepP ren w zeT x v:=by
 obtain ⟨fuel,hf⟩:=h
 obtain ⟨vs,rd⟩:=zlj (ren:=ren) d t [ct] hc _ _ _ hf
 rw [hv1] at rd
 have hl:vs.length=1:=rd.2.1
 obtain ⟨x,rfl⟩:∃ x,vs=[x]:=by
  match vs,hl with
  | [x],_=>exact ⟨x,rfl⟩
 obtain ⟨q1,q2,q3⟩:=rd.2.2 0 v x ct rfl rfl rfl
 exact ⟨x,q3,q2⟩
theorem HasC.int_inv {k:IntKind} {v:V} (h:HasC (.int k) v):∃ n,v=.sc (.int k n)∧(Lit.int k n).wf=true:=by
 cases h with | int _ n h=>exact ⟨n,rfl,h⟩
theorem HasC.sl_inv {cs:List CT} {v:V} (h:HasC (.sl cs) v):∃ es,v=.sl cs.length es∧es.length≤maxLen∧∀ e ∈ es,HasRow cs e:=by
 cases h with | sl _ es hl h0 h=>exact ⟨es,rfl,hl,fun e he=>⟨h0 e he,h e he⟩⟩
end
def zqY:V→Bor→Option Bool:=fun v _=>match v with
 | .sc (.bool true)=>some true
 | _=>none
theorem zAn {v:V} {b:Bor} (h:zqY v b=some true):v=.sc (.bool true):=by
 unfold zqY at h
 split at h
 ·rfl
 ·cases h
end
section
def hi0 (n:Nat):Nat:=n
def hi1 (n:Nat):Nat:=hi0 n
def hi2 (n:Nat):Nat:=hi1 n
def hi3 (n:Nat):Nat:=hi2 n
def hi4 (n:Nat):Nat:=hi3 n
def hi5 (n:Nat):Nat:=hi4 n
def hi6 (n:Nat):Nat:=hi5 n
def hi7 (n:Nat):Nat:=hi6 n
def hi8 (n:Nat):Nat:=hi7 n
def hi9 (n:Nat):Nat:=hi8 n
def zET (n:Nat):Nat:=hi9 n
def zEF (n:Nat):Nat:=zET n
def zEQ (n:Nat):Nat:=zEF n
def zEI (n:Nat):Nat:=zEQ n
def zED (n:Nat):Nat:=zEI n
def zEC (n:Nat):Nat:=zED n
def zEU (n:Nat):Nat:=zEC n
def zEO (n:Nat):Nat:=zEU n
def zEP (n:Nat):Nat:=zEO n
def zEM (n:Nat):Nat:=zEP n
def zER (n:Nat):Nat:=zEM n
def zEN (n:Nat):Nat:=zER n
def zEV (n:Nat):Nat:=zEN n
def zEJ (n:Nat):Nat:=zEV n
def zzw (n:Nat):Nat:=zEJ n
section
variable {β:Type}
def chk (p:Prop) [inst:Decidable p] (k:Option β):Option β:=(fun (_:Nat→Nat)=>match inst with
 | .isTrue _=>k
 | .isFalse _=>none) hi0
theorem zgQ (p:Prop) [inst:Decidable p] (k:Option β):chk p k=if p then k else none:=by
 cases inst <;> rfl
def ifb (t:Bool) (a b:Option β):Option β:=(fun (_:Nat→Nat)=>match t with
 | true=>a
 | false=>b) hi0
def lt {α:Type} (a:α) (k:α→Option β):Option β:=k a
def aI (kd:IntKind) (v:V) (k:Int→Option β):Option β:=match v with
 | .sc (.int kd' n)=>chk (kd'=kd) (k n)
 | _=>none
def zm4 (v:V) (k:Int→Option β):Option β:=(fun (_:Nat→Nat)=>match v with
 | .sc (.int _ n)=>k n
 | _=>none) hi0
def aB (v:V) (k:Bool→Option β):Option β:=(fun (_:Nat→Nat)=>match v with
 | .sc (.bool b)=>k b
 | _=>none) hi0
def aS (v:V) (k:ByteArray→Option β):Option β:=(fun (_:Nat→Nat)=>match v with
 | .sc (.string s)=>k s
 | _=>none) hi0
def aL (sz:Nat) (v:V) (k:List (List V)→Option β):Option β:=match v with
 | .sl sz' es=>chk (sz'=sz) (k es)
 | _=>none
def aLd (sz:Nat) (v:V) (k:List (List V)→Option β):Option β:=match v with
 | .sl sz' es=>chk (sz'=sz) (k es)
 | .gs sz' es=>chk (sz'=sz) (k es)
 | _=>none
def aGw (sz:Nat) (v:V) (k:List (List V)→Option β):Option β:=match v with
 | .gs sz' es=>chk (sz'=sz) (k es)
 | _=>none
def aA (n:Nat) (v:V) (k:List V→Option β):Option β:=match v with
 | .agg cs=>chk (cs.length=n) (k cs)
 | _=>none
def aG (v:V) (k:List V→Option β):Option β:=(fun (_:Nat→Nat)=>match v with
 | .agg cs=>k cs
 | _=>none) hi0
def aGs (sz:Nat) (v:V) (k:List (List V)→Option β):Option β:=match v with
 | .gs sz' es=>chk (sz'=sz) (k es)
 | _=>none
def aP (id off:Nat) (v:V) (k:Option β):Option β:=match v with
 | .ptr i o=>chk (i=id∧o=off) (k)
 | _=>none
def aM (id:Nat) (v:V) (k:Option β):Option β:=match v with
 | .mp i=>chk (i=id) (k)
 | _=>none
def aO (id sz:Nat) (v:V) (k:Nat→Nat→Option β):Option β:=match v with
 | .own i o l s=>chk (i=id∧s=sz) (k o l)
 | _=>none
def aO0 (id sz:Nat) (v:V) (k:Nat→Option β):Option β:=match v with
 | .own i o l s=>chk (i=id∧s=sz∧o=0) (k l)
 | _=>none
def aFp (n:Nat) (v:V) (k:List V→Option β):Option β:=match v with
 | .fp m cs=>chk (m=n) (k cs)
 | _=>none
def aV (u:Value) (v:V) (k:Option β):Option β:=match u,v with
 | .nilFunc,.sc .nilFunc=>k
 | .pointer none,.sc (.pointer none)=>k
 | .map none,.sc (.map none)=>k
 | _,_=>none
def zyi:List (Nat × Nat)→List V→Bool
 | [],[]=>true
 | (i,o)::r,.ptr a b::s=>Nat.beq i a && (Nat.beq o b && zyi r s)
 | _,_=>false
def aF (f:Nat) (caps:List (Nat × Nat)) (v:V) (k:Option β):Option β:=match v with
 | .fn g cs=>match Nat.beq f g && zyi caps cs with
  | true=>k
  | false=>none
 | _=>none
def zca (cs:List V) (off:Nat) (k:V→Option β):Option β:=match cs[off]? with
 | some v=>k v
 | none=>none
def zEZ (kb:List Bool) (cs:List V):List V:=cs.map (zhV fun id=>!(kb.getD id false))
def cG (sz:Nat) (cs:List V) (off:Nat) (k:List (List V)→Option β):Option β:=zca cs off fun v=>aGw sz v k
def idx (es:List (List V)) (j:Int) (k:List V→Option β):Option β:=chk (0≤j) (match es[j.toNat]? with
 | some c=>k c
 | none=>none)
def eqC (n:Nat) (a b:List V) (k:Bool→Option β):Option β:=chk (a.length=n∧b.length=n) (match zcP a b with
 | some r=>k r
 | none=>none)
def zCe (es:List (List V)) (k:ByteArray→Option β):Option β:=match zec es with
 | some l=>k ⟨l.toArray⟩
 | none=>none
def zDL (es fs:List (List V)) (k:Int→Option β):Option β:=match zec es with
 | some a=>match zec fs with
  | some b=>k (Lib.compareBytes a b)
  | none=>none
 | none=>none
def zcR (cs:List V) (k:List V→Option β):Option β:=match cs.mapM V.plain with
 | some vs=>k vs
 | none=>none
def zzh (cs:List V) (k:List V→Option β):Option β:=match cs.mapM V.refd with
 | some vs=>k vs
 | none=>none
def mAt (kd:Nat) (key:V) (es:List (V × V)) (k:Option V→Option β):Option β:=match zf4 kd key with
 | true=>match zn2 key es with
  | some r=>k r
  | none=>none
 | false=>none
def zBK (kd:Nat) (key val:V) (es:List (V × V)) (k:List (V × V)→Option β):Option β:=match zf4 kd key with
 | true=>match zw1 key val es with
  | some r=>k r
  | none=>none
 | false=>none
def cI (kd:IntKind) (cs:List V) (off:Nat) (k:Int→Option β):Option β:=zca cs off (fun v=>aI kd v k)
def cB (cs:List V) (off:Nat) (k:Bool→Option β):Option β:=zca cs off (fun v=>aB v k)
def cS (cs:List V) (off:Nat) (k:ByteArray→Option β):Option β:=zca cs off (fun v=>aS v k)
def cL (sz:Nat) (cs:List V) (off:Nat) (k:List (List V)→Option β):Option β:=zca cs off (fun v=>aL sz v k)
def cLd (sz:Nat) (cs:List V) (off:Nat) (k:List (List V)→Option β):Option β:=zca cs off (fun v=>aLd sz v k)
end
def zdN (k:IntKind) (a b:Int):Int:=k.wrap (BitVec.ofInt k.bits a &&& BitVec.ofInt k.bits b).toNat
def ior (k:IntKind) (a b:Int):Int:=k.wrap (BitVec.ofInt k.bits a ||| BitVec.ofInt k.bits b).toNat
def zaR (k:IntKind) (a b:Int):Int:=k.wrap (BitVec.ofInt k.bits a ^^^ BitVec.ofInt k.bits b).toNat
def zEX (k:IntKind) (a b:Int):Int:=k.wrap (BitVec.ofInt k.bits a &&& ~~~ BitVec.ofInt k.bits b).toNat
def zBm (k:IntKind) (n:Int):Int:=k.wrap (BitVec.ofInt k.bits (if k.signed then -1 else k.max) ^^^ BitVec.ofInt k.bits n).toNat
def zjX (k:IntKind) (a b:Int):Int:=k.wrap (a * 2 ^ (min b.toNat k.bits))
def zdJ (k:IntKind) (a b:Int):Int:=a.fdiv (2 ^ (min b.toNat k.bits))
def zE4 (a b:Int):Int:=if b > a then b else a
def zE3 (a b:Int):Int:=if b < a then b else a
inductive Sh where
 | any
 | int (k:IntKind)
 | bool
 | str
 | sl (sz:Nat)
 | gs (sz:Nat)
 | row (l:List Sh)
def asc {β:Type} (s:Sh) (v:V) (k:V→Option β):Option β:=match s with
 | .any=>k v
 | .int kd=>aI kd v (fun n=>k (.sc (.int kd n)))
 | .bool=>aB v (fun b=>k (.sc (.bool b)))
 | .str=>aS v (fun t=>k (.sc (.string t)))
 | .sl sz=>aL sz v (fun es=>k (.sl sz es))
 | .gs sz=>aGw sz v (fun es=>k (.gs sz es))
 | .row _=>none
def zBO {β:Type} (s:Sh) (v:V) (k:V→Option β):Option β:=match s with
 | .gs sz=>aGw sz v (fun es=>k (.gs sz es))
 | _=>k v
def zEe {β:Type} (s:Sh) (v:V) (k:V→Option β):Option β:=match s with
 | .any=>k v.dem
 | .int kd=>aI kd v (fun n=>k (.sc (.int kd n)))
 | .bool=>aB v (fun b=>k (.sc (.bool b)))
 | .str=>aS v (fun t=>k (.sc (.string t)))
 | .sl sz=>aLd sz v (fun es=>k (.sl sz es))
 | .gs sz=>aLd sz v (fun es=>k (.sl sz es))
 | .row _=>none
def zwO {β:Type}:List Sh→Nat→List V→(List V→Option β)→Option β
 | [],_,_,k=>k []
 | s::ss,i,cs,k=>zca cs i fun v=>asc s v fun v=>zwO ss (i+1) cs fun r=>k (v::r)
def zq2 {β:Type} (s:Sh) (cs:List V) (k:List V→Option β):Option β:=match s with
 | .row ss=>chk (cs.length=ss.length) (zwO ss 0 cs k)
 | _=>k cs
abbrev CBC:=∀ (β:Type),Nat→List V→Bor→(V→Bor→Option β)→Option β
section
variable {β:Type}
abbrev zfD (o:Option St) (κ:St→Option β):Option β:=match o with
 | some σ=>κ σ
 | none=>none
def ltV (v:Value) (k:Value→Option β):Option β:=match v with
 | .int kd n=>lt n fun n=>k (.int kd n)
 | v=>k v
def zCr:V→V
 | .gs sz _=>.gs sz []
 | .sl sz _=>.sl sz []
 | v=>v
def zyG (t:Bool) (a b:V) (k:V→Option β):Option β:=match a,b with
 | .sc (.bool x),.sc (.bool y)=>k (.sc (.bool (cond t x y)))
 | .sc (.int kd x),.sc (.int kd' y)=>chk (kd=kd') (lt (cond t x y) (fun n=>k (.sc (.int kd n))))
 | a,b=>ifb t (k a) (k b)
def ztc (σ:St):List (Nat × Nat × Src)→List V→(List V→Option β)→Option β
 | [],cs,k=>k cs
 | (off,n,x)::rest,cs,k=>match (x.get σ).plain with
  | some v=>chk (v.cells.length=n∧off+n≤cs.length) (ztc σ rest (xk cs off v.cells) k)
  | none=>none
def zp2 (sh:Nat→Sh) (σ:St):List (Nat × Nat × Src)→List V→(List V→Option β)→Option β
 | [],cs,k=>k cs
 | (off,n,x)::rest,cs,k=>match x.get σ with
  | .agg us=>zq2 (sh ((x.slot).getD 0)) us fun us=>chk (us.length=n∧off+n≤cs.length) (zp2 sh σ rest (xk cs off us) k)
  | v=>match v.refd with
   | some v=>chk (v.cells.length=n∧off+n≤cs.length) (zp2 sh σ rest (xk cs off v.cells) k)
   | none=>none
def zCa (op:BinOp) (x y:Value) (k:Value→Option β):Option β :=
 match op,x,y with
 | .shl,.int kd a,.int _ b=>chk (0≤b) (k (.int kd (kd.wrap (a * 2 ^ (min b.toNat kd.bits)))))
 | .shr,.int kd a,.int _ b=>chk (0≤b) (k (.int kd (a.fdiv (2 ^ (min b.toNat kd.bits)))))
 | .quo,.int kd a,.int kd' b=>chk (kd=kd') (chk (b≠0) (k (.int kd (kd.wrap (a.tdiv b)))))
 | .rem,.int kd a,.int kd' b=>chk (kd=kd') (chk (b≠0) (k (.int kd (a.tmod b))))
 | op,x,y=>match zkt op x y with
  | some r=>k r
  | none=>none
def zpz (σ:St) (x:Option Src) (dflt:Nat) (most:Nat) (k:Nat→Option β):Option β :=
 match x with
 | none=>k dflt
 | some s=>zm4 (s.get σ) fun i=>chk (0≤i∧i≤most) (k i.toNat)
def zkO (σ:St) (len:Nat) (lo hi mx:Option Src) (k:Nat→Nat→Nat→Option β):Option β :=
 zpz σ mx len len fun m=>zpz σ hi len m fun h=>zpz σ lo 0 h fun l=>k l h m
def zCY (l h m id off sz:Nat) (k:V→Option β):Option β:=ifb (decide (m=l)) (k (.gs sz [])) (k (.own id (off+l * sz) (h - l) sz))
def zgX (b:List B) (v:V) (k:V→Option β):Option β:=match yZ b v with
 | some u=>k u
 | none=>none
def zsY (sh:Sh) (cs:List V) (off:Nat) (k:V→Option β):Option β:=zca cs off (fun v=>asc sh v k)
def zAU (sh:Sh) (cs:List V) (off:Nat) (k:V→Option β):Option β:=zca cs off (fun v=>zEe sh v k)
def zvE (nb:Nat) (σ:St) (dst:Option Nat) (pin:Bool) (v:V) (κ:St→Option β):Option β:=match v with
 | .fr sz es=>match pin with
  | true=>zfD (σ.putG nb dst true sz es) κ
  | false=>κ (σ.put dst (.gs sz es))
 | v=>zfD (σ.putR nb dst pin v) κ
def lc {α β:Type} (l:List α) (a:Option β) (b:α→List α→Option β):Option β:=match l with
 | []=>a
 | x::xs=>b x xs
def zt1 (b:List B) (id:Nat) (κ:List B→Option β):Option β:=match b[id]? with
 | some (.live true cs)=>ifb cs.isEmpty (κ b) (κ (b.set id (.fz cs)))
 | _=>κ b
def zkQ (σ:St):List (Src × Nat)→List B→(List B→Option β)→Option β
 | [],b,κ=>κ b
 | s::rest,b,κ=>match decide (2≤s.2) with
  | true=>zkQ σ rest b κ
  | false=>match zO (s.1.get σ) with
   | some id=>zt1 b id fun b=>zkQ σ rest b κ
   | none=>zkQ σ rest b κ
def zy9 (b:List B) (v:V) (k:V→Option β):Option β:=match v with
 | .own id off len sz=>match b[id]? with
  | some (.fz cs)=>k (.sl sz (yf sz len (cs.drop off)))
  | some (.live _ [])=>chk (len=0) (k (.sl sz []))
  | _=>none
 | v=>match v.plain with
  | some u=>k u
  | none=>none
def zzj (b:List B):List V→(List V→Option β)→Option β
 | [],k=>k []
 | v::vs,k=>zy9 b v fun u=>zzj b vs fun us=>k (u::us)
def zd7 (nb:Nat):List Nat→St→(St→Option β)→Option β
 | [],σ,κ=>κ σ
 | d::fz,σ,κ=>match Nat.blt d 100000 with
  | true=>match σ.b[nb+d]? with
   | some (.live true cs)=>lc cs (zd7 nb fz { σ with b:=σ.b.set (nb+d) (.live true []) } κ) (fun c cs=>zd7 nb fz { σ with b:=σ.b.set (nb+d) (.fz (c::cs)) } κ)
   | _=>zd7 nb fz σ κ
  | false=>match σ.b[nb+(d - 100000)]? with
   | some (.live false cs)=>lc cs (zd7 nb fz { σ with b:=σ.b.set (nb+(d - 100000)) (.live false []) } κ) (fun c cs=>zcR (c::cs) fun vs=>zd7 nb fz { σ with b:=σ.b.set (nb+(d - 100000)) (.fz vs) } κ)
   | some (.fz _)=>zd7 nb fz σ κ
   | _=>none
def zq0 (cb:CBC) (nb:Nat) (σ:St) (dst:Option Nat) (pin:Bool) (f:Nat) (args:List V) (srcs:List (Src × Nat)) (xs:List Nat) (κ:St→Option β):Option β :=
 zkQ σ srcs σ.b fun b1 =>
 let σ1:St:={ σ with b:=b1 }
 let ids:=xP σ1.b args
 match zcf σ1.b ids ids with
 | none=>none
 | some bor=>cb β f (args.map (zbB (xA ids))) bor fun r bor' =>
  let ids':=ids++(xs.map (nb+·)).take (bor'.length - ids.length)
  chk ((bor'.take ids.length).map B.len=bor.map B.len)
   (match decide (bor'.length=ids'.length) && (args.all (fun a=>(yy a).all ids.contains) && (ztp r && ((ze4 r).all (fun k=>decide (k < ids'.length)) && (bor'.all (B.lend (List.range ids'.length)) && (zey (bor'.take ids.length) bor && ((bor'.drop ids.length).all B.isRow && zf3 σ1.b nb xs)))))) with
   | true=>zvE nb { σ1 with b:=yQ (fun k=>ids'.getD k 0) ids' bor' σ1.b } dst pin (zim (fun k=>ids'.getD k 0) r) κ
   | false=>none)
def zZ (sh:Nat→Sh) (cb:CBC) (nb:Nat) (σ:St) (dst:Option Nat) (pin:Bool) (k:K) (κ:St→Option β):Option β :=
 match k with
 | .pick c a b=>aB (c.get σ) fun t=>zyG t (a.get σ).dem (b.get σ).dem fun v=>κ (σ.put dst v)
 | .build zero parts=>ztc σ parts zero fun cs=>κ (σ.put dst (.agg cs))
 | .buildSt zero parts=>zp2 sh σ parts zero fun cs=>κ (σ.put dst (.st cs))
 | .nilT neg x=>match (x.get σ).dem with
  | .sl _ es=>match x with
   | .tmp t=>ifb es.isEmpty (lt { σ with t:=σ.t.set t (zCr (x.get σ)) } fun σ=>κ (σ.put dst .ub)) (κ (σ.put dst (.sc (.bool neg))))
   | .const _=>none
  | _=>none
 | .un op x=>match x.get σ with
  | .sc a=>match zzi op a with
   | some r=>ltV r fun r=>κ (σ.put dst (.sc r))
   | none=>none
  | _=>none
 | .conv k x=>zm4 (x.get σ) fun n=>lt (k.wrap n) fun n=>κ (σ.put dst (.sc (.int k n)))
 | .mm isMax x y=>match x.get σ,y.get σ with
  | .sc (.int k a),.sc (.int _ b)=>lt (if isMax then (if b > a then b else a) else (if b < a then b else a)) fun n=>κ (σ.put dst (.sc (.int k n)))
  | _,_=>none
 | .copy sz d s=>match d.get σ with
  | .own id off len sz1=>zgX σ.b (s.get σ) fun u=>match u with
   | .sl sz2 es=>match σ.b[id]? with
    | some (.live true cs)=>chk (sz1=sz∧sz2=sz) (lt (xk cs off (es.take (min es.length len)).flatten) fun cs'=>κ ((σ.setB id (.live true cs')).put dst (.sc (.int .i64 ((min es.length len:Nat):Int)))))
    | _=>none
   | _=>none
  | _=>none
 | .box p x=>match x.get σ with
  | .st cs=>match p with
   | true=>none
   | false=>zfD (σ.newB nb dst (.live false cs) (fun id=>.ptr id 0)) κ
  | v=>match v.plain with
   | some v=>match p with
    | true=>zfD (σ.newB nb dst (.live true v.cells) (fun id=>.ptr id 0)) κ
    | false=>zq2 (sh (dst.getD 0)) v.cells fun cs=>zfD (σ.newB nb dst (.live false cs) (fun id=>.ptr id 0)) κ
   | none=>none
 | .buildSlice sz n zero parts=>ztc σ parts (List.replicate n zero).flatten fun cs=>match decide (n=0∧pin=true) with
  | true=>κ (σ.put dst (.fr sz []))
  | false=>zfD (σ.putG nb dst pin sz (yf sz n cs)) κ
 | .bin op x y=>match x.get σ,y.get σ with
  | .sc a,.sc b=>zCa op a b fun r=>ltV r fun r=>κ (σ.put dst (.sc r))
  | _,_=>none
 | .eqAgg neg n x y=>match x.get σ,y.get σ with
  | .agg a,.agg b=>eqC n a b fun r=>κ (σ.put dst (.sc (.bool (if neg then !r else r))))
  | _,_=>none
 | .toStr x=>zgX σ.b (x.get σ) fun v=>match v with
  | .sl 1 es=>zCe es fun s=>κ (σ.put dst (.sc (.string s)))
  | _=>none
 | .see x=>match x.get σ with
  | .own id off len sz=>match σ.b[id]? with
   | some (.fz cs)=>κ (σ.put dst (.sl sz (yf sz len (cs.drop off))))
   | some (.live true [])=>chk (len=0) (κ (σ.put dst (.sl sz [])))
   | _=>none
  | _=>none
 | .cmpB x y=>zgX σ.b (x.get σ) fun u=>zgX σ.b (y.get σ) fun v=>match u,v with
  | .sl 1 es,.sl 1 fs=>zDL es fs fun n=>lt n fun n=>κ (σ.put dst (.sc (.int .i64 n)))
  | _,_=>none
 | .makeSlice sz bytes zero l c=>zm4 (l.get σ) fun l=>zm4 (c.get σ) fun c =>
  match pin with
  | true=>chk (0≤l∧l≤c∧c.toNat * bytes≤xg∧c≤xg) (zfD (σ.newB nb dst (.live true (List.replicate c.toNat zero).flatten) (fun id=>.own id 0 l.toNat sz)) κ)
  | false=>chk (0≤l∧l≤c∧c.toNat * bytes≤xg∧c≤xg) (zfD (σ.putG nb dst false sz (List.replicate l.toNat zero)) κ)
 | .sliceA n sz x lo hi mx=>zkO σ n lo hi mx fun l h m =>
  match x.get σ with
  | .ptr id off=>match σ.b[id]? with
   | some (.live _ cs)=>chk (off+n * sz≤cs.length) (zCY l h m id off sz fun v=>κ (σ.put dst v))
   | some (.fz cs)=>chk (off+n * sz≤cs.length) (ifb (decide (m=l)) (κ (σ.put dst (.gs sz []))) (κ (σ.put dst (.sl sz (yf sz (h - l) (cs.drop (off+l * sz)))))))
   | _=>none
  | .fp q cs=>chk (n * sz≤q) (κ (σ.put dst (.sl sz (yf sz (h - l) (cs.drop (l * sz))))))
  | _=>none
 | .sliceS sz x lo hi mx=>match (x.get σ).dem with
  | .sl sz' es=>zkO σ es.length lo hi mx fun l h m =>
   chk (sz=sz') (match mx with
    | none=>κ (σ.put dst (.sl sz ((es.drop l).take (h - l))))
    | some _=>ifb (decide (m=l)) (κ (σ.put dst (.fr sz []))) (κ (σ.put dst (.sl sz ((es.drop l).take (h - l))))))
  | .own id off len sz'=>zkO σ len lo hi mx fun l h m=>chk (sz=sz') (match mx with
    | none=>κ (σ.put dst (.own id (off+l * sz) (h - l) sz))
    | some _=>ifb (decide (m=l)) (κ (σ.put dst (.fr sz []))) (κ (σ.put dst .junk)))
  | .cut id off _ cap sz'=>match hi with
   | some _=>match mx with
    | none=>zkO σ cap lo hi none fun l h _=>chk (sz=sz') (κ (σ.put dst (.own id (off+l * sz) (h - l) sz)))
    | some _=>none
   | none=>none
  | _=>none
 | .sliceC sz x hi=>match x.get σ with
  | .own id off len sz'=>match hi with
   | some _=>zkO σ len none hi none fun _ h _=>chk (sz=sz') (κ (σ.put dst (.cut id off h len sz)))
   | none=>none
  | _=>none
 | .field agg o n x=>match x.get σ with
  | .agg cs=>match agg with
   | true=>κ (σ.put dst (.agg ((cs.drop o).take n)))
   | false=>zsY (sh (dst.getD 0)) cs o fun v=>κ (σ.put dst v)
  | .st cs=>match agg with
   | true=>none
   | false=>match cs[o]? with
    | some v=>κ (σ.put dst v)
    | none=>none
  | _=>none
 | .indexAddrA len sz x i=>zm4 (i.get σ) fun j=>chk (0≤j∧j < len) (match x.get σ with
   | .ptr id off=>κ (σ.put dst (.ptr id (off+j.toNat * sz)))
   | .fp n cs=>chk (len * sz≤n) (κ (σ.put dst (.fp (n - j.toNat * sz) (cs.drop (j.toNat * sz)))))
   | _=>none)
 | .indexAddrS sz x i=>zm4 (i.get σ) fun j=>match (x.get σ).dem with
   | .sl sz' es=>chk (sz=sz') (idx es j fun c=>κ (σ.put dst (.fp sz c)))
   | .own id off len sz'=>chk (sz=sz') (chk (0≤j∧j < len) (κ (σ.put dst (.ptr id (off+j.toNat * sz)))))
   | _=>none
 | .arrP n sz x=>match (x.get σ).dem with
   | .sl sz' es=>chk (sz=sz') (chk (0 < n) (chk (n≤es.length) (κ (σ.put dst (.fp (n * sz) (es.take n).flatten)))))
   | .own id off len sz'=>chk (sz=sz') (chk (0 < n) (chk (n≤len) (κ (σ.put dst (.ptr id off)))))
   | _=>none
 | .indexA agg len sz x i=>zm4 (i.get σ) fun j=>chk (0≤j∧j < len) (match x.get σ with
   | .agg cs=>match agg with
    | true=>κ (σ.put dst (.agg ((cs.drop (j.toNat * sz)).take sz)))
    | false=>zsY (sh (dst.getD 0)) cs (j.toNat * sz) fun v=>κ (σ.put dst v)
   | _=>none)
 | .load agg n a take=>match a.get σ with
  | .ptr id off=>match σ.b[id]? with
   | some (.live p cs)=>match agg with
    | true=>chk (off+n≤cs.length) (match p with
     | true=>κ (σ.put dst (.agg ((cs.drop off).take n)))
     | false=>match take with
      | true=>zzh ((cs.drop off).take n) fun vs=>κ (σ.put dst (.st vs))
      | false=>zcR ((cs.drop off).take n) fun vs=>κ (σ.put dst (.agg vs)))
    | false=>match take with
     | true=>match p with
      | true=>none
      | false=>zca cs off fun v=>zBO (sh (dst.getD 0)) v fun v=>κ ((σ.setB id (.live p (cs.set off v.dem))).put dst v.tk)
     | false=>zAU (sh (dst.getD 0)) cs off fun v=>κ (σ.put dst v)
   | some (.fz cs)=>match agg with
    | true=>chk (off+n≤cs.length) (κ (σ.put dst (.agg ((cs.drop off).take n))))
    | false=>zsY (sh (dst.getD 0)) cs off fun v=>κ (σ.put dst v)
   | _=>none
  | .fp m cs=>match agg with
   | true=>chk (n≤m) (κ (σ.put dst (.agg (cs.take n))))
   | false=>zsY (sh (dst.getD 0)) cs 0 fun v=>κ (σ.put dst v)
  | _=>none
 | .store n a x=>match dst with
  | some _=>none
  | none=>match a.get σ with
   | .ptr id off=>match σ.b[id]? with
    | some (.live true cs)=>match (x.get σ).plain with
     | some v=>chk (v.cells.length=n∧off+n≤cs.length) (lt (xk cs off v.cells) fun cs'=>κ (σ.setB id (.live true cs')))
     | none=>none
    | some (.live false cs)=>match x.get σ with
     | .agg us=>zq2 (sh ((x.slot).getD 0)) us fun us=>chk (us.length=n∧off+n≤cs.length) (κ (σ.setB id (.live false (xk cs off us))))
     | .st us=>chk (us.length=n∧off+n≤cs.length) (κ (σ.setB id (.live false (xk cs off us))))
     | .tup _=>none
     | .bx _ _=>none
     | .junk=>none
     | v=>chk (n=1∧off < cs.length) (κ ((σ.demote x).setB id (.live false (cs.set off v))))
    | _=>none
   | _=>none
 | .append sz bytes s x=>match s.get σ with
  | .gs sz1 es=>zgX σ.b (x.get σ) fun u=>match u with
   | .sl sz2 es2=>chk (sz1=sz∧sz2=sz) (chk ((es.length+es2.length) * bytes≤xg∧es.length+es2.length≤xg) (match pin with
    | true=>match s,es with
     | .const _,[]=>zfD (σ.putG nb dst true sz es2) κ
     | _,_=>none
    | false=>lt (es++es2) fun es'=>κ ((σ.demote s).put dst (.gs sz es'))))
   | _=>none
  | .fr sz1 []=>zgX σ.b (x.get σ) fun u=>match u with
   | .sl sz2 es2=>chk (sz1=sz∧sz2=sz) (chk ((0+es2.length) * bytes≤xg∧0+es2.length≤xg) (zfD ((σ.demote s).putG nb dst pin sz es2) κ))
   | _=>none
  | .own id off len sz1=>zgX σ.b (x.get σ) fun u=>match u with
   | .sl sz2 es2=>match σ.b[id]? with
    | some (.live true cs)=>chk (sz1=sz∧sz2=sz∧off=0) (chk ((len+es2.length) * bytes≤xg∧len+es2.length≤xg∧(len+es2.length≠0∨cs.length=0)) (lt (cs.take (len * sz)++es2.flatten) fun cs' =>
     zfD ((σ.setB id (.dead cs.length)).newB nb dst (.live true cs') (fun id'=>.own id' 0 (len+es2.length) sz)) κ))
    | _=>none
   | _=>none
  | .cut id off len cap sz1=>zgX σ.b (x.get σ) fun u=>match u with
   | .sl sz2 es2=>match σ.b[id]? with
    | some (.live true cs)=>match pin with
     | false=>chk (sz1=sz∧sz2=sz∧off=0) (chk (len+es2.length≤cap) (lt (xk cs (len * sz) es2.flatten) fun cs'=>κ ((σ.setB id (.live true cs')).put dst (.cut id 0 (len+es2.length) cap sz))))
     | true=>none
    | _=>none
   | _=>none
  | _=>none
 | .appendF sz bytes s x=>match pin with
  | true=>none
  | false=>match s.get σ with
   | .gs sz1 []=>zgX σ.b (x.get σ) fun u=>match u with
    | .sl sz2 es2=>chk (sz1=sz∧sz2=sz) (chk ((0+es2.length) * bytes≤xg∧0+es2.length≤xg∧0+es2.length≠0) (κ ((σ.demote s).put dst (.fr sz es2))))
    | _=>none
   | .fr sz1 es=>zgX σ.b (x.get σ) fun u=>match u with
    | .sl sz2 es2=>chk (sz1=sz∧sz2=sz) (chk ((es.length+es2.length) * bytes≤xg∧es.length+es2.length≤xg∧es.length+es2.length≠0) (lt (es++es2) fun es'=>κ ((σ.demote s).put dst (.fr sz es'))))
    | _=>none
   | _=>none
 | .pinC p sz a=>match a.get σ with
  | .ptr id off=>match σ.b[id]? with
   | some (.live false cs)=>zca cs off fun v=>match v with
    | .fr sz1 es=>match dst with
     | some d=>chk (sz1=sz) (lt es.flatten fun cs'=>zfD ((σ.setB id (.live false (cs.set off (.own (nb+d) 0 es.length sz)))).newB nb dst (.live p cs') (fun id'=>.own id' 0 es.length sz)) κ)
     | none=>none
    | _=>none
   | _=>none
  | _=>none
 | .storeF n a x xs=>match dst with
  | some _=>none
  | none=>match a.get σ with
   | .ptr id off=>match σ.b[id]? with
    | some (.live false cs)=>match x.get σ with
     | .st us=>chk (us.length=n∧off+n≤cs.length) (κ (σ.setB id (.live false (xk cs off (frz xs us)))))
     | _=>none
    | _=>none
   | _=>none
 | .loadS n a=>match a.get σ with
  | .ptr id off=>match σ.b[id]? with
   | some (.live false cs)=>chk (off+n≤cs.length) (zzj σ.b ((cs.drop off).take n) fun vs=>κ (σ.put dst (.agg vs)))
   | _=>none
  | _=>none
 | .pinS p sz x=>match x.get σ with
  | .fr sz1 es=>match x,dst with
   | .tmp t,some d=>chk (sz1=sz∧t≠d) (lt es.flatten fun cs'=>zfD ((σ.put (some t) (.own (nb+d) 0 es.length sz)).newB nb dst (.live p cs') (fun id'=>.own id' 0 es.length sz)) κ)
   | _,_=>none
  | _=>none
 | .unpin x=>match pin with
  | true=>none
  | false=>match x.get σ with
   | .own id off len sz=>match σ.b[id]? with
    | some (.live true cs)=>chk (off=0∧len * sz≤cs.length∧cs.length≠0) (κ ((σ.setB id (.dead cs.length)).put dst (.gs sz (yf sz len cs))))
    | _=>none
   | .gs sz es=>κ ((σ.demote x).put dst (.gs sz es))
   | _=>none
 | .clear sz zero x=>match x.get σ with
  | .own id off len sz1=>match σ.b[id]? with
   | some (.live true cs)=>chk (sz1=sz) (lt (xk cs off (List.replicate len zero).flatten) fun cs'=>κ ((σ.setB id (.live true cs')).put dst (.tup [])))
   | _=>none
  | _=>none
 | .extract x i=>match x.get σ with
  | .tup vs=>match vs[i]?,x with
   | some v,.tmp t=>match vs.all zxj && decide (dst≠some t) with
    | true=>match v.isHeld with
     | true=>zvE nb { σ with t:=σ.t.set t (.tup (vs.set i .junk)) } dst pin v κ
     | false=>match pin with
      | true=>none
      | false=>κ (σ.put dst v.dem)
    | false=>none
   | _,_=>none
  | _=>none
 | .appendZ sz bytes zero s x=>match s.get σ with
  | .gs sz1 es=>zm4 (x.get σ) fun n=>chk (sz1=sz) (chk (0≤n∧(es.length+n.toNat) * bytes≤xg∧es.length+n.toNat≤xg) (match pin with
   | true=>none
   | false=>lt (es++List.replicate n.toNat zero) fun es'=>κ ((σ.demote s).put dst (.gs sz es'))))
  | _=>none
 | .mlook kd ok zero x y=>match x.get σ with
  | .mp id=>match σ.b[id]? with
   | some (.mp es)=>mAt kd (y.get σ) es fun r=>asc (sh (dst.getD 0)) (r.getD zero) fun v=>match ok with
    | true=>κ (σ.put dst (.tup [v,.sc (.bool r.isSome)]))
    | false=>κ (σ.put dst v)
   | _=>none
  | _=>none
 | .mput kd x y z=>match dst with
  | some _=>none
  | none=>match x.get σ with
   | .mp id=>match σ.b[id]? with
    | some (.mp es)=>match (z.get σ).plain with
     | some v=>zBK kd (y.get σ) v es fun es'=>κ (σ.setB id (.mp es'))
     | none=>none
    | _=>none
   | _=>none
 | .call f args xs=>match args.mapM (zaj σ) with
  | some vs=>zq0 cb nb σ dst pin f vs args xs κ
  | none=>none
 | .callv f args xs=>match f.get σ with
  | .fn g caps=>match args.mapM (zaj σ) with
   | some vs=>zq0 cb nb σ dst pin g (vs++caps) args xs κ
   | none=>none
  | _=>none
 | k=>zfD (xc (fun _ _ _=>none) nb σ dst pin k) κ
def zqW (sh:Nat→Sh) (cb:CBC) (nb:Nat) (σ:St) (o:COp) (κ:St→St→Option β):Option β :=
 match o.guard with
 | none=>zZ sh cb nb σ o.dst o.pin o.k (κ σ)
 | some (j,want)=>match σ.t[j]? with
  | some (.sc (.bool b))=>match want with
   | true=>ifb b (lt { σ with t:=σ.t.set j (.sc (.bool true)) } fun σ=>zZ sh cb nb σ o.dst o.pin o.k (κ σ)) (lt { σ with t:=σ.t.set j (.sc (.bool false)) } fun σ=>κ σ (σ.put o.dst (.tup [])))
   | false=>ifb b (lt { σ with t:=σ.t.set j (.sc (.bool true)) } fun σ=>κ σ (σ.put o.dst (.tup []))) (lt { σ with t:=σ.t.set j (.sc (.bool false)) } fun σ=>zZ sh cb nb σ o.dst o.pin o.k (κ σ))
  | some (.tup [])=>κ σ (σ.put o.dst (.tup []))
  | _=>none
def zsx (sh:Nat→Sh) (cb:CBC) (nb:Nat):List COp→St→(St→Option β)→Option β
 | [],σ,κ=>κ σ
 | o::rest,σ,κ=>zqW sh cb nb σ o fun _ σ'=>zsx sh cb nb rest σ' κ
def zv1 (sh:Nat→Sh) (cb:CBC) (nb:Nat):List (COp × Fl)→St→(St→Option β)→Option β
 | [],σ,κ=>κ σ
 | (o,q)::rest,σ,κ=>zqW sh cb nb σ o fun σr σ'=>match zcp nb σr o q σ' with
  | true=>zv1 sh cb nb rest σ' κ
  | false=>none
abbrev KT (β:Type):=Ex→St→Option β
def xH (rb:St→KT β→Option β) (K:KT β):KT β:=(fun (_:Nat→Nat)=>fun ex σ=>match ex with
 | .normal=>rb σ K
 | .exit j=>K (.exit j) σ
 | .ret=>K .ret σ) zzw
def zr (id:Nat) (K:KT β):KT β:=(fun (_:Nat→Nat)=>fun ex σ=>match ex with
 | .normal=>K .normal σ
 | .exit j=>match Nat.beq j id with
  | true=>K .normal σ
  | false=>K (.exit j) σ
 | .ret=>K .ret σ) zzw
def y5 (norm:St→St) (X:St→Option β) (K:KT β):KT β:=(fun (_:Nat→Nat)=>fun ex σ=>match ex with
 | .normal=>X (norm σ)
 | .exit j=>K (.exit j) σ
 | .ret=>K .ret σ) zzw
def xy (body:St→KT β→Option β) (norm:St→St):Nat→St→KT β→Option β
 | 0,_,_=>none
 | n+1,σ,K=>body σ (y5 norm (fun σ=>xy body norm n σ K) K)
def onR (o:Option (Ex × St)) (K:KT β):Option β:=(fun (_:Nat→Nat)=>match o with
 | some (ex,σ)=>K ex σ
 | none=>none) zzw
def zj (sh:Nat→Sh) (cb:CBC) (nb:Nat) (L:Nat):CC→St→KT β→Option β
 | .skip,σ,K=>K .normal σ
 | .reg ops,σ,K=>zsx sh cb nb ops σ (K .normal)
 | .dreg fz ops,σ,K=>zd7 nb fz σ fun σ=>zv1 sh cb nb ops σ (K .normal)
 | .seq a b,σ,K=>zj sh cb nb L a σ (xH (zj sh cb nb L b) K)
 | .fork p c a b,σ,K=>zj sh cb nb L p σ (xH (fun σ K=>match c.get σ with
  | .ub=>match zvM (run (fun _ _ _=>none) nb L a σ) (run (fun _ _ _=>none) nb L b σ) with
   | true=>onR (run (fun _ _ _=>none) nb L b σ) K
   | false=>none
  | v=>aB v fun t=>ifb t (zj sh cb nb L a σ (xH (zj sh cb nb L b) K)) (zj sh cb nb L b σ K)) K)
 | .cond c a b,σ,K=>match c.get σ with
  | .ub=>match ztu (run (fun _ _ _=>none) nb L a σ) (run (fun _ _ _=>none) nb L b σ) with
   | true=>onR (run (fun _ _ _=>none) nb L b σ) K
   | false=>none
  | v=>aB v fun t=>ifb t (zj sh cb nb L a σ K) (zj sh cb nb L b σ K)
 | .block id a,σ,K=>zj sh cb nb L a σ (zr id K)
 | .loop kt kb a,σ,K=>xy (zj sh cb nb L a) (yJ nb kt kb) L (yJ nb kt kb σ) K
 | .mask kt kb,σ,K=>K .normal (yJ nb kt kb σ)
 | .exit id,σ,K=>K (.exit id) σ
 | .ret,σ,K=>K .ret σ
def zkP (nb:Nat) (σ:St) (r:RV) (k:V→Option β):Option β:=match r with
 | .cellS _ _ _=>none
 | .tmp t=>match σ.t.getD t .junk with
  | .own id off len sz=>match decide (nb≤id) with
   | true=>match σ.b[id]? with
    | some (.live true cs)=>match decide (off=0∧0 < sz) with
     | true=>chk (len≠0∨cs.length=0) (k (.fr sz (yf sz len cs)))
     | false=>none
    | _=>none
   | false=>k (.own id off len sz)
  | .ptr id off=>match σ.b[id]? with
   | some (.live p cs)=>match decide (off=0∧nb≤id) with
    | true=>chk (cs.length≠0) (match p with
     | true=>k (.bx p cs)
     | false=>zcR cs fun cs=>k (.bx false cs))
    | false=>none
   | _=>none
  | _=>match yS nb σ (.tmp t) with
   | some v=>k v
   | none=>none
 | .tmpP t=>match σ.t.getD t .junk with
  | .own id off len sz=>match decide (nb≤id∧off=0∧0 < sz) with
   | true=>match σ.b[id]? with
    | some (.live true cs)=>k (.gs sz (yf sz len cs))
    | _=>none
   | false=>none
  | _=>match yS nb σ (.tmpP t) with
   | some v=>k v
   | none=>none
 | .cell t agg n=>match σ.t.getD t .junk with
  | .ptr id off=>match σ.b[id]? with
   | some (.live p cs)=>match agg with
    | true=>chk (off=0∧cs.length=n∧n≠0) (match p with
     | true=>k (.agg cs)
     | false=>zcR cs fun cs=>k (.agg cs))
    | false=>match decide (n=1∧off=0) with
     | true=>zca cs 0 fun v=>match v.plain with
      | some v=>k v
      | none=>none
     | false=>none
   | _=>none
  | _=>none
def zsr (nb:Nat) (σ:St):List RV→(List V→Option β)→Option β
 | [],k=>k []
 | r::rs,k=>zkP nb σ r fun v=>zsr nb σ rs fun vs=>k (v::vs)
def zn5 (nb:Nat) (σ:St) (rs:List RV) (k:V→Option β):Option β :=
 match zgM rs && zcT (zeG nb σ rs) with
 | true=>match rs with
  | [r]=>zkP nb σ r k
  | rs=>zsr nb σ rs fun vs=>k (.tup vs)
 | false=>none
def zpK (b:List B) (nb:Nat) (ids:List Nat):List Nat→(Bor→Option β)→Option β
 | [],k=>k []
 | id::rest,k=>match b[id]? with
  | some (.live p cs)=>match p with
   | true=>zpK b nb ids rest fun l=>k (.live true cs::l)
   | false=>match decide (id < nb) with
    | true=>chk (cs.all (zaI ids)=true) (zpK b nb ids rest fun l=>k (.live false (cs.map (zbB (xA ids)))::l))
    | false=>none
  | some (.mp es)=>match decide (id < nb) with
   | true=>zpK b nb ids rest fun l=>k (.mp es::l)
   | false=>none
  | some (.dead n)=>match decide (id < nb) with
   | true=>zpK b nb ids rest fun l=>k (.dead n::l)
   | false=>none
  | _=>none
def zP (nb:Nat) (rs:List RV) (k:V→Bor→Option β):KT β:=fun ex σ=>match ex with
 | .exit _=>none
 | _=>match zfc σ.t.length rs σ with
  | some (σ,rs)=>zn5 nb σ rs fun r=>zpK σ.b nb (zcu nb r) (zcu nb r) fun b=>match zcT (zcu nb r) with
   | true=>k (zim (xA (zcu nb r)) r) b
   | false=>none
  | none=>none
def zt9:CC→Bool
 | .fork _ _ _ _=>true
 | .seq a b=>zt9 a || zt9 b
 | _=>false
def zvG (sh:Nat→Sh) (cb:CBC) (L:Nat) (c:CF) (args:List V) (bor:Bor) (k:V→Bor→Option β):Option β :=
 zj sh cb bor.length L c.body (enter c.ntmps args bor) (zP bor.length c.res k)
def yz (sh:Nat→Sh) (cb:CBC) (L:Nat) (c:CF) (args:List V) (bor:Bor) (k:V→Bor→Option β):Option β :=
 match zt9 c.body,args with
 | true,.sl sz es::rest=>lc es (zvG sh cb L c (.sl sz []::rest) bor k) (fun x xs=>zvG sh cb L c (.sl sz (x::xs)::rest) bor k)
 | _,args=>zvG sh cb L c args bor k
end
def zAh (x:Nat):Nat→Nat→List Bool
 | 0,_=>[]
 | n+1,i=>x.testBit i::zAh x n (i+1)
def bl (x n:Nat):List Bool:=zAh x n 0
def xI:List (Nat × Sh)→Nat→Sh
 | [],_=>.any
 | (m,s)::r,n=>match Nat.beq m n with
  | true=>s
  | false=>xI r n
def zBe:V→Nat
 | .sc (.int _ _)=>1
 | .sc (.bool _)=>2
 | .sc _=>3
 | .agg _=>4
 | .tup _=>5
 | .sl _ _=>6
 | .gs _ _=>7
 | .own _ _ _ _=>8
 | .ptr _ _=>9
 | .fp _ _=>10
 | .fn f _=>100+f
 | .mp _=>12
 | .st _=>13
 | _=>11
def zEq:V→List Nat
 | .st cs=>13::cs.map zBe
 | v=>[zBe v]
def zqx:Bor→List Nat
 | []=>[]
 | .live true _::r=>20::zqx r
 | .live false cs::r=>21::(cs.map zBe++zqx r)
 | .mp _::r=>22::zqx r
 | _::r=>23::zqx r
def zzZ:List Nat→List Nat→Bool
 | [],[]=>true
 | a::l,b::m=>Nat.beq a b && zzZ l m
 | _,_=>false
def zE2 (g:Nat) (tags:List Nat) (d:∀ (β:Type),List V→Bor→(V→Bor→Option β)→Option β) (c:CBC):CBC:=fun β f args bor k=>match Nat.beq f g && zzZ tags (args.flatMap zEq++zqx bor) with
 | true=>d β args bor k
 | false=>c β f args bor k
def noC:CBC:=fun _ _ _ _ _=>none
def xr (g:Nat) (d:∀ (β:Type),List V→Bor→(V→Bor→Option β)→Option β) (c:CBC):CBC:=fun β f args bor k=>match Nat.beq f g with
 | true=>d β args bor k
 | false=>c β f args bor k
abbrev tq (n:Nat):Src:=.tmp n
abbrev oo (d:Nat) (k:K):COp:=⟨some d,false,none,k⟩
abbrev oz (k:K):COp:=⟨none,false,none,k⟩
abbrev KK (β:Type):=V→Bor→Option β
def rp:Nat→V→List V→List V
 | 0,_,l=>l
 | n+1,v,l=>v::rp n v l
def jn:Nat→List V→List V
 | 0,l=>l
 | n+1,l=>.junk::jn n l
def gn:Nat→List B→List B
 | 0,l=>l
 | n+1,l=>.gone::gn n l
end
section
set_option linter.unusedVariables false
set_option linter.unusedSimpArgs false
section
variable {β:Type} {r:β}
theorem zo {p:Prop} [Decidable p] {k:Option β} (h:chk p k=some r):p∧k=some r:=by
 rw [zgQ] at h; split at h
 ·exact ⟨‹_›,h⟩
 ·cases h
theorem zeN {t:Bool} {a b:Option β} (h:ifb t a b=some r):(t=true∧a=some r)∨(t=false∧b=some r):=by
 cases t
 ·exact .inr ⟨rfl,h⟩
 ·exact .inl ⟨rfl,h⟩
theorem zc7 {kd:IntKind} {v:V} {k:Int→Option β} (h:aI kd v k=some r):∃ n,v=.sc (.int kd n)∧k n=some r:=by
 unfold aI at h; simp only [zgQ] at h; split at h
 ·split at h
  ·rename_i e; subst e; exact ⟨_,rfl,h⟩
  ·cases h
 ·cases h
theorem zfQ {v:V} {k:Int→Option β} (h:zm4 v k=some r):∃ kd n,v=.sc (.int kd n)∧k n=some r:=by
 unfold zm4 at h; split at h
 ·exact ⟨_,_,rfl,h⟩
 ·cases h
theorem zjA {v:V} {k:Bool→Option β} (h:aB v k=some r):∃ b,v=.sc (.bool b)∧k b=some r:=by
 unfold aB at h; split at h
 ·exact ⟨_,rfl,h⟩
 ·cases h
theorem zzJ {v:V} {k:ByteArray→Option β} (h:aS v k=some r):∃ s,v=.sc (.string s)∧k s=some r:=by
 unfold aS at h; split at h
 ·exact ⟨_,rfl,h⟩
 ·cases h
theorem zcy {sz:Nat} {v:V} {k:List (List V)→Option β} (h:aL sz v k=some r):∃ es,v=.sl sz es∧k es=some r:=by
 unfold aL at h; simp only [zgQ] at h; split at h
 ·split at h
  ·rename_i e; subst e; exact ⟨_,rfl,h⟩
  ·cases h
 ·cases h
theorem zya {sz:Nat} {v:V} {k:List (List V)→Option β} (h:aLd sz v k=some r):∃ es,v.dem=.sl sz es∧k es=some r:=by
 unfold aLd at h; simp only [zgQ] at h; split at h
 ·split at h
  ·rename_i e; subst e; exact ⟨_,rfl,h⟩
  ·cases h
 ·split at h
  ·rename_i e; subst e; exact ⟨_,rfl,h⟩
  ·cases h
 ·cases h
theorem zcx {v:V} {k:List V→Option β} (h:aG v k=some r):∃ cs,v=.agg cs∧k cs=some r:=by
 unfold aG at h; split at h
 ·exact ⟨_,rfl,h⟩
 ·cases h
theorem zgf {cs:List V} {off:Nat} {k:V→Option β} (h:zca cs off k=some r):∃ v,cs[off]?=some v∧k v=some r:=by
 unfold zca at h; split at h
 ·exact ⟨_,‹_›,h⟩
 ·cases h
theorem zCP {es:List (List V)} {j:Int} {k:List V→Option β} (h:idx es j k=some r):0≤j∧∃ c,es[j.toNat]?=some c∧k c=some r:=by
 unfold idx at h; simp only [zgQ] at h; split at h
 ·split at h
  ·exact ⟨‹_›,_,‹_›,h⟩
  ·cases h
 ·cases h
theorem zCU {n:Nat} {a b:List V} {k:Bool→Option β} (h:eqC n a b k=some r):(a.length=n∧b.length=n)∧∃ t,zcP a b=some t∧k t=some r:=by
 unfold eqC at h; simp only [zgQ] at h; split at h
 ·split at h
  ·exact ⟨‹_›,_,‹_›,h⟩
  ·cases h
 ·cases h
theorem zBP {es:List (List V)} {k:ByteArray→Option β} (h:zCe es k=some r):∃ l,zec es=some l∧k ⟨l.toArray⟩=some r:=by
 unfold zCe at h; split at h
 ·exact ⟨_,‹_›,h⟩
 ·cases h
theorem zm2 {cs:List V} {k:List V→Option β} (h:zcR cs k=some r):∃ vs,cs.mapM V.plain=some vs∧k vs=some r:=by
 unfold zcR at h; split at h
 ·exact ⟨_,‹_›,h⟩
 ·cases h
theorem zAl {cs:List V} {k:List V→Option β} (h:zzh cs k=some r):∃ vs,cs.mapM V.refd=some vs∧k vs=some r:=by
 unfold zzh at h
 split at h
 ·exact ⟨_,‹_›,h⟩
 ·cases h
theorem zbr {o:Option St} {κ:St→Option β} (h:zfD o κ=some r):∃ σ,o=some σ∧κ σ=some r:=by
 unfold zfD at h; split at h
 ·exact ⟨_,rfl,h⟩
 ·cases h
theorem zcK {b:List B} {v:V} {k:V→Option β} (h:zgX b v k=some r):∃ u,yZ b v=some u∧k u=some r:=by
 unfold zgX at h; split at h
 ·exact ⟨_,‹_›,h⟩
 ·cases h
theorem zyk {sz:Nat} {v:V} {k:List (List V)→Option β} (h:aGw sz v k=some r):∃ es,v=.gs sz es∧k es=some r:=by
 unfold aGw at h
 split at h
 ·obtain ⟨e,h2⟩:=zo h; subst e; exact ⟨_,rfl,h2⟩
 ·cases h
theorem zB9 {s:Sh} {v:V} {k:V→Option β} (h:zBO s v k=some r):k v=some r:=by
 unfold zBO at h
 split at h
 ·obtain ⟨es,e,h'⟩:=zyk h; subst e; exact h'
 ·exact h
theorem zut {s:Sh} {v:V} {k:V→Option β} (h:asc s v k=some r):k v=some r:=by
 cases s with
 | any=>exact h
 | int kd=>obtain ⟨n,e,h'⟩:=zc7 h; subst e; exact h'
 | bool=>obtain ⟨n,e,h'⟩:=zjA h; subst e; exact h'
 | str=>obtain ⟨n,e,h'⟩:=zzJ h; subst e; exact h'
 | sl sz=>obtain ⟨n,e,h'⟩:=zcy h; subst e; exact h'
 | gs sz=>obtain ⟨n,e,h'⟩:=zyk h; subst e; exact h'
 | row l=>cases h
theorem zBM {s:Sh} {v:V} {k:V→Option β} (h:zEe s v k=some r):k v.dem=some r:=by
 cases s with
 | any=>exact h
 | int kd=>obtain ⟨n,e,h'⟩:=zc7 h; subst e; exact h'
 | bool=>obtain ⟨n,e,h'⟩:=zjA h; subst e; exact h'
 | str=>obtain ⟨n,e,h'⟩:=zzJ h; subst e; exact h'
 | sl sz=>obtain ⟨n,e,h⟩:=zya h; rw [e]; exact h
 | gs sz=>obtain ⟨n,e,h⟩:=zya h; rw [e]; exact h
 | row l=>cases h
theorem zs6:∀ {ss:List Sh} {i:Nat} {cs:List V} {k:List V→Option β},zwO ss i cs k=some r→i+ss.length=cs.length→k (cs.drop i)=some r
 | [],i,cs,k,h,hl=>by
  rw [List.drop_of_length_le (by simp at hl; omega)]
  exact h
 | s::ss,i,cs,k,h,hl=>by
  obtain ⟨v,e,h⟩:=zgf h
  have h:=zs6 (zut h) (by simp at hl; omega)
  obtain ⟨hi,rfl⟩:=List.getElem?_eq_some_iff.1 e
  rw [List.drop_eq_getElem_cons hi]
  exact h
theorem zmM {s:Sh} {cs:List V} {k:List V→Option β} (h:zq2 s cs k=some r):k cs=some r:=by
 cases s with
 | row ss =>
  obtain ⟨hl,h⟩:=zo h
  have:=zs6 h (by omega)
  simpa using this
 | _=>exact h
theorem zmu {s:Sh} {cs:List V} {off:Nat} {k:V→Option β} (h:zsY s cs off k=some r):∃ v,cs[off]?=some v∧k v=some r:=by
 obtain ⟨v,e,h⟩:=zgf h; exact ⟨v,e,zut h⟩
theorem zzo {s:Sh} {cs:List V} {off:Nat} {k:V→Option β} (h:zAU s cs off k=some r):∃ v,cs[off]?=some v∧k v.dem=some r:=by
 obtain ⟨v,e,h⟩:=zgf h; exact ⟨v,e,zBM h⟩
theorem zx4 {v:Value} {k:Value→Option β} (h:ltV v k=some r):k v=some r:=by
 cases v <;> exact h
theorem zzI {t:Bool} {a b:V} {k:V→Option β} (h:zyG t a b k=some r):k (if t then a else b)=some r:=by
 unfold zyG at h; simp only [zgQ] at h
 split at h
 ·cases t <;> exact h
 ·split at h
  ·rename_i e; subst e; cases t <;> exact h
  ·cases h
 ·rcases zeN h with ⟨rfl,h⟩ | ⟨rfl,h⟩ <;> exact h
theorem zqC {σ:St}:∀ {ps:List (Nat × Nat × Src)} {cs:List V} {k:List V→Option β},ztc σ ps cs k=some r→∃ cs',zaV σ ps cs=some cs'∧k cs'=some r
 | [],cs,k,h=>⟨cs,rfl,h⟩
 | (off,n,x)::ps,cs,k,h=>by
  unfold ztc at h
  split at h
  ·rename_i v hv
   obtain ⟨hc,h⟩:=zo h
   obtain ⟨cs',e,h⟩:=zqC h
   refine ⟨cs',?_,h⟩
   simp only [zaV,hv,Option.bind_eq_bind,Option.bind_some,hc,and_self,if_true]
   exact e
  ·cases h
theorem znW {sh:Nat→Sh} {σ:St}:∀ {ps:List (Nat × Nat × Src)} {cs:List V} {k:List V→Option β},zp2 sh σ ps cs k=some r→∃ cs',zco σ ps cs=some cs'∧k cs'=some r
 | [],cs,k,h=>⟨cs,rfl,h⟩
 | (off,n,x)::ps,cs,k,h=>by
  unfold zp2 at h
  split at h
  ·rename_i us hx
   have h:=zmM h
   obtain ⟨hc,h⟩:=zo h
   obtain ⟨cs',e,h⟩:=znW h
   refine ⟨cs',?_,h⟩
   simp only [zco,hx,V.refd,V.plain,V.cells,Option.bind_eq_bind,Option.bind_some,hc,and_self,if_true]
   exact e
  ·split at h
   ·rename_i v hv
    obtain ⟨hc,h⟩:=zo h
    obtain ⟨cs',e,h⟩:=znW h
    refine ⟨cs',?_,h⟩
    simp only [zco,hv,Option.bind_eq_bind,Option.bind_some,hc,and_self,if_true]
    exact e
   ·cases h
theorem zBR {op:BinOp} {x y:Value} {k:Value→Option β} (h:zCa op x y k=some r):∃ z,zkt op x y=some z∧k z=some r:=by
 unfold zCa at h
 split at h
 ·obtain ⟨hc,h⟩:=zo h
  exact ⟨_,by simp only [zkt]; rw [if_neg (by omega)],h⟩
 ·obtain ⟨hc,h⟩:=zo h
  exact ⟨_,by simp only [zkt]; rw [if_neg (by omega)],h⟩
 ·obtain ⟨e,h2⟩:=zo h
  clear h
  subst e
  obtain ⟨hc,h⟩:=zo h2
  exact ⟨_,by simp [zkt,hc],h⟩
 ·obtain ⟨e,h2⟩:=zo h
  clear h
  subst e
  obtain ⟨hc,h⟩:=zo h2
  exact ⟨_,by simp [zkt,hc],h⟩
 ·split at h
  ·exact ⟨_,‹_›,h⟩
  ·cases h
theorem zoJ {σ:St} {x:Option Src} {dflt most:Nat} {k:Nat→Option β} (h:zpz σ x dflt most k=some r):∃ n,zih σ x dflt most=some n∧k n=some r:=by
 unfold zpz at h
 split at h
 ·exact ⟨_,rfl,h⟩
 ·obtain ⟨kd,n,e,h⟩:=zfQ h
  obtain ⟨hc,h⟩:=zo h
  exact ⟨_,by simp [zih,e,V.int?,hc],h⟩
theorem zgC {σ:St} {len:Nat} {lo hi mx:Option Src} {k:Nat→Nat→Nat→Option β} (h:zkO σ len lo hi mx k=some r):∃ l hh m,zeg σ len lo hi mx=some (l,hh,m)∧k l hh m=some r:=by
 obtain ⟨m,e1,h⟩:=zoJ h
 obtain ⟨hh,e2,h⟩:=zoJ h
 obtain ⟨l,e3,h⟩:=zoJ h
 exact ⟨l,hh,m,by simp [zeg,e1,e2,e3],h⟩
end
def zii (c:CBC) (cb:CB):Prop:=∀ (β:Type) (f:Nat) (args:List V) (bor:Bor) (k:V→Bor→Option β) (r:β),c β f args bor k=some r→∃ v b,cb f args bor=some (v,b)∧k v b=some r
section
variable {β:Type} {r:β} {c:CBC} {cb:CB} {sh:Nat→Sh} {nb L:Nat}
theorem zvW {σ:St} {dst:Option Nat} {pin:Bool} {v:V} {κ:St→Option β} (h:zvE nb σ dst pin v κ=some r):∃ σ',σ.putR nb dst pin v=some σ'∧κ σ'=some r:=by
 cases v with
 | fr sz es =>
  cases pin with
  | true =>
   simp only [zvE] at h
   obtain ⟨σ',e,h⟩:=zbr h
   exact ⟨σ',by simp only [St.putR]; exact e,h⟩
  | false=>exact ⟨_,by simp only [St.putR,St.putG,Bool.false_eq_true,if_false],h⟩
 | _=>exact zbr h
theorem zy4 (b:List B) (id:Nat) (κ:List B→Option β):zt1 b id κ=κ (zI b id):=by
 unfold zt1 zI
 split
 ·rename_i cs h
  cases cs with
  | nil=>simp [ifb,h]
  | cons c cs=>simp [ifb,h]
 ·rename_i h
  split
  ·rename_i c cs h2; exact absurd h2 (h _)
  ·rfl
theorem zkx (σ:St):∀ (srcs:List (Src × Nat)) (b:List B) (κ:List B→Option β),zkQ σ srcs b κ=κ (zm σ srcs b)
 | [],b,κ=>rfl
 | s::rest,b,κ=>by
  unfold zkQ zm
  by_cases h:2≤s.2
  ·rw [if_pos h]; simp only [h,decide_true]; exact zkx σ rest b κ
  ·rw [if_neg h]; simp only [h,decide_false]
   cases zO (s.1.get σ) with
   | none=>exact zkx σ rest b κ
   | some id=>simp only [zy4]; exact zkx σ rest _ κ
theorem zu0 {b:List B} {i:Nat} {x:B} (hb:b[i]?=some x):b.set i x=b:=by
 apply List.ext_getElem?
 intro k
 rw [List.getElem?_set]
 split
 ·rename_i hi; subst hi
  rw [hb,if_pos (List.getElem?_eq_some_iff.1 hb).1]
 ·rfl
theorem zeB (nb:Nat) {r:β}:∀ (fz:List Nat) (σ:St) (κ:St→Option β),zd7 nb fz σ κ=some r→κ (zgU nb fz σ)=some r
 | [],σ,κ,h=>h
 | d::fz,σ,κ,h=>by
  unfold zd7 at h
  unfold zgU
  cases hd:Nat.blt d 100000 with
  | true =>
   rw [hd] at h
   simp only at h ⊢
   split at h
   ·rename_i cs hb
    cases cs with
    | nil =>
     have e:zI σ.b (nb+d)=σ.b:=by unfold zI; rw [hb]
     have h:zd7 nb fz { σ with b:=σ.b.set (nb+d) (.live true []) } κ=some r:=h
     rw [zu0 hb] at h
     rw [e]; exact zeB nb fz _ κ h
    | cons c cs =>
     have e:zI σ.b (nb+d)=σ.b.set (nb+d) (.fz (c::cs)):=by unfold zI; rw [hb]
     have h:zd7 nb fz { σ with b:=σ.b.set (nb+d) (.fz (c::cs)) } κ=some r:=h
     rw [e]; exact zeB nb fz _ κ h
   ·rename_i hb
    have e:zI σ.b (nb+d)=σ.b:=by
     unfold zI
     split
     ·rename_i c cs h2; exact absurd h2 (hb _)
     ·rfl
    rw [e]; exact zeB nb fz _ κ h
  | false =>
   rw [hd] at h
   simp only at h ⊢
   split at h
   ·rename_i cs hb
    cases cs with
    | nil =>
     have e:zaM σ.b (nb+(d - 100000))=σ.b:=by unfold zaM; rw [hb]
     have h:zd7 nb fz { σ with b:=σ.b.set (nb+(d - 100000)) (.live false []) } κ=some r:=h
     rw [zu0 hb] at h
     rw [e]; exact zeB nb fz _ κ h
    | cons c cs =>
     have h:zcR (c::cs) (fun vs=>zd7 nb fz { σ with b:=σ.b.set (nb+(d - 100000)) (.fz vs) } κ)=some r:=h
     unfold zcR at h
     split at h
     ·rename_i vs hvs
      have e:zaM σ.b (nb+(d - 100000))=σ.b.set (nb+(d - 100000)) (.fz vs):=by unfold zaM; rw [hb]; simp only [hvs]
      rw [e]; exact zeB nb fz _ κ h
     ·cases h
   ·rename_i vs hb
    have e:zaM σ.b (nb+(d - 100000))=σ.b:=by unfold zaM; rw [hb]
    rw [e]; exact zeB nb fz _ κ h
   ·cases h
theorem zzK {b:List B} {v:V} {k:V→Option β} {r:β} (h:zy9 b v k=some r):∃ u,zi6 b v=some u∧k u=some r:=by
 unfold zy9 at h
 split at h
 ·rename_i id off len sz
  split at h
  ·rename_i cs hb; exact ⟨_,by simp only [zi6,hb],h⟩
  ·rename_i hb
   obtain ⟨h0,h⟩:=zo h
   exact ⟨_,by simp only [zi6,hb]; rw [if_pos h0],h⟩
  ·cases h
 ·rename_i hn
  split at h
  ·rename_i u hu
   refine ⟨u,?_,h⟩
   cases v <;> first | exact hu | exact absurd rfl (hn _ _ _ _)
  ·cases h
theorem zuW {b:List B} {r:β}:∀ {vs:List V} {k:List V→Option β},zzj b vs k=some r→∃ us,vs.mapM (zi6 b)=some us∧k us=some r
 | [],k,h=>⟨[],rfl,h⟩
 | v::vs,k,h=>by
  obtain ⟨u,e,h⟩:=zzK h
  obtain ⟨us,e2,h⟩:=zuW h
  exact ⟨u::us,by simp [List.mapM_cons,e,e2],h⟩
theorem ztJ (hc:zii c cb) {σ:St} {dst:Option Nat} {pin:Bool} {f:Nat} {args:List V} {srcs:List (Src × Nat)} {xs:List Nat} {κ:St→Option β} (h:zq0 c nb σ dst pin f args srcs xs κ=some r):∃ σ',zbH cb nb σ dst pin f args srcs xs=some σ'∧κ σ'=some r:=by
 unfold zq0 at h
 rw [zkx] at h
 simp only at h
 split at h
 ·cases h
 ·rename_i bor hb
  obtain ⟨v,b,e,h⟩:=hc _ _ _ _ _ _ h
  obtain ⟨hl,h⟩:=zo h
  split at h
  ·rename_i ht
   obtain ⟨σ',e2,h⟩:=zvW h
   refine ⟨σ',?_,h⟩
   simp only [Bool.and_eq_true,decide_eq_true_eq] at ht
   obtain ⟨t1,t2,t3,t4,t5,t6,t7,t8⟩:=ht
   unfold zbH
   simp only [hb,Option.bind_eq_bind,Option.bind_some,e]
   rw [if_pos ⟨hl,t1,t2,t3,t4,t5,t6,t7,t8⟩]
   exact e2
  ·cases h
theorem zC7 {σ:St} {dst:Option Nat} {pin:Bool} {k:K} {κ:St→Option β} (hk:xc (fun _ _ _=>none) nb σ dst pin k=xc cb nb σ dst pin k) (h:zfD (xc (fun _ _ _=>none) nb σ dst pin k) κ=some r):∃ σ',xc cb nb σ dst pin k=some σ'∧κ σ'=some r:=by
 obtain ⟨σ',e,h⟩:=zbr h
 exact ⟨σ',by rw [← hk]; exact e,h⟩
theorem St.set_same {σ:St} {j:Nat} {v:V} (h:σ.t[j]?=some v):({ σ with t:=σ.t.set j v }:St)=σ:=by
 have:σ.t.set j v=σ.t:=by
  apply List.ext_getElem?
  intro i
  rw [List.getElem?_set]
  split
  ·rename_i e; subst e
   split
   ·exact h.symm
   ·rename_i hlt
    rw [List.getElem?_eq_none (by omega)]
  ·rfl
 rw [this]
theorem zrY (hc:zii c cb) {σ:St} {dst:Option Nat} {pin:Bool} {k:K} {κ:St→Option β} (h:zZ sh c nb σ dst pin k κ=some r):∃ σ',xc cb nb σ dst pin k=some σ'∧κ σ'=some r:=by
 cases k with
 | pick c a b =>
  obtain ⟨t,e,h⟩:=zjA h
  exact ⟨_,by simp only [xc,yj,e,V.bool?]; rfl,by have:=zzI h; cases t <;> exact this⟩
 | build zero parts =>
  obtain ⟨cs,e,h⟩:=zqC h
  exact ⟨_,by simp only [xc,yj,e]; rfl,h⟩
 | buildSt zero parts =>
  obtain ⟨cs,e,h⟩:=znW h
  exact ⟨_,by simp only [xc,yj,e]; rfl,h⟩
 | box p x =>
  simp only [zZ] at h
  split at h
  ·rename_i cs hx
   cases p with
   | true=>cases h
   | false =>
    obtain ⟨σ',e,h⟩:=zbr h
    exact ⟨σ',by simp only [xc,hx,Bool.false_eq_true,if_false]; exact e,h⟩
  ·rename_i hx
   split at h
   ·rename_i v hv
    have hk:∀ p,xc cb nb σ dst pin (.box p x)=σ.newB nb dst (.live p v.cells) (fun id=>.ptr id 0):=by
     intro p
     cases hxx:x.get σ with
     | st cs=>exact absurd hxx (hx cs)
     | _=>rw [hxx] at hv; simp only [xc,hxx,hv]
    cases p with
    | true =>
     obtain ⟨σ',e,h⟩:=zbr h
     exact ⟨σ',by rw [hk]; exact e,h⟩
    | false =>
     obtain ⟨σ',e,h⟩:=zbr (zmM h)
     exact ⟨σ',by rw [hk]; exact e,h⟩
   ·cases h
 | nilT neg x =>
  simp only [zZ] at h
  split at h
  ·rename_i sz es hx
   split at h
   ·rename_i t
    rcases zeN h with ⟨hq,h⟩ | ⟨hq,h⟩
    ·have he:es=[]:=by simpa using hq
     subst he
     have hget:∃ v,σ.t[t]?=some v∧Src.get σ (.tmp t)=v∧zCr v=v:=by
      simp only [Src.get,List.getD_eq_getElem?_getD] at hx ⊢
      cases ht:σ.t[t]? with
      | none=>rw [ht] at hx; simp [V.dem] at hx
      | some v =>
       rw [ht] at hx
       refine ⟨v,rfl,rfl,?_⟩
       have hx:v.dem=.sl sz []:=hx
       match v,hx with
       | .gs a es,hx =>
        have:es=[]:=by simp [V.dem] at hx; exact hx.2
        rw [this]; rfl
       | .sl a es,hx =>
        have:es=[]:=by simp [V.dem] at hx; exact hx.2
        rw [this]; rfl
       | .tup [],hx=>rfl
       | .tup (_::_),hx=>rfl
       | .sc _,hx=>rfl
       | .agg _,hx=>rfl
       | .own _ _ _ _,hx=>rfl
       | .ptr _ _,hx=>rfl
       | .fp _ _,hx=>rfl
       | .fn _ _,hx=>rfl
       | .bx _ _,hx=>rfl
       | .fr _ _,hx=>rfl
       | .ub,hx=>rfl
       | .junk,hx=>rfl
     obtain ⟨v,g1,g2,g3⟩:=hget
     simp only [lt] at h
     rw [g2,g3,St.set_same g1] at h
     exact ⟨_,by simp only [xc,yj,hx]; rfl,h⟩
    ·exact ⟨_,by simp only [xc,yj,hx,hq]; rfl,h⟩
   ·cases h
  ·cases h
 | un op x =>
  simp only [zZ] at h
  split at h
  ·rename_i a ha
   split at h
   ·rename_i z hz
    exact ⟨_,by simp only [xc,yj,ha,hz]; rfl,zx4 h⟩
   ·cases h
  ·cases h
 | conv k x =>
  obtain ⟨kd,n,e,h⟩:=zfQ h
  exact ⟨_,by simp only [xc,yj,e,V.int?]; rfl,h⟩
 | mm isMax x y =>
  simp only [zZ] at h
  split at h
  ·rename_i k a k' b ha hb
   exact ⟨_,by simp only [xc,yj,ha,hb]; rfl,h⟩
  ·cases h
 | copy sz d s =>
  simp only [zZ] at h
  split at h
  ·rename_i id off len sz1 hd
   obtain ⟨u,e,h⟩:=zcK h
   split at h
   ·rename_i sz2 es
    split at h
    ·rename_i cs hb
     obtain ⟨hc,h⟩:=zo h
     exact ⟨_,by simp only [xc,hd,e,hb]; rw [if_pos hc],h⟩
    ·cases h
   ·cases h
  ·cases h
 | buildSlice sz n zero parts =>
  obtain ⟨cs,e,h⟩:=zqC h
  split at h
  ·rename_i hc
   exact ⟨_,by simp only [xc,e,Option.bind_eq_bind,Option.bind_some]; rw [if_pos (of_decide_eq_true hc)],h⟩
  ·rename_i hc
   obtain ⟨σ',e2,h⟩:=zbr h
   exact ⟨σ',by simp only [xc,e,Option.bind_eq_bind,Option.bind_some]; rw [if_neg (of_decide_eq_false hc)]; exact e2,h⟩
 | bin op x y =>
  simp only [zZ] at h
  split at h
  ·rename_i a b ha hb
   obtain ⟨z,e,h⟩:=zBR h
   exact ⟨_,by simp only [xc,yj,ha,hb,e]; rfl,zx4 h⟩
  ·cases h
 | eqAgg neg n x y =>
  simp only [zZ] at h
  split at h
  ·rename_i a b ha hb
   obtain ⟨hl,t,e,h⟩:=zCU h
   exact ⟨_,by simp only [xc,yj,ha,hb,hl,and_self,if_true,e]; rfl,h⟩
  ·cases h
 | toStr x =>
  obtain ⟨u,e,h⟩:=zcK h
  split at h
  ·obtain ⟨l,e2,h⟩:=zBP h
   exact ⟨_,by simp only [xc,yj,e,e2]; rfl,h⟩
  ·cases h
 | see x =>
  simp only [zZ] at h
  split at h
  ·rename_i id off len sz hx
   split at h
   ·rename_i cs hb; exact ⟨_,by simp only [xc,yj,hx,hb]; rfl,h⟩
   ·rename_i hb
    obtain ⟨h0,h⟩:=zo h
    exact ⟨_,by simp only [xc,yj,hx,hb,h0,if_true]; rfl,h⟩
   ·cases h
  ·cases h
 | cmpB x y =>
  obtain ⟨u,e,h⟩:=zcK h
  obtain ⟨v,e',h⟩:=zcK h
  split at h
  ·unfold zDL at h
   split at h
   ·rename_i a ha
    split at h
    ·rename_i b hb
     exact ⟨_,by simp only [xc,yj,e,e',ha,hb]; rfl,h⟩
    ·cases h
   ·cases h
  ·cases h
 | makeSlice sz bytes zero l c =>
  obtain ⟨k1,l',e1,h⟩:=zfQ h
  obtain ⟨k2,c',e2,h⟩:=zfQ h
  cases pin with
  | true =>
   obtain ⟨hc,h⟩:=zo h
   obtain ⟨σ',e3,h⟩:=zbr h
   exact ⟨σ',by simp only [xc,e1,e2,V.int?]; rw [if_pos hc,if_pos trivial]; exact e3,h⟩
  | false =>
   obtain ⟨hc,h⟩:=zo h
   obtain ⟨σ',e3,h⟩:=zbr h
   exact ⟨σ',by simp only [xc,e1,e2,V.int?]; rw [if_pos hc]; simpa using e3,h⟩
 | sliceA n sz x lo hi mx =>
  obtain ⟨l,hh,m,e,h⟩:=zgC h
  split at h
  ·rename_i id off hx
   split at h
   ·rename_i p cs hb
    obtain ⟨hl,h⟩:=zo h
    refine ⟨_,by simp only [xc,yj,e,Option.bind_eq_bind,Option.bind_some,hx,hb,hl,if_true,Option.map_some]; rfl,?_⟩
    rcases zeN h with ⟨q,h⟩ | ⟨q,h⟩
    ·rw [if_pos (by simpa using q)]; exact h
    ·rw [if_neg (by simpa using q)]; exact h
   ·rename_i cs hb
    obtain ⟨hl,h⟩:=zo h
    refine ⟨_,by simp only [xc,yj,e,Option.bind_eq_bind,Option.bind_some,hx,hb,hl,if_true,Option.map_some]; rfl,?_⟩
    rcases zeN h with ⟨q,h⟩ | ⟨q,h⟩
    ·rw [if_pos (by simpa using q)]; exact h
    ·rw [if_neg (by simpa using q)]; exact h
   ·cases h
  ·rename_i q cs hx
   obtain ⟨hl,h⟩:=zo h
   exact ⟨_,by simp only [xc,yj,e,Option.bind_eq_bind,Option.bind_some,hx,hl,if_true,Option.map_some],h⟩
  ·cases h
 | sliceS sz x lo hi mx =>
  simp only [zZ] at h
  split at h
  ·rename_i sz' es hx
   obtain ⟨l,hh,m,e,h⟩:=zgC h
   obtain ⟨hs,h⟩:=zo h
   cases mx with
   | none=>exact ⟨σ.put dst (.sl sz ((es.drop l).take (hh - l))),by simp [xc,yj,e,hx,hs],h⟩
   | some s =>
    refine ⟨_,by simp only [xc,yj,e,hx,hs,Option.bind_eq_bind,Option.bind_some,if_true,Option.map_some]; rfl,?_⟩
    rcases zeN h with ⟨q,h⟩ | ⟨q,h⟩
    ·rw [if_pos ⟨by simp,by simpa using q⟩]; rw [← hs]; exact h
    ·rw [if_neg (by simpa using q)]; rw [← hs]; exact h
  ·rename_i id off len sz' hx
   obtain ⟨l,hh,m,e,h⟩:=zgC h
   obtain ⟨hs,h2⟩:=zo h
   subst hs
   cases mx with
   | none=>exact ⟨_,by simp only [xc,yj,e,hx,Option.bind_eq_bind,Option.bind_some,if_true,Option.map_some,Option.isSome_none,Bool.false_eq_true,if_false],h2⟩
   | some s =>
    refine ⟨_,by simp only [xc,yj,e,hx,Option.bind_eq_bind,Option.bind_some,if_true,Option.map_some,Option.isSome_some]; rfl,?_⟩
    rcases zeN h2 with ⟨q,h⟩ | ⟨q,h⟩
    ·rw [if_pos (by simpa using q)]; exact h
    ·rw [if_neg (by simpa using q)]; exact h
  ·rename_i id off len cap sz' hx
   cases hi with
   | none=>cases h
   | some s0 =>
    cases mx with
    | some _=>cases h
    | none =>
     obtain ⟨l,hh,m,e,h⟩:=zgC h
     obtain ⟨hs,h2⟩:=zo h
     subst hs
     exact ⟨_,by simp only [xc,yj,e,hx,Option.bind_eq_bind,Option.bind_some,if_true,Option.map_some,Option.isSome_some,Option.isNone_none,and_self],h2⟩
  ·cases h
 | sliceC sz x hi =>
  simp only [zZ] at h
  split at h
  ·rename_i id off len sz' hx
   cases hi with
   | none=>cases h
   | some s0 =>
    obtain ⟨l,hh,m,e,h⟩:=zgC h
    obtain ⟨hs,h2⟩:=zo h
    subst hs
    exact ⟨_,by simp only [xc,yj,e,hx,Option.bind_eq_bind,Option.bind_some,if_true,Option.map_some,Option.isSome_some,and_self],h2⟩
  ·cases h
 | field agg o n x =>
  simp only [zZ] at h
  split at h
  ·rename_i cs hx
   cases agg with
   | true=>exact ⟨_,by simp [xc,yj,hx],h⟩
   | false =>
    obtain ⟨v,e,h⟩:=zmu h
    exact ⟨_,by simp [xc,yj,hx,e],h⟩
  ·rename_i cs hx
   cases agg with
   | true=>cases h
   | false =>
    simp only at h
    split at h
    ·rename_i v e
     exact ⟨_,by simp [xc,yj,hx,e],h⟩
    ·cases h
  ·cases h
 | indexAddrA len sz x i =>
  obtain ⟨k1,j,e1,h⟩:=zfQ h
  obtain ⟨hj,h⟩:=zo h
  split at h
  ·rename_i id off hx
   exact ⟨_,by simp [xc,yj,hx,e1,V.int?,hj],h⟩
  ·rename_i q cs hx
   obtain ⟨hl,h⟩:=zo h
   exact ⟨_,by simp [xc,yj,hx,e1,V.int?,hj,hl],h⟩
  ·cases h
 | indexAddrS sz x i =>
  obtain ⟨k1,j,e1,h⟩:=zfQ h
  split at h
  ·rename_i sz' es hx
   obtain ⟨hs,h2⟩:=zo h
   obtain ⟨hj,cc,e,h3⟩:=zCP h2
   subst hs
   exact ⟨_,by simp [xc,yj,hx,e1,V.int?,hj,e],h3⟩
  ·rename_i id off len sz' hx
   obtain ⟨hs,h2⟩:=zo h
   obtain ⟨hj,h3⟩:=zo h2
   subst hs
   exact ⟨_,by simp [xc,yj,hx,e1,V.int?,hj],h3⟩
  ·cases h
 | arrP n sz x =>
  simp only [zZ] at h
  split at h
  ·rename_i sz' es hx
   obtain ⟨hs,h2⟩:=zo h
   obtain ⟨hp,h3⟩:=zo h2
   obtain ⟨hl,h4⟩:=zo h3
   subst hs
   exact ⟨_,by simp [xc,yj,hx,hp,hl],h4⟩
  ·rename_i id off len sz' hx
   obtain ⟨hs,h2⟩:=zo h
   obtain ⟨hp,h3⟩:=zo h2
   obtain ⟨hl,h4⟩:=zo h3
   subst hs
   exact ⟨_,by simp [xc,yj,hx,hp,hl],h4⟩
  ·cases h
 | indexA agg len sz x i =>
  obtain ⟨k1,j,e1,h⟩:=zfQ h
  obtain ⟨hj,h⟩:=zo h
  split at h
  ·rename_i cs hx
   cases agg with
   | true=>exact ⟨_,by simp [xc,yj,hx,e1,V.int?,hj],h⟩
   | false =>
    obtain ⟨v,e,h⟩:=zmu h
    exact ⟨_,by simp [xc,yj,hx,e1,V.int?,hj,e],h⟩
  ·cases h
 | load agg n a take =>
  simp only [zZ] at h
  split at h
  ·rename_i id off hx
   split at h
   ·rename_i p cs hb
    cases agg with
    | true =>
     obtain ⟨hl,h⟩:=zo h
     cases p with
     | true=>exact ⟨_,by simp [xc,hx,hb,hl],h⟩
     | false =>
      cases take with
      | true =>
       obtain ⟨vs,e,h⟩:=zAl h
       exact ⟨_,by simp [xc,hx,hb,hl,e],h⟩
      | false =>
       obtain ⟨vs,e,h⟩:=zm2 h
       exact ⟨_,by simp [xc,hx,hb,hl,e],h⟩
    | false =>
     cases take with
     | true =>
      cases p with
      | true=>cases h
      | false =>
       obtain ⟨v,e,h⟩:=zgf h
       exact ⟨_,by simp [xc,hx,hb,e],zB9 h⟩
     | false =>
      obtain ⟨v,e,h⟩:=zzo h
      exact ⟨_,by simp [xc,hx,hb,e],h⟩
   ·rename_i cs hb
    cases agg with
    | true =>
     obtain ⟨hl,h⟩:=zo h
     exact ⟨_,by simp [xc,hx,hb,hl],h⟩
    | false =>
     obtain ⟨v,e,h⟩:=zmu h
     exact ⟨_,by simp [xc,hx,hb,e],h⟩
   ·cases h
  ·rename_i q cs hx
   cases agg with
   | true =>
    obtain ⟨hl,h⟩:=zo h
    exact ⟨_,by simp [xc,hx,hl],h⟩
   | false =>
    obtain ⟨v,e,h⟩:=zmu h
    exact ⟨_,by simp [xc,hx,e],h⟩
  ·cases h
 | store n a x =>
  cases dst with
  | some d=>cases h
  | none =>
  simp only [zZ] at h
  split at h
  ·rename_i id off hx
   split at h
   ·rename_i cs hb
    split at h
    ·rename_i v hv
     obtain ⟨hl,h⟩:=zo h
     exact ⟨_,by simp [xc,hx,hb,hv,hl],h⟩
    ·cases h
   ·rename_i cs hb
    cases hxv:x.get σ <;> simp only [hxv] at h
    case agg us =>
     obtain ⟨hl,h⟩:=zo (zmM h)
     exact ⟨_,by simp [xc,hx,hb,hxv,hl],h⟩
    case st us =>
     obtain ⟨hl,h⟩:=zo h
     exact ⟨_,by simp [xc,hx,hb,hxv,hl],h⟩
    case tup=>cases h
    case bx=>cases h
    case junk=>cases h
    all_goals
     obtain ⟨hl,h⟩:=zo h
     exact ⟨_,by simp [xc,hx,hb,hxv,hl],h⟩
   ·cases h
  ·cases h
 | append sz bytes s x =>
  simp only [zZ] at h
  split at h
  ·rename_i sz1 es hs
   obtain ⟨u,e,h⟩:=zcK h
   split at h
   ·rename_i sz2 es2
    obtain ⟨⟨h1,h2⟩,h⟩:=zo h
    obtain ⟨h3,h⟩:=zo h
    cases pin with
    | true =>
     simp only at h
     split at h
     ·obtain ⟨σ',e3,h⟩:=zbr h
      refine ⟨σ',?_,h⟩
      simp only [xc,hs,e]
      rw [if_pos ⟨h1,.inl h2,h3⟩]
      exact e3
     ·cases h
    | false =>
     refine ⟨_,?_,h⟩
     simp only [xc,hs,e]
     rw [if_pos ⟨h1,.inl h2,h3⟩]
     rfl
   ·cases h
  ·rename_i sz1 hs
   obtain ⟨u,e,h⟩:=zcK h
   split at h
   ·rename_i sz2 es2
    obtain ⟨⟨h1,h2⟩,h⟩:=zo h
    obtain ⟨h3,h⟩:=zo h
    obtain ⟨σ',e3,h⟩:=zbr h
    refine ⟨σ',?_,h⟩
    simp only [xc,hs,e]
    rw [if_pos ⟨h1,.inl h2,h3⟩]
    exact e3
   ·cases h
  ·rename_i id off len sz1 hs
   obtain ⟨u,e,h⟩:=zcK h
   split at h
   ·rename_i sz2 es2
    split at h
    ·rename_i cs hb
     obtain ⟨⟨h1,h2,h0⟩,h⟩:=zo h
     obtain ⟨h3,h⟩:=zo h
     obtain ⟨σ',e3,h⟩:=zbr h
     refine ⟨σ',?_,h⟩
     simp only [xc,hs,e,hb]
     rw [if_pos ⟨h1,.inl h2,h0,h3⟩]
     exact e3
    ·cases h
   ·cases h
  ·rename_i id off len cap sz1 hs
   obtain ⟨u,e,h⟩:=zcK h
   split at h
   ·rename_i sz2 es2
    split at h
    ·rename_i cs hb
     split at h
     ·obtain ⟨⟨h1,h2,h0⟩,h⟩:=zo h
      obtain ⟨h3,h⟩:=zo h
      refine ⟨_,?_,h⟩
      simp only [xc,hs,e,hb]
      rw [if_pos ⟨h1,.inl h2,h0,h3,trivial⟩]
     ·cases h
    ·cases h
   ·cases h
  ·cases h
 | appendF sz bytes s x =>
  cases pin with
  | true=>simp only [zZ] at h; cases h
  | false =>
   simp only [zZ] at h
   split at h
   ·rename_i sz1 hs
    obtain ⟨u,e,h⟩:=zcK h
    split at h
    ·rename_i sz2 es2
     obtain ⟨⟨h1,h2⟩,h⟩:=zo h
     obtain ⟨h3,h⟩:=zo h
     refine ⟨_,?_,h⟩
     simp only [xc,hs,ztT,e,Bool.false_eq_true,if_false]
     rw [if_pos ⟨h1,.inl h2,by simpa using h3.1,by simpa using h3.2.1,by simpa using h3.2.2⟩]
     rfl
    ·cases h
   ·rename_i sz1 es hs
    obtain ⟨u,e,h⟩:=zcK h
    split at h
    ·rename_i sz2 es2
     obtain ⟨⟨h1,h2⟩,h⟩:=zo h
     obtain ⟨h3,h⟩:=zo h
     refine ⟨_,?_,h⟩
     simp only [xc,hs,ztT,e,Bool.false_eq_true,if_false]
     rw [if_pos ⟨h1,.inl h2,h3⟩]
    ·cases h
   ·cases h
 | pinC p sz a =>
  simp only [zZ] at h
  split at h
  ·rename_i id off hx
   split at h
   ·rename_i cs hb
    obtain ⟨v,hv,h⟩:=zgf h
    split at h
    ·rename_i sz1 es
     split at h
     ·rename_i d
      obtain ⟨h1,h⟩:=zo h
      obtain ⟨σ',e,h⟩:=zbr h
      exact ⟨σ',by simp only [xc,hx,hb,hv]; rw [if_pos h1]; exact e,h⟩
     ·cases h
    ·cases h
   ·cases h
  ·cases h
 | storeF n a x xs =>
  cases dst with
  | some d=>cases h
  | none =>
  simp only [zZ] at h
  split at h
  ·rename_i id off hx
   split at h
   ·rename_i cs hb
    split at h
    ·rename_i us hy
     obtain ⟨h0,h⟩:=zo h
     exact ⟨_,by simp only [xc,hx,hb,hy]; rw [if_neg (by simp),if_pos h0],h⟩
    ·cases h
   ·cases h
  ·cases h
 | loadS n a =>
  simp only [zZ] at h
  split at h
  ·rename_i id off hx
   split at h
   ·rename_i cs hb
    obtain ⟨h0,h⟩:=zo h
    obtain ⟨us,e,h⟩:=zuW h
    exact ⟨_,by simp only [xc,hx,hb]; rw [if_pos h0]; simp only [e]; rfl,h⟩
   ·cases h
  ·cases h
 | pinS p sz x =>
  simp only [zZ] at h
  split at h
  ·rename_i sz1 es hx
   split at h
   ·rename_i t d
    obtain ⟨h1,h⟩:=zo h
    obtain ⟨σ',e,h⟩:=zbr h
    exact ⟨σ',by simp only [xc,hx]; rw [if_pos h1]; exact e,h⟩
   ·cases h
  ·cases h
 | unpin x =>
  cases pin with
  | true=>simp only [zZ] at h; cases h
  | false =>
   simp only [zZ] at h
   split at h
   ·rename_i id off len sz hx
    split at h
    ·rename_i cs hb
     obtain ⟨h1,h2⟩:=zo h
     exact ⟨_,by simp only [xc,hx,hb]; rw [if_neg (by simp),if_pos h1],h2⟩
    ·cases h
   ·rename_i sz es hx
    exact ⟨_,by simp only [xc,hx]; rw [if_neg (by simp)],h⟩
   ·cases h
 | clear sz zero x =>
  simp only [zZ] at h
  split at h
  ·rename_i id off len sz1 hx
   split at h
   ·rename_i cs hb
    obtain ⟨h1,h⟩:=zo h
    exact ⟨_,by simp only [xc,hx,hb,h1,if_true],h⟩
   ·cases h
  ·cases h
 | appendZ sz bytes zero s x =>
  simp only [zZ] at h
  split at h
  ·rename_i sz1 es hs
   obtain ⟨kd,n,e,h⟩:=zfQ h
   obtain ⟨h1,h⟩:=zo h
   obtain ⟨h2,h⟩:=zo h
   cases pin with
   | true=>cases h
   | false =>
    refine ⟨_,?_,h⟩
    simp only [xc,hs,e,V.int?]
    rw [if_pos ⟨h1,h2⟩]
    rfl
  ·cases h
 | extract x i =>
  simp only [zZ] at h
  split at h
  ·rename_i vs hx
   split at h
   ·rename_i v t hvi
    split at h
    ·rename_i hall
     simp only [Bool.and_eq_true,decide_eq_true_eq] at hall
     split at h
     ·rename_i hh
      obtain ⟨σ',e,h⟩:=zvW h
      refine ⟨σ',?_,h⟩
      simp only [xc,hx,hvi]
      rw [if_pos hall,if_pos hh]
      exact e
     ·rename_i hh
      split at h
      ·cases h
      ·refine ⟨_,?_,h⟩
       simp only [xc,hx,hvi]
       rw [if_pos hall,if_neg (by simp [hh])]
       rfl
    ·cases h
   ·cases h
  ·cases h
 | call f args xs =>
  simp only [zZ] at h
  split at h
  ·rename_i vs e
   obtain ⟨σ',e2,h⟩:=ztJ hc h
   exact ⟨σ',by simp only [xc,e]; exact e2,h⟩
  ·cases h
 | callv f args xs =>
  simp only [zZ] at h
  split at h
  ·rename_i g caps hg
   split at h
   ·rename_i vs e
    obtain ⟨σ',e2,h⟩:=ztJ hc h
    exact ⟨σ',by simp only [xc,hg,e]; exact e2,h⟩
   ·cases h
  ·cases h
 | mlook kd ok zero x y =>
  simp only [zZ] at h
  split at h
  ·rename_i id hx
   split at h
   ·rename_i es hes
    unfold mAt at h
    split at h
    ·rename_i hko
     split at h
     ·rename_i q hq
      have h:=zut h
      cases ok with
      | true=>exact ⟨_,by simp only [xc,hx,hes,hko,if_true,hq,Option.bind_eq_bind,Option.bind_some,Option.pure_def],h⟩
      | false=>exact ⟨_,by simp only [xc,hx,hes,hko,if_true,hq,Option.bind_eq_bind,Option.bind_some,Option.pure_def,Bool.false_eq_true,if_false],h⟩
     ·cases h
    ·cases h
   ·cases h
  ·cases h
 | mput kd x y z =>
  simp only [zZ] at h
  split at h
  ·cases h
  ·split at h
   ·rename_i id hx
    split at h
    ·rename_i es hes
     split at h
     ·rename_i v hv
      unfold zBK at h
      split at h
      ·rename_i hko
       split at h
       ·rename_i q hq
        refine ⟨_,?_,h⟩
        simp only [xc,Option.isSome_none,Bool.false_eq_true,if_false,hx,hes,hko,if_true,hv,hq,Option.bind_eq_bind,Option.bind_some,Option.pure_def]
       ·cases h
      ·cases h
     ·cases h
    ·cases h
   ·cases h
 | _=>exact zC7 rfl h
theorem ztf (hc:zii c cb) {σ:St} {o:COp} {κ:St→St→Option β} (h:zqW sh c nb σ o κ=some r):∃ σ',zn cb nb σ o=some σ'∧κ σ σ'=some r:=by
 unfold zqW at h
 split at h
 ·rename_i hg
  obtain ⟨σ',e,h⟩:=zrY hc h
  exact ⟨σ',by simp only [zn,hg,zaa]; exact e,h⟩
 ·rename_i j want hg
  split at h
  ·rename_i b hj
   cases want with
   | true =>
    rcases zeN h with ⟨rfl,h⟩ | ⟨rfl,h⟩
    ·simp only [lt] at h
     rw [St.set_same hj] at h
     obtain ⟨σ',e,h⟩:=zrY hc h
     exact ⟨σ',by simp only [zn,hg,zaa,hj]; exact e,h⟩
    ·simp only [lt] at h
     rw [St.set_same hj] at h
     exact ⟨_,by simp only [zn,hg,zaa,hj]; rfl,h⟩
   | false =>
    rcases zeN h with ⟨rfl,h⟩ | ⟨rfl,h⟩
    ·simp only [lt] at h
     rw [St.set_same hj] at h
     exact ⟨_,by simp only [zn,hg,zaa,hj]; rfl,h⟩
    ·simp only [lt] at h
     rw [St.set_same hj] at h
     obtain ⟨σ',e,h⟩:=zrY hc h
     exact ⟨σ',by simp only [zn,hg,zaa,hj]; exact e,h⟩
  ·rename_i hj
   exact ⟨_,by simp only [zn,hg,zaa,hj],h⟩
  ·cases h
theorem zrG (hc:zii c cb):∀ {ops:List COp} {σ:St} {κ:St→Option β},zsx sh c nb ops σ κ=some r→∃ σ',zd2 cb nb ops σ=some σ'∧κ σ'=some r
 | [],σ,κ,h=>⟨σ,rfl,h⟩
 | o::ops,σ,κ,h=>by
  obtain ⟨σ1,e1,h⟩:=ztf hc h
  obtain ⟨σ2,e2,h⟩:=zrG hc h
  exact ⟨σ2,by simp only [zd2,e1,Option.bind_some]; exact e2,h⟩
theorem zuM (hc:zii c cb):∀ {ops:List (COp × Fl)} {σ:St} {κ:St→Option β},zv1 sh c nb ops σ κ=some r→∃ σ',zg7 cb nb ops σ=some σ'∧κ σ'=some r
 | [],σ,κ,h=>⟨σ,rfl,h⟩
 | (o,q)::ops,σ,κ,h=>by
  obtain ⟨σ1,e1,h⟩:=ztf hc h
  split at h
  ·rename_i hq
   obtain ⟨σ2,e2,h⟩:=zuM hc h
   exact ⟨σ2,by simp only [zg7,e1,hq,if_true]; exact e2,h⟩
  ·cases h
theorem zxd {body:St→KT β→Option β} {bodyN:St→Option (Ex × St)} {norm:St→St} (hb:∀ σ K,body σ K=some r→∃ ex σ',bodyN σ=some (ex,σ')∧K ex σ'=some r):∀ (n:Nat) (σ:St) (K:KT β),xy body norm n (norm σ) K=some r→∃ ex σ',zie bodyN norm n σ=some (ex,σ')∧K ex σ'=some r
 | 0,σ,K,h=>by cases h
 | n+1,σ,K,h=>by
  obtain ⟨ex,σ1,e,h⟩:=hb _ _ h
  cases ex with
  | normal =>
   obtain ⟨ex,σ2,e2,h⟩:=zxd hb n σ1 K h
   exact ⟨ex,σ2,by simp only [zie,e]; exact e2,h⟩
  | exit j=>exact ⟨_,_,by simp only [zie,e],h⟩
  | ret=>exact ⟨_,_,by simp only [zie,e],h⟩
theorem zA6 {σ σ':St} {dst:Option Nat} {pin:Bool} {k:K} (h:xc (fun _ _ _=>none) nb σ dst pin k=some σ'):xc cb nb σ dst pin k=some σ':=by
 cases k with
 | call f args xs =>
  simp only [xc,zbH,Option.bind_eq_bind,Option.bind_eq_some_iff,Prod.exists] at h
  obtain ⟨_,_,_,_,_,_,h,_⟩:=h
  cases h
 | callv f args xs =>
  simp only [xc] at h
  split at h
  ·simp only [zbH,Option.bind_eq_bind,Option.bind_eq_some_iff,Prod.exists] at h
   obtain ⟨_,_,_,_,_,_,h,_⟩:=h
   cases h
  ·cases h
 | _=>exact h
theorem zuF {σ σ':St} {o:COp} (h:zn (fun _ _ _=>none) nb σ o=some σ'):zn cb nb σ o=some σ':=by
 unfold zn at h ⊢
 split at h
 ·exact zA6 h
 ·exact h
 ·cases h
theorem ztA:∀ {ops:List COp} {σ σ':St},zd2 (fun _ _ _=>none) nb ops σ=some σ'→zd2 cb nb ops σ=some σ'
 | [],σ,σ',h=>h
 | o::ops,σ,σ',h=>by
  simp only [zd2,Option.bind_eq_some_iff] at h ⊢
  obtain ⟨σ1,h1,h2⟩:=h
  exact ⟨σ1,zuF h1,ztA h2⟩
theorem zwg:∀ {ops:List (COp × Fl)} {σ σ':St},zg7 (fun _ _ _=>none) nb ops σ=some σ'→zg7 cb nb ops σ=some σ'
 | [],σ,σ',h=>h
 | (o,q)::ops,σ,σ',h=>by
  simp only [zg7] at h ⊢
  split at h
  ·rename_i σ1 h1
   rw [zuF h1]
   split at h
   ·rename_i hq
    simp only [hq,if_true]
    exact zwg h
   ·cases h
  ·cases h
theorem ztC:∀ (cc:CC) (σ:St) (r:Ex × St),run (fun _ _ _=>none) nb L cc σ=some r→run cb nb L cc σ=some r:=by
 intro cc
 induction cc with
 | skip=>intro σ r h; exact h
 | reg ops =>
  intro σ r h
  simp only [run,Option.map_eq_some_iff] at h ⊢
  obtain ⟨σ1,h1,h2⟩:=h
  exact ⟨σ1,ztA h1,h2⟩
 | dreg fz ops =>
  intro σ r h
  simp only [run,Option.map_eq_some_iff] at h ⊢
  obtain ⟨σ1,h1,h2⟩:=h
  exact ⟨σ1,zwg h1,h2⟩
 | seq a b iha ihb =>
  intro σ r h
  simp only [run] at h ⊢
  split at h
  ·rename_i σ1 h1
   rw [iha _ _ h1]
   exact ihb _ _ h
  ·rename_i hne
   obtain ⟨ex,σ1⟩:=r
   rw [iha _ _ h]
   cases ex with
   | normal=>exact absurd h (hne _)
   | exit j=>rfl
   | ret=>rfl
 | fork p s a b ihp iha ihb =>
  intro σ r h
  simp only [run] at h ⊢
  split at h
  ·rename_i σ1 h1
   rw [ihp _ _ h1]
   simp only
   split at h
   ·split at h
    ·rename_i hs
     obtain ⟨e,_⟩:=zsq hs
     rw [iha _ _ (e.trans h),ihb _ _ h]
     rw [e,h] at hs
     simp only [hs,if_true]
    ·cases h
   ·split at h
    ·split at h
     ·rename_i σ2 h2
      rw [iha _ _ h2]
      exact ihb _ _ h
     ·rename_i hne
      obtain ⟨ex,σ2⟩:=r
      rw [iha _ _ h]
      cases ex with
      | normal=>exact absurd h (hne _)
      | exit j=>rfl
      | ret=>rfl
    ·exact ihb _ _ h
    ·cases h
  ·rename_i hne
   obtain ⟨ex,σ1⟩:=r
   rw [ihp _ _ h]
   cases ex with
   | normal=>exact absurd h (hne _)
   | exit j=>rfl
   | ret=>rfl
 | cond s a b iha ihb =>
  intro σ r h
  simp only [run] at h ⊢
  split at h
  ·split at h
   ·rename_i hs
    have e:=zn6 hs
    rw [iha _ _ (e.trans h),ihb _ _ h]
    rw [e,h] at hs
    simp only [hs,if_true]
   ·cases h
  ·rename_i hne
   split at h
   ·rename_i t ht
    cases t with
    | true=>simp only [if_true] at h ⊢; exact iha _ _ h
    | false=>simp only [Bool.false_eq_true,if_false] at h ⊢; exact ihb _ _ h
   ·cases h
 | block id a ih =>
  intro σ r h
  simp only [run] at h ⊢
  cases ha:run (fun _ _ _=>none) nb L a σ with
  | none=>rw [ha] at h; cases h
  | some q=>rw [ha] at h; rw [ih _ _ ha]; exact h
 | loop kt kb a ih =>
  intro σ r h
  simp only [run] at h ⊢
  have key:∀ (n:Nat) (σ:St),zie (run (fun _ _ _=>none) nb L a) (yJ nb kt kb) n σ=some r→zie (run cb nb L a) (yJ nb kt kb) n σ=some r:=by
   intro n
   induction n with
   | zero=>intro σ h; cases h
   | succ n ihn =>
    intro σ h
    simp only [zie] at h ⊢
    cases ha:run (fun _ _ _=>none) nb L a (yJ nb kt kb σ) with
    | none=>rw [ha] at h; cases h
    | some q =>
     obtain ⟨ex,σ1⟩:=q
     rw [ha] at h
     rw [ih _ _ ha]
     cases ex with
     | normal=>exact ihn _ h
     | exit j=>exact h
     | ret=>exact h
  exact key L σ h
 | mask kt kb=>intro σ r h; exact h
 | exit id=>intro σ r h; exact h
 | ret=>intro σ r h; exact h
theorem zCT (hc:zii c cb):∀ (cc:CC) (σ:St) (K:KT β),zj sh c nb L cc σ K=some r→∃ ex σ',run cb nb L cc σ=some (ex,σ')∧K ex σ'=some r:=by
 intro cc
 induction cc with
 | skip=>intro σ K h; exact ⟨_,_,rfl,h⟩
 | reg ops =>
  intro σ K h
  obtain ⟨σ',e,h⟩:=zrG hc h
  exact ⟨_,σ',by simp only [run,e]; rfl,h⟩
 | dreg fz ops =>
  intro σ K h
  obtain ⟨σ',e,h⟩:=zuM hc (zeB nb fz σ _ h)
  exact ⟨_,σ',by simp only [run,e]; rfl,h⟩
 | seq a b iha ihb =>
  intro σ K h
  obtain ⟨ex,σ1,e,h⟩:=iha _ _ h
  cases ex with
  | normal =>
   obtain ⟨ex,σ2,e2,h⟩:=ihb _ _ h
   exact ⟨ex,σ2,by simp only [run,e]; exact e2,h⟩
  | exit j=>exact ⟨_,_,by simp only [run,e],h⟩
  | ret=>exact ⟨_,_,by simp only [run,e],h⟩
 | fork p s a b ihp iha ihb =>
  intro σ K h
  obtain ⟨ex,σ1,e,h⟩:=ihp _ _ h
  cases ex with
  | exit j=>exact ⟨_,_,by simp only [run,e],h⟩
  | ret=>exact ⟨_,_,by simp only [run,e],h⟩
  | normal =>
   simp only [xH] at h
   split at h
   ·rename_i hub
    split at h
    ·rename_i hsame
     unfold onR at h
     split at h
     ·rename_i ex σ2 e1
      obtain ⟨e0,_⟩:=zsq hsame
      have ra:=ztC (cb:=cb) _ _ _ (e0.trans e1)
      have rb:=ztC (cb:=cb) _ _ _ e1
      rw [e0,e1] at hsame
      refine ⟨ex,σ2,?_,h⟩
      simp only [run,e,hub,ra,rb,hsame,if_true]
     ·cases h
    ·cases h
   ·rename_i hne
    obtain ⟨t,et,h⟩:=zjA h
    rcases zeN h with ⟨rfl,h⟩ | ⟨rfl,h⟩
    ·obtain ⟨ex,σ2,e1,h⟩:=iha _ _ h
     cases ex with
     | normal =>
      obtain ⟨ex,σ3,e2,h⟩:=ihb _ _ h
      exact ⟨ex,σ3,by simp only [run,e,et,V.bool?,e1]; exact e2,h⟩
     | exit j=>exact ⟨_,_,by simp only [run,e,et,V.bool?,e1],h⟩
     | ret=>exact ⟨_,_,by simp only [run,e,et,V.bool?,e1],h⟩
    ·obtain ⟨ex,σ2,e1,h⟩:=ihb _ _ h
     exact ⟨ex,σ2,by simp only [run,e,et,V.bool?]; exact e1,h⟩
 | cond s a b iha ihb =>
  intro σ K h
  simp only [zj] at h
  split at h
  ·rename_i hub
   split at h
   ·rename_i hsame
    unfold onR at h
    split at h
    ·rename_i ex σ1 e1
     have e0:=zn6 hsame
     have ra:=ztC (cb:=cb) _ _ _ (e0.trans e1)
     have rb:=ztC (cb:=cb) _ _ _ e1
     rw [e0,e1] at hsame
     refine ⟨ex,σ1,?_,h⟩
     simp only [run,hub,ra,rb,hsame,if_true]
    ·cases h
   ·cases h
  ·rename_i hne
   obtain ⟨t,e,h⟩:=zjA h
   rcases zeN h with ⟨rfl,h⟩ | ⟨rfl,h⟩
   ·obtain ⟨ex,σ1,e1,h⟩:=iha _ _ h
    exact ⟨ex,σ1,by simp only [run,e,V.bool?,if_true]; exact e1,h⟩
   ·obtain ⟨ex,σ1,e1,h⟩:=ihb _ _ h
    exact ⟨ex,σ1,by simp only [run,e,V.bool?,Bool.false_eq_true,if_false]; exact e1,h⟩
 | block id a ih =>
  intro σ K h
  obtain ⟨ex,σ1,e,h⟩:=ih _ _ h
  cases ex with
  | normal=>exact ⟨_,_,by simp only [run,e],h⟩
  | exit j =>
   simp only [zr] at h
   split at h
   ·rename_i hj
    have hj:=Nat.eq_of_beq_eq_true hj
    exact ⟨_,_,by simp only [run,e,hj,if_true],h⟩
   ·rename_i hj
    have:j≠id:=Nat.ne_of_beq_eq_false hj
    exact ⟨_,_,by simp only [run,e,this,if_false],h⟩
  | ret=>exact ⟨_,_,by simp only [run,e],h⟩
 | loop kt kb a ih =>
  intro σ K h
  obtain ⟨ex,σ',e,h⟩:=zxd ih L σ K h
  exact ⟨ex,σ',by simp only [run]; exact e,h⟩
 | mask kt kb=>intro σ K h; exact ⟨_,_,rfl,h⟩
 | exit id=>intro σ K h; exact ⟨_,_,rfl,h⟩
 | ret=>intro σ K h; exact ⟨_,_,rfl,h⟩
theorem zsB {σ:St} {rv:RV} {k:V→Option β} (h:zkP nb σ rv k=some r):∃ v,yS nb σ rv=some v∧k v=some r:=by
 cases rv with
 | cellS t n p=>cases h
 | tmp t =>
  simp only [zkP] at h
  split at h
  ·rename_i id off len sz ht
   split at h
   ·rename_i hge
    have hge:=of_decide_eq_true hge
    split at h
    ·rename_i cs hb
     split at h
     ·rename_i hd
      have hd:=of_decide_eq_true hd
      obtain ⟨hl,h⟩:=zo h
      exact ⟨_,by simp only [yS,ht]; rw [if_pos hge,if_pos hd]; simp only [hb]; rw [if_pos hl],h⟩
     ·cases h
    ·cases h
   ·rename_i hge
    have hge:=of_decide_eq_false hge
    exact ⟨_,by simp only [yS,ht]; rw [if_neg hge],h⟩
  ·rename_i id off ht
   split at h
   ·rename_i p cs hb
    split at h
    ·rename_i hd
     have hd:=of_decide_eq_true hd
     obtain ⟨hl,h⟩:=zo h
     cases p with
     | true=>exact ⟨_,by simp only [yS,ht]; rw [if_pos hd]; simp only [hb]; rw [if_pos hl]; rfl,h⟩
     | false =>
      obtain ⟨vs,e,h⟩:=zm2 h
      exact ⟨_,by simp only [yS,ht]; rw [if_pos hd]; simp only [hb]; rw [if_pos hl]; simp only [Bool.false_eq_true,if_false,e,Option.map_some],h⟩
    ·cases h
   ·cases h
  ·split at h
   ·exact ⟨_,‹_›,h⟩
   ·cases h
 | tmpP t =>
  simp only [zkP] at h
  split at h
  ·rename_i id off len sz ht
   split at h
   ·rename_i hge
    have hge:=of_decide_eq_true hge
    split at h
    ·rename_i cs hb
     exact ⟨_,by simp only [yS,ht]; rw [if_pos hge]; simp only [hb],h⟩
    ·cases h
   ·cases h
  ·split at h
   ·exact ⟨_,‹_›,h⟩
   ·cases h
 | cell t agg n =>
  simp only [zkP] at h
  split at h
  ·rename_i id off ht
   split at h
   ·rename_i p cs hb
    cases agg with
    | true =>
     obtain ⟨hl,h⟩:=zo h
     cases p with
     | true=>exact ⟨_,by simp only [yS,ht,hb,if_true]; rw [if_pos hl],h⟩
     | false =>
      obtain ⟨vs,e,h⟩:=zm2 h
      exact ⟨_,by simp only [yS,ht,hb,if_true]; rw [if_pos hl]; simp only [Bool.false_eq_true,if_false,e,Option.map_some],h⟩
    | false =>
     simp only at h
     split at h
     ·rename_i hd
      have hd:=of_decide_eq_true hd
      obtain ⟨v,e,h⟩:=zgf h
      split at h
      ·rename_i v' hv
       exact ⟨_,by simp only [yS,ht,hb,Bool.false_eq_true,if_false,hd,and_self,if_true,e,Option.bind_some]; exact hv,h⟩
      ·cases h
     ·cases h
   ·cases h
  ·cases h
theorem zrN {σ:St}:∀ {rs:List RV} {k:List V→Option β},zsr nb σ rs k=some r→∃ vs,rs.mapM (yS nb σ)=some vs∧k vs=some r
 | [],k,h=>⟨[],rfl,h⟩
 | x::rs,k,h=>by
  obtain ⟨v,e,h⟩:=zsB h
  obtain ⟨vs,e2,h⟩:=zrN h
  exact ⟨v::vs,by simp [List.mapM_cons,e,e2],h⟩
theorem zxT {σ:St} {rs:List RV} {k:V→Option β} (h:zn5 nb σ rs k=some r):∃ v,results nb σ rs=some v∧k v=some r:=by
 unfold zn5 at h
 split at h
 ·rename_i hd
  split at h
  ·obtain ⟨v,e,h⟩:=zsB h
   exact ⟨v,by simp only [results,hd,if_true]; exact e,h⟩
  ·rename_i hne
   obtain ⟨vs,e,h⟩:=zrN h
   refine ⟨.tup vs,?_,h⟩
   simp only [results,hd,if_true,e,Option.map_some]
 ·cases h
theorem znn {b:List B} {ids:List Nat}:∀ {l:List Nat} {k:Bor→Option β},zpK b nb ids l k=some r→∃ bor,zjd b nb ids l=some bor∧k bor=some r
 | [],k,h=>⟨[],rfl,h⟩
 | id::l,k,h=>by
  simp only [zpK] at h
  split at h
  ·rename_i p cs hb
   cases p with
   | true =>
    obtain ⟨bor,e,h⟩:=znn (l:=l) h
    exact ⟨_,by simp only [zjd,hb,B.lend,B.isRow,Bool.true_or,Bool.or_true,Bool.and_self,if_true,e,Option.map_some,B.ren],h⟩
   | false =>
    simp only at h
    split at h
    ·rename_i hd
     obtain ⟨hl,h⟩:=zo h
     obtain ⟨bor,e,h⟩:=znn (l:=l) h
     exact ⟨_,by simp only [zjd,hb,B.lend,Bool.false_or,hl,hd,Bool.true_or,Bool.and_self,if_true,e,Option.map_some,B.ren,Bool.false_eq_true,if_false],h⟩
    ·cases h
  ·rename_i es hb
   split at h
   ·rename_i hd
    obtain ⟨bor,e,h⟩:=znn (l:=l) h
    exact ⟨_,by simp only [zjd,hb,B.lend,hd,Bool.true_or,Bool.and_self,if_true,e,Option.map_some,B.ren],h⟩
   ·cases h
  ·rename_i n hb
   split at h
   ·rename_i hd
    obtain ⟨bor,e,h⟩:=znn (l:=l) h
    exact ⟨_,by simp only [zjd,hb,B.lend,hd,Bool.true_or,Bool.and_self,if_true,e,Option.map_some,B.ren],h⟩
   ·cases h
  ·cases h
theorem zyb {σ:St} {rs:List RV} {k:V→Bor→Option β} (h:(match zfc σ.t.length rs σ with
  | some (σ,rs)=>zn5 nb σ rs fun v=>zpK σ.b nb (zcu nb v) (zcu nb v) fun b=>match zcT (zcu nb v) with
   | true=>k (zim (xA (zcu nb v)) v) b
   | false=>none
  | none=>none)=some r):∃ v b,znH nb σ rs=some (v,b)∧k v b=some r:=by
 split at h
 rotate_left
 ·cases h
 rename_i σ1 rs1 hu
 obtain ⟨v,e1,h⟩:=zxT h
 obtain ⟨b,e2,h⟩:=znn h
 split at h
 ·rename_i hd
  refine ⟨_,b,?_,h⟩
  simp only [znH,hu,zq4,e1,e2,Option.bind_eq_bind,Option.bind_some,hd,if_true,Option.pure_def]
 ·cases h
theorem zC0 {T:Nat→Option CF} {pr:CB} {d:Nat} {f:Nat} (hc:zii c (evF T pr L d)) {cf:CF} (hT:T f=some cf) {args:List V} {bor:Bor} {k:V→Bor→Option β} (h:yz sh c L cf args bor k=some r):∃ v b,evF T pr L (d+1) f args bor=some (v,b)∧k v b=some r:=by
 have h:zvG sh c L cf args bor k=some r:=by
  unfold yz at h
  split at h
  ·rename_i sz es rest _
   cases es with
   | nil=>exact h
   | cons a l=>exact h
  ·exact h
 obtain ⟨ex,σ',e,h⟩:=zCT hc _ _ _ h
 cases ex with
 | exit j=>cases h
 | normal =>
  obtain ⟨v,b,e1,h⟩:=zyb h
  exact ⟨v,b,by simp only [evF,hT,e,e1],h⟩
 | ret =>
  obtain ⟨v,b,e1,h⟩:=zyb h
  exact ⟨v,b,by simp only [evF,hT,e,e1],h⟩
def FOk (T:Nat→Option CF) (L g:Nat) (d:∀ (β:Type),List V→Bor→(V→Bor→Option β)→Option β) (D:Nat):Prop:=∀ n,D≤n→∀ (β:Type) (args:List V) (bor:Bor) (k:V→Bor→Option β) (r:β),d β args bor k=some r→∃ v b,evF T zoa L n g args bor=some (v,b)∧k v b=some r
theorem zS {cb:CB}:zii noC cb:=by
 intro β f args bor k r h; cases h
theorem zy {c:CBC} {cb:CB} (hc:zii c cb) {g:Nat} {d:∀ (β:Type),List V→Bor→(V→Bor→Option β)→Option β} (hd:∀ (β:Type) (args:List V) (bor:Bor) (k:V→Bor→Option β) (r:β),d β args bor k=some r→∃ v b,cb g args bor=some (v,b)∧k v b=some r):zii (xr g d c) cb:=by
 intro β f args bor k r h
 unfold xr at h
 split at h
 ·rename_i hf
  rw [Nat.eq_of_beq_eq_true hf]
  exact hd _ _ _ _ _ h
 ·exact hc _ _ _ _ _ _ h
theorem xR {T:Nat→Option CF} {L g:Nat} {cf:CF} (hT:T g=some cf) {d:∀ (β:Type),List V→Bor→(V→Bor→Option β)→Option β} {D:Nat}
  (h:∀ m,D≤m→∃ (sh:Nat→Sh) (c:CBC),zii c (evF T zoa L m)∧∀ (β:Type) (args:List V) (bor:Bor) (k:V→Bor→Option β) (r:β),d β args bor k=some r→yz sh c L cf args bor k=some r):FOk T L g d (D+1):=by
 intro n hn β args bor k r hr
 obtain ⟨m,rfl⟩:∃ m,n=m+1:=⟨n - 1,by omega⟩
 obtain ⟨sh,c,hc,hd⟩:=h m (by omega)
 exact zC0 hc hT (hd _ _ _ _ _ hr)
theorem zEj {β:Type} (sz:Nat) (l:List (List V)) (k:List (List V)→Option β):aL sz (.sl sz l) k=k l:=by show chk (sz=sz) (k l)=k l; rw [zgQ,if_pos rfl]
theorem zEu {β:Type} (l:List V) (k:List V→Option β):aG (.agg l) k=k l:=rfl
end
end
section
set_option linter.unusedVariables false
set_option linter.unusedSimpArgs false
section
variable {β:Type}
theorem xG {α:Type} (a:α) (k:α→Option β):lt a k=k a:=Eq.trans rfl rfl
theorem xl {p:Prop} {inst:Decidable p} (h:p) (k:Option β):@chk β p inst k=k:=(zgQ p k).trans (if_pos h)
theorem zlO {inst:Decidable True} (k:Option β):@chk β True inst k=k:=(zgQ True k).trans (if_pos trivial)
theorem zsu (a b:Option β):ifb true a b=a:=rfl
theorem zjs (a b:Option β):ifb false a b=b:=rfl
theorem zug {p:Prop} {inst:Decidable p} (a b:Option β):ifb (@decide p inst) a b=if p then a else b:=by
 by_cases h:p <;> simp [ifb,h]
theorem xJ {p:Prop} {inst:Decidable p} (h:p) (a b:Option β):ifb (@decide p inst) a b=a:=by rw [zug,if_pos h]
theorem yO {p:Prop} {inst:Decidable p} (h:¬ p) (a b:Option β):ifb (@decide p inst) a b=b:=by rw [zug,if_neg h]
theorem zxp {x y:Int} (h:x≠y) (a b:Option β):ifb (x == y) a b=b:=by rw [beq_eq_false_iff_ne.2 h]; rfl
theorem zkN {kd:IntKind} {cs:List V} {off:Nat} {n:Int} (h:cs[off]?=some (.sc (.int kd n))) (k:Int→Option β):cI kd cs off k=k n:=by
 simp [cI,zca,h,aI,zlO]
theorem ziR {sz:Nat} {cs:List V} {off:Nat} {es:List (List V)} (h:cs[off]?=some (.sl sz es)) (k:List (List V)→Option β):cL sz cs off k=k es:=by
 simp [cL,zca,h,aL,zlO]
theorem zog {sz:Nat} {cs:List V} {off:Nat} {es:List (List V)} (h:cs[off]?=some (.sl sz es)) (k:List (List V)→Option β):cLd sz cs off k=k es:=by
 simp [cLd,zca,h,aLd,zlO]
theorem zBY {es:List (List V)} {j:Int} {c:List V} (h0:0≤j) (h:es[j.toNat]?=some c) (k:List V→Option β):idx es j k=k c:=by
 simp [idx,h0,h,zlO]
theorem zdi {es:List (List V)} {j:Nat} {c:List V} (h:es[j]?=some c) (k:List V→Option β):idx es (j:Int) k=k c :=
 zBY (Int.natCast_nonneg j) (by simpa using h) k
end
theorem zbb {n:Int} (h1:-9223372036854775808≤n) (h2:n≤9223372036854775807):IntKind.wrap .i64 n=n:=IntWalk.i64_in _ ⟨h1,h2⟩
theorem zwt {k:IntKind} {n:Int} (hk:k.signed=false) (h1:0≤n) (h2:n < 2 ^ k.bits):IntKind.wrap k n=n:=by
 unfold IntKind.wrap
 simp only [hk,Bool.false_and,Bool.false_eq_true,if_false]
 exact Int.emod_eq_of_lt h1 h2
theorem zc6 {n:Int} (h1:0≤n) (h2:n≤18446744073709551615):IntKind.wrap .u64 n=n:=zwt rfl h1 (Int.lt_of_le_of_lt h2 (by decide))
theorem zr8 {n:Int} (h1:0≤n) (h2:n≤4294967295):IntKind.wrap .u32 n=n:=zwt rfl h1 (Int.lt_of_le_of_lt h2 (by decide))
theorem zBQ {n:Int} (h1:0≤n) (h2:n≤65535):IntKind.wrap .u16 n=n:=zwt rfl h1 (Int.lt_of_le_of_lt h2 (by decide))
theorem zDT {n:Int} (h:(Lit.int .i64 n).wf=true):-9223372036854775808≤n∧n≤9223372036854775807:=by
 simpa [Lit.wf,IntKind.min,IntKind.max,IntKind.signed,IntKind.bits] using h
theorem ztd {n:Int} (h:(Lit.int .u32 n).wf=true):0≤n∧n≤4294967295:=by
 simpa [Lit.wf,IntKind.min,IntKind.max,IntKind.signed,IntKind.bits] using h
theorem zyx {n:Int} (h:(Lit.int .u8 n).wf=true):0≤n∧n≤255:=by
 simpa [Lit.wf,IntKind.min,IntKind.max,IntKind.signed,IntKind.bits] using h
def xt (k:IntKind) (l:List Int):List (List V):=l.map fun n=>[.sc (.int k n)]
theorem yC (k:IntKind) (l:List Int):(xt k l).length=l.length:=by simp [xt]
theorem zAE (k:IntKind) (l:List Int) (i:Nat):(xt k l).drop i=xt k (l.drop i):=by simp [xt,List.map_drop]
theorem zAu (k:IntKind) (l:List Int) (i:Nat):(xt k l).take i=xt k (l.take i):=by simp [xt,List.map_take]
theorem zbO (k:IntKind) (l m:List Int):xt k l++xt k m=xt k (l++m):=by simp [xt]
theorem HasRow.int1 {k:IntKind} {e:List V} (h:HasRow [.int k] e):∃ n,e=[.sc (.int k n)]∧(Lit.int k n).wf=true:=by
 obtain ⟨h1,h2⟩:=h
 match e,h1 with
 | [v],_ =>
  obtain ⟨n,rfl,hn⟩:=(h2 0 v _ rfl rfl).int_inv
  exact ⟨n,rfl,hn⟩
theorem zui {k:IntKind}:∀ {es:List (List V)},(∀ e ∈ es,HasRow [.int k] e)→∃ l:List Int,es=xt k l∧∀ n ∈ l,(Lit.int k n).wf=true
 | [],_=>⟨[],rfl,by simp⟩
 | e::es,h=>by
  obtain ⟨n,rfl,hn⟩:=(h e (by simp)).int1
  obtain ⟨l,rfl,hl⟩:=zui (es:=es) (fun x hx=>h x (by simp [hx]))
  exact ⟨n::l,rfl,by simpa [hn] using hl⟩
def row (k:IntKind) (l:List Int):List V:=l.map fun n=>.sc (.int k n)
theorem yA (k:IntKind) (l:List Int):(row k l).length=l.length:=by simp [row]
theorem zAw {k:IntKind}:∀ {n:Nat} {vs:List V},HasRow (List.replicate n (.int k)) vs→∃ l:List Int,vs=row k l∧l.length=n∧∀ x ∈ l,(Lit.int k x).wf=true
 | 0,vs,h=>by
  have:vs=[]:=List.length_eq_zero_iff.1 (by simpa using h.1)
  subst this
  exact ⟨[],rfl,rfl,by simp⟩
 | n+1,[],h=>by have:=h.1; simp at this
 | n+1,v::vs,h=>by
  obtain ⟨x,rfl,hx⟩:=(h.2 0 v (.int k) rfl (by simp [List.replicate_succ])).int_inv
  obtain ⟨l,rfl,hl,hw⟩:=zAw (n:=n) (vs:=vs) ⟨by have:=h.1; simpa using this,fun i c ct hc hct=>h.2 (i+1) c ct (by simpa using hc) (by simpa [List.replicate_succ] using hct)⟩
  exact ⟨x::l,rfl,by simp [hl],by simpa [hx] using hw⟩
theorem zoI (k:IntKind):∀ (n:Nat) (l:List Int),n≤l.length→yf 1 n (row k l)=xt k (l.take n)
 | 0,l,_=>by simp [yf,xt]
 | n+1,[],h=>by simp at h
 | n+1,x::l,h=>by
  have:=zoI k n l (by simpa using h)
  simp only [row] at this
  simp [yf,row,xt,this]
theorem zBk (k:IntKind) (l:List Int) (i:Nat):(row k l).drop i=row k (l.drop i):=by simp [row,List.map_drop]
end
section
set_option linter.unusedVariables false
set_option linter.unusedSimpArgs false
theorem zei {cs new:List V} (h:new.length=cs.length):xk cs 0 new=new:=by
 simp [xk,h]
theorem zzQ {cs:List V} {off:Nat} {v:V} (h:off < cs.length):xk cs off [v]=cs.set off v:=by
 simp only [xk,List.length_singleton]
 rw [List.set_eq_take_append_cons_drop,if_pos h]
 simp
theorem zrI {sz:Nat}:∀ {es:List (List V)},(∀ e ∈ es,e.length=sz)→yf sz es.length es.flatten=es
 | [],_=>rfl
 | e::es,h=>by
  have he:=h e (by simp)
  have:=zrI (es:=es) (fun x hx=>h x (by simp [hx]))
  simp only [List.length_cons,yf,List.flatten_cons]
  rw [List.take_append_of_le_length (by omega),List.take_of_length_le (by omega),List.drop_append_of_le_length (by omega),List.drop_of_length_le (by omega),List.nil_append,this]
theorem zA8 {sz:Nat} {es:List (List V)} (h:∀ e ∈ es,e.length=sz):es.flatten.length=es.length * sz:=yI h
theorem zpT (k:IntKind):∀ (l m:List Int),l.length=m.length→zcP (row k l) (row k m)=some (decide (l=m))
 | [],[],_=>rfl
 | x::l,y::m,h=>by
  have:=zpT k l m (by simpa using h)
  simp only [row] at this
  simp only [row,List.map_cons,zcP,if_true,this,Option.map_some]
  congr 1
  by_cases h1:x=y <;> by_cases h2:l=m <;> simp [h1,h2]
theorem zCR {β:Type} (k:IntKind) {n:Nat} {l m:List Int} (h1:l.length=n) (h2:m.length=n) (κ:Bool→Option β):eqC n (row k l) (row k m) κ=κ (decide (l=m)):=by
 simp only [eqC,yA,h1,h2,and_self,zlO,zpT k l m (by omega)]
theorem zht {β:Type} (x y:Int) (a b:Option β):ifb (x != y) a b=if x=y then b else a:=by
 by_cases h:x=y
 ·subst h; simp [ifb]
 ·rw [bne_iff_ne.2 h,if_neg h]; rfl
end
section
set_option linter.unusedVariables false
set_option linter.unusedSimpArgs false
def zeu (w:List (List Int)):List (List V):=w.map fun b=>[V.sl 1 (xt .u8 b)]
structure Inp where
 pv:List Int
 seq:Int
 wit:List (List Int)
structure Outp where
 val:Int
 scr:List Int
structure TxT where
 ver:Int
 ins:List Inp
 outs:List Outp
 lock:Int
def zas (x:Inp):List V:=[V.sc (.int .u8 (x.pv.getD 0 0)),V.sc (.int .u8 (x.pv.getD 1 0)),V.sc (.int .u8 (x.pv.getD 2 0)),V.sc (.int .u8 (x.pv.getD 3 0)),V.sc (.int .u8 (x.pv.getD 4 0)),V.sc (.int .u8 (x.pv.getD 5 0)),V.sc (.int .u8 (x.pv.getD 6 0)),V.sc (.int .u8 (x.pv.getD 7 0)),V.sc (.int .u8 (x.pv.getD 8 0)),V.sc (.int .u8 (x.pv.getD 9 0)),V.sc (.int .u8 (x.pv.getD 10 0)),V.sc (.int .u8 (x.pv.getD 11 0)),V.sc (.int .u8 (x.pv.getD 12 0)),V.sc (.int .u8 (x.pv.getD 13 0)),V.sc (.int .u8 (x.pv.getD 14 0)),V.sc (.int .u8 (x.pv.getD 15 0)),V.sc (.int .u8 (x.pv.getD 16 0)),V.sc (.int .u8 (x.pv.getD 17 0)),V.sc (.int .u8 (x.pv.getD 18 0)),V.sc (.int .u8 (x.pv.getD 19 0)),V.sc (.int .u8 (x.pv.getD 20 0)),V.sc (.int .u8 (x.pv.getD 21 0)),V.sc (.int .u8 (x.pv.getD 22 0)),V.sc (.int .u8 (x.pv.getD 23 0)),V.sc (.int .u8 (x.pv.getD 24 0)),V.sc (.int .u8 (x.pv.getD 25 0)),V.sc (.int .u8 (x.pv.getD 26 0)),V.sc (.int .u8 (x.pv.getD 27 0)),V.sc (.int .u8 (x.pv.getD 28 0)),V.sc (.int .u8 (x.pv.getD 29 0)),V.sc (.int .u8 (x.pv.getD 30 0)),V.sc (.int .u8 (x.pv.getD 31 0)),V.sc (.int .u32 (x.pv.getD 32 0)),V.sc (.int .u32 x.seq),V.sl 1 (zeu x.wit)]
def zdh (o:Outp):List V:=[V.sc (.int .i64 o.val),V.sl 1 (xt .u8 o.scr)]
def zc2 (t:TxT):List V:=[V.sc (.int .u32 t.ver),V.sl 35 (t.ins.map zas),V.sl 2 (t.outs.map zdh),V.sc (.int .u32 t.lock)]
section
variable {β:Type}
theorem zod (x:Inp) (k:Int→Option β):cI .u32 (zas x) 33 k=k x.seq:=zkN rfl k
theorem zus (x:Outp) (k:Int→Option β):cI .i64 (zdh x) 0 k=k x.val:=zkN rfl k
theorem zqU (x:TxT) (k:Int→Option β):cI .u32 (zc2 x) 0 k=k x.ver:=zkN rfl k
theorem zC4 (x:TxT) (k:List (List V)→Option β):cL 35 (zc2 x) 1 k=k (x.ins.map zas):=ziR rfl k
theorem zDb (x:TxT) (k:List (List V)→Option β):cL 2 (zc2 x) 2 k=k (x.outs.map zdh):=ziR rfl k
theorem zkS (x:TxT) (k:Int→Option β):cI .u32 (zc2 x) 3 k=k x.lock:=zkN rfl k
end
theorem zhd (x:Inp):(zas x).length=35:=by simp [zas]
theorem zjM (x:Inp):List.take 35 (zas x)=zas x:=by simp [zas]
theorem zvO (x:Outp):(zdh x).length=2:=by simp [zdh]
theorem zmn (x:Outp):List.take 2 (zdh x)=zdh x:=by simp [zdh]
theorem zi0 (x:TxT):(zc2 x).length=4:=by simp [zc2]
theorem zBD (x:TxT):[V.sc (.int .u32 x.ver),V.sl 35 (x.ins.map zas),V.sl 2 (x.outs.map zdh),V.sc (.int .u32 x.lock)]=zc2 x:=(by simp [zc2])
def zbe (l:List Int):Prop:=∀ n ∈ l,0≤n∧n≤255
structure InpOk (x:Inp):Prop where
 pv:x.pv.length=33
 by_:∀ j,j < 32→0≤x.pv.getD j 0∧x.pv.getD j 0≤255
 ix:0≤x.pv.getD 32 0∧x.pv.getD 32 0≤4294967295
 seq:0≤x.seq∧x.seq≤4294967295
 wit:∀ b ∈ x.wit,zbe b∧b.length≤maxLen
 wl:x.wit.length≤maxLen
structure OutpOk (x:Outp):Prop where
 val:-9223372036854775808≤x.val∧x.val≤9223372036854775807
 scr:zbe x.scr
 sl:x.scr.length≤maxLen
structure TxOk (t:TxT):Prop where
 ver:0≤t.ver∧t.ver≤4294967295
 lock:0≤t.lock∧t.lock≤4294967295
 ins:∀ x ∈ t.ins,InpOk x
 outs:∀ x ∈ t.outs,OutpOk x
 il:t.ins.length≤maxLen
 ol:t.outs.length≤maxLen
theorem HasRow.tail {ct:CT} {cts:List CT} {vs:List V} (h:HasRow (ct::cts) vs):∃ v r,vs=v::r∧HasC ct v∧HasRow cts r:=by
 cases vs with
 | nil=>have:=h.1; simp at this
 | cons v r=>exact ⟨v,r,rfl,h.2 0 v ct rfl rfl,⟨by simpa using h.1,fun i c ct hc hct=>h.2 (i+1) c ct (by simpa using hc) (by simpa using hct)⟩⟩
theorem HasRow.nil {vs:List V} (h:HasRow [] vs):vs=[]:=List.length_eq_zero_iff.1 (by simpa using h.1)
theorem zsA:∀ {es:List (List V)},(∀ e ∈ es,HasRow [.sl [.int .u8]] e)→∃ w:List (List Int),es=zeu w∧∀ b ∈ w,zbe b∧b.length≤maxLen
 | [],_=>⟨[],rfl,by simp⟩
 | e::es,h=>by
  obtain ⟨v,r,rfl,h1,h2⟩:=(h e (by simp)).tail
  obtain rfl:=h2.nil
  obtain ⟨xs,rfl,hl,hx⟩:=h1.sl_inv
  obtain ⟨l,rfl,hw⟩:=zui hx
  obtain ⟨w,rfl,hw'⟩:=zsA (es:=es) (fun x hx=>h x (by simp [hx]))
  refine ⟨l::w,rfl,fun b hb=>?_⟩
  rcases List.mem_cons.1 hb with rfl | hb
  ·exact ⟨fun n hn=>zyx (hw n hn),by simpa [xt] using hl⟩
  ·exact hw' b hb
theorem zyh:∀ {es:List (List V)},(∀ e ∈ es,HasRow [.int .i64,.sl [.int .u8]] e)→∃ w:List Outp,es=w.map zdh∧∀ b ∈ w,OutpOk b
 | [],_=>⟨[],rfl,by simp⟩
 | e::es,h=>by
  obtain ⟨v,r,rfl,h1,h2⟩:=(h e (by simp)).tail
  obtain ⟨v2,r2,rfl,h3,h4⟩:=h2.tail
  obtain rfl:=h4.nil
  obtain ⟨n,rfl,hn⟩:=h1.int_inv
  obtain ⟨xs,rfl,hl,hx⟩:=h3.sl_inv
  obtain ⟨l,rfl,hw⟩:=zui hx
  obtain ⟨w,rfl,hw'⟩:=zyh (es:=es) (fun x hx=>h x (by simp [hx]))
  refine ⟨⟨n,l⟩::w,rfl,fun b hb=>?_⟩
  rcases List.mem_cons.1 hb with rfl | hb
  ·exact ⟨zDT hn,fun n hn=>zyx (hw n hn),by simpa [xt] using hl⟩
  ·exact hw' b hb
theorem zAB {a b:List CT} {vs:List V} (h:HasRow (a++b) vs):∃ r s,vs=r++s∧HasRow a r∧HasRow b s:=by
 refine ⟨vs.take a.length,vs.drop a.length,(List.take_append_drop _ _).symm,⟨?_,fun i c ct hc hct=>?_⟩,⟨?_,fun i c ct hc hct=>?_⟩⟩
 ·have:=h.1; simp at this ⊢; omega
 ·have hi:i < a.length:=(List.getElem?_eq_some_iff.1 hct).1
  refine h.2 i c ct ?_ (by rw [List.getElem?_append_left hi]; exact hct)
  rw [List.getElem?_take,if_pos hi] at hc; exact hc
 ·have:=h.1; simp at this ⊢; omega
 ·refine h.2 (a.length+i) c ct (by rw [List.getElem?_drop] at hc; exact hc) ?_
  rw [List.getElem?_append_right (by omega)]; simpa using hct
theorem zxE {l:List Int} (hl:l.length=32) (i s:Int) (w:List (List Int)):row .u8 l++[V.sc (.int .u32 i),V.sc (.int .u32 s),V.sl 1 (zeu w)]=zas ⟨l++[i],s,w⟩:=by
 match l,hl with
 | [x0,x1,x2,x3,x4,x5,x6,x7,x8,x9,x10,x11,x12,x13,x14,x15,x16,x17,x18,x19,x20,x21,x22,x23,x24,x25,x26,x27,x28,x29,x30,x31],_=>rfl
theorem zAs:∀ {es:List (List V)},(∀ e ∈ es,HasRow (List.replicate 32 (.int .u8)++[.int .u32,.int .u32,.sl [.sl [.int .u8]]]) e)→∃ w:List Inp,es=w.map zas∧∀ b ∈ w,InpOk b
 | [],_=>⟨[],rfl,by simp⟩
 | e::es,h=>by
  obtain ⟨r,s,rfl,h1,h2⟩:=zAB (h e (by simp))
  obtain ⟨l,rfl,hl,hw⟩:=zAw h1
  obtain ⟨v1,r1,rfl,g1,h2⟩:=h2.tail
  obtain ⟨v2,r2,rfl,g2,h2⟩:=h2.tail
  obtain ⟨v3,r3,rfl,g3,h2⟩:=h2.tail
  obtain rfl:=h2.nil
  obtain ⟨i,rfl,hi⟩:=g1.int_inv
  obtain ⟨q,rfl,hq⟩:=g2.int_inv
  obtain ⟨xs,rfl,hxl,hx⟩:=g3.sl_inv
  obtain ⟨wt,rfl,hwt⟩:=zsA hx
  obtain ⟨w,rfl,hw'⟩:=zAs (es:=es) (fun x hx=>h x (by simp [hx]))
  refine ⟨⟨l++[i],q,wt⟩::w,by rw [List.map_cons,← zxE hl]; rfl,fun b hb=>?_⟩
  rcases List.mem_cons.1 hb with rfl | hb
  ·refine ⟨by simp [hl],fun j hj=>?_,?_,ztd hq,hwt,by simpa [zeu] using hxl⟩
   ·have:(l++[i]).getD j 0=l[j]'(by omega):=by
     rw [List.getD_eq_getElem?_getD,List.getElem?_append_left (by omega),List.getElem?_eq_getElem (by omega)]; rfl
    show 0≤(l++[i]).getD j 0∧(l++[i]).getD j 0≤255
    rw [this]; exact zyx (hw _ (List.getElem_mem _))
   ·have:(l++[i]).getD 32 0=i:=by
     rw [List.getD_eq_getElem?_getD,List.getElem?_append_right (by omega),hl]; rfl
    show 0≤(l++[i]).getD 32 0∧(l++[i]).getD 32 0≤4294967295
    rw [this]; exact ztd hi
  ·exact hw' b hb
theorem zEr {a:List V} (h:HasRow ([.int .u32]++[.sl (List.replicate 32 (.int .u8)++List.replicate 2 (.int .u32)++[.sl ([.sl ([.int .u8])])])]++[.sl ([.int .i64]++[.sl ([.int .u8])])]++[.int .u32]) a):∃ t,a=zc2 t∧TxOk t:=by
 obtain ⟨v1,r1,rfl,g1,h⟩:=h.tail
 obtain ⟨v2,r2,rfl,g2,h⟩:=h.tail
 obtain ⟨v3,r3,rfl,g3,h⟩:=h.tail
 obtain ⟨v4,r4,rfl,g4,h⟩:=h.tail
 obtain rfl:=h.nil
 obtain ⟨n,rfl,hn⟩:=g1.int_inv
 obtain ⟨m,rfl,hm⟩:=g4.int_inv
 obtain ⟨xs,rfl,hxl,hx⟩:=g2.sl_inv
 obtain ⟨ys,rfl,hyl,hy⟩:=g3.sl_inv
 obtain ⟨is,rfl,his⟩:=zAs (fun e he=>by
  have:=hx e he
  rw [List.append_assoc] at this
  exact this)
 obtain ⟨os,rfl,hos⟩:=zyh (fun e he=>hy e he)
 exact ⟨⟨n,is,os,m⟩,rfl,⟨ztd hn,ztd hm,his,hos,by simpa using hxl,by simpa using hyl⟩⟩
end
end Go.Proofs.YtoeobffjdbdpgaaDoor
