/- Part 11 of the proof of RelayFluffs: an abstract machine over plain values, its soundness, and the functions of the program on plain values. -/
import Derived.ProofKit
import Derived.OpenShut
import Derived.ChangeOld
import Derived.Deep.Slices
import Derived.SizedLaws
import Derived.Test.YtpbbfpfmdckclaaMRelayFluffs10
namespace Go.Proofs.Ytpbbfpfmdckclaa
section
open Go.ChangeShapes Go.WideShapes Go.RowKit Go.Deep
set_option linter.unusedVariables false
set_option linter.unusedSimpArgs false
inductive CT where
 | int (k:IntKind)
 | bool
 | str
 | sl (cs:List CT)
inductive HasC:CT→V→Prop
 | int (k:IntKind) (n:Int) (h:(Lit.int k n).wf=true):HasC (.int k) (.sc (.int k n))
 | bool (b:Bool):HasC .bool (.sc (.bool b))
 | str (s:ByteArray) (h:s.size≤maxLen):HasC .str (.sc (.string s))
 | sl (cs:List CT) (es:List (List V)) (hl:es.length≤maxLen) (h0:∀ e ∈ es,e.length=cs.length) (h:∀ e ∈ es,∀ (i:Nat) (c:V) (ct:CT),e[i]?=some c→cs[i]?=some ct→HasC ct c):HasC (.sl cs) (.sl cs.length es)
def HasRow (cts:List CT) (vs:List V):Prop:=vs.length=cts.length∧∀ (i:Nat) (c:V) (ct:CT),vs[i]?=some c→cts[i]?=some ct→HasC ct c
def zry (f:TypeId→Option (List CT)) (size:TypeId→Nat):List Field→Nat→Option (List CT)
 | [],_=>some []
 | x::xs,off=>do
  let a ← f x.type
  if x.offset=off∧size x.type=a.length then
   let b ← zry f size xs (off+a.length)
   some (a++b)
  else none
def zly (P:Program):Nat→TypeId→Option (List CT)
 | 0,_=>none
 | d+1,t=>match P.underlying t with
  | some .bool=>some [.bool]
  | some (.int k)=>some [.int k]
  | some .string=>some [.str]
  | some (.slice e)=>do
   let c ← zly P d e
   if P.cellsOf e=c.length∧0 < c.length then some [.sl c] else none
  | some (.array n e)=>do
   let c ← zly P d e
   if P.cellsOf e=c.length∧P.cellsOf t=n * c.length then some (List.replicate n c).flatten else none
  | some (.struct fs)=>do
   let c ← zry (zly P d) P.cellsOf fs.toList 0
   if P.cellsOf t=c.length then some c else none
  | _=>none
section
variable {H:Type} {enc:TypeId × Value→H} {P:Program} {w:World} {base:Nat} {spare:Nat→Bool} {held:Bool} {ren:Rn}
def RdC (ren:Rn) (w:World) (cts:List CT) (cs:List Value) (vs:List V):Prop :=
 cs.length=cts.length∧vs.length=cts.length∧∀ (i:Nat) (u:Value) (v:V) (ct:CT),cs[i]?=some u→vs[i]?=some v→cts[i]?=some ct→u.oneCell'=true∧RepP ren w zif v u∧HasC ct v
theorem RdC.one {ct:CT} {u:Value} {v:V} (h1:u.oneCell'=true) (h2:RepP ren w zif v u) (h3:HasC ct v):RdC ren w [ct] [u] [v]:=by
 refine ⟨rfl,rfl,fun i u' v' ct' hu hv hc=>?_⟩
 cases i with
 | zero=>simp at hu hv hc; subst hu; subst hv; subst hc; exact ⟨h1,h2,h3⟩
 | succ i=>simp at hu
theorem RdC.nil:RdC ren w [] [] []:=⟨rfl,rfl,fun i u v ct h=>by simp at h⟩
theorem RdC.app {c1 c2:List CT} {a1 a2:List Value} {b1 b2:List V} (h1:RdC ren w c1 a1 b1) (h2:RdC ren w c2 a2 b2):RdC ren w (c1++c2) (a1++a2) (b1++b2):=by
 obtain ⟨l1,m1,q1⟩:=h1
 obtain ⟨l2,m2,q2⟩:=h2
 refine ⟨by simp [l1,l2],by simp [m1,m2],fun i u v ct hu hv hc=>?_⟩
 by_cases hi:i < c1.length
 ·rw [List.getElem?_append_left (by omega)] at hu hv hc
  exact q1 i u v ct hu hv hc
 ·rw [List.getElem?_append_right (by omega)] at hu hv hc
  rw [l1] at hu; rw [m1] at hv
  exact q2 _ u v ct hu hv hc
theorem RdC.row {cts:List CT} {cs:List Value} {vs:List V} (h:RdC ren w cts cs vs):HasRow cts vs:=by
 refine ⟨h.2.1,fun i c ct hc ht=>?_⟩
 have hlt:i < cs.length:=by rw [h.1,← h.2.1]; exact (List.getElem?_eq_some_iff.1 hc).1
 exact (h.2.2 i _ c ct (List.getElem?_eq_getElem hlt) hc ht).2.2
theorem zqC {f:TypeId→Option (List CT)} {size:TypeId→Nat} {cs:List Value} (rd:∀ (t:TypeId) (cts:List CT),f t=some cts→∀ x ∈ ([]:List Nat),True) :
  ∀ (fs:List Field) (off:Nat) (cts:List CT),zry f size fs off=some cts→(∀ x ∈ fs,∀ a,f x.type=some a→∃ vs,RdC ren w a ((cs.drop x.offset).take (size x.type)) vs)→∃ vs,RdC ren w cts ((cs.drop off).take cts.length) vs
 | [],off,cts,h,_=>by
  cases h
  exact ⟨[],by simpa using RdC.nil⟩
 | x::xs,off,cts,h,H=>by
  simp only [zry,Option.bind_eq_bind,Option.bind_eq_some_iff] at h
  obtain ⟨a,ha,h⟩:=h
  split at h
  ·rename_i hc
   simp only [Option.bind_eq_some_iff,Option.some.injEq] at h
   obtain ⟨b,hb,rfl⟩:=h
   obtain ⟨vs1,r1⟩:=H x (by simp) a ha
   obtain ⟨vs2,r2⟩:=zqC rd xs _ b hb (fun y hy=>H y (by simp [hy]))
   refine ⟨vs1++vs2,?_⟩
   have e:(cs.drop off).take (a++b).length=(cs.drop x.offset).take (size x.type)++(cs.drop (off+a.length)).take b.length:=by
    rw [hc.1,hc.2,List.length_append,List.take_add,List.drop_drop]
   rw [e]
   exact r1.app r2
  ·cases h
theorem zsk {cs:List Value} {c:List CT}:∀ (n m:Nat),(∀ i,i < n→∃ vs,RdC ren w c ((cs.drop ((m+i) * c.length)).take c.length) vs)→∃ vs,RdC ren w (List.replicate n c).flatten ((cs.drop (m * c.length)).take (n * c.length)) vs
 | 0,m,H=>⟨[],by simpa using RdC.nil⟩
 | n+1,m,H=>by
  obtain ⟨vs1,r1⟩:=H 0 (by omega)
  obtain ⟨vs2,r2⟩:=zsk n (m+1) (fun i hi=>by
   obtain ⟨vs,r⟩:=H (i+1) (by omega)
   exact ⟨vs,by rw [show m+1+i=m+(i+1) by omega]; exact r⟩)
  refine ⟨vs1++vs2,?_⟩
  have e:(cs.drop (m * c.length)).take ((n+1) * c.length)=(cs.drop ((m+0) * c.length)).take c.length++(cs.drop ((m+1) * c.length)).take (n * c.length):=by
   rw [Nat.add_zero,Nat.add_mul n,Nat.one_mul,Nat.add_comm (n * c.length),List.take_add,List.drop_drop,show (m+1) * c.length=m * c.length+c.length by rw [Nat.add_mul,Nat.one_mul]]
   rw [show m+0=m from rfl]
  rw [e,List.replicate_succ,List.flatten_cons]
  exact r1.app r2
theorem zwC {α:Type} {n:Nat}:∀ (es:List (List α)),(∀ e ∈ es,e.length=n)→0 < n→∀ (i:Nat),es.flatten[i]?=(es[i / n]?).bind (fun e=>e[i % n]?)
 | [],_,_,i=>by simp
 | e::es,h,hn,i=>by
  have he:=h e (by simp)
  rw [List.flatten_cons]
  by_cases hi:i < n
  ·rw [List.getElem?_append_left (by omega),Nat.div_eq_of_lt hi,Nat.mod_eq_of_lt hi]; simp
  ·rw [List.getElem?_append_right (by omega),zwC es (fun x hx=>h x (by simp [hx])) hn,he]
   obtain ⟨j,rfl⟩:∃ j,i=j+n:=⟨i - n,by omega⟩
   rw [Nat.add_sub_cancel,Nat.add_div_right _ hn,Nat.add_mod_right]
   simp
theorem znj:∀ (d:Nat) (t:TypeId) (cts:List CT),zly P d t=some cts→∀ (fuel:Nat) (cs:List Value) (x:DataW H × List MemPlace),DataW.trod enc P w base spare held fuel t cs=some x→∃ vs,RdC ren w cts cs vs
 | 0,t,cts,h,fuel,cs,x,hx=>by cases h
 | d+1,t,cts,h,fuel,cs,x,hx=>by
  unfold zly at h
  split at h
  ·rename_i ht
   cases h
   obtain ⟨b,rfl,_⟩:=DataW.trod_bool ht hx
   exact ⟨[.sc (.bool b)],.one rfl (.sc _ rfl) (.bool b)⟩
  ·rename_i k ht
   cases h
   obtain ⟨n,rfl,_,hw⟩:=DataW.trod_int ht hx
   exact ⟨[.sc (.int k n)],.one rfl (.sc _ rfl) (.int k n hw)⟩
  ·rename_i ht
   cases h
   obtain ⟨s,rfl,_,hw⟩:=DataW.trod_string ht hx
   exact ⟨[.sc (.string s)],.one rfl (.sc _ rfl) (.str s hw)⟩
  ·rename_i e ht
   simp only [Option.bind_eq_bind,Option.bind_eq_some_iff] at h
   obtain ⟨c,hc,h⟩:=h
   split at h
   ·rename_i hsz
    obtain ⟨hsz,hpos⟩:=hsz
    cases h
    rcases open_slice ht hx with ⟨rfl,_⟩ | ⟨a,len,cap,m,n,D,Pl,rfl,_,hl,hm,hmm,_,hi⟩
    ·refine ⟨[.sl c.length []],.one rfl (.sl _ [] none 0 (fun _=>undef) (Nat.le_refl _) (by simp) 0 0 (by simp) (by simp) (by simp) (by simp)) (.sl c [] (by simp) (by simp) (by simp))⟩
    ·have hlm:len≤m:=by rw [hmm]; split <;> omega
     have each:∀ i,i < len→∃ (us:List Value) (vs:List V),RdC ren w c us vs∧∀ j,j < c.length→w.cell? ((a.add (i * c.length)).add j)=us[j]?:=by
      intro i hil
      obtain ⟨cs',h1,h2⟩:=hi i (by omega)
      rw [hsz] at h1
      obtain ⟨_,hcl,hat⟩:=World.cells?_some h1
      obtain ⟨vs,r⟩:=znj d e c hc _ _ _ h2
      exact ⟨cs',vs,r,hat⟩
     have hex:∃ (us:Nat→List Value) (vs:Nat→List V),∀ i,i < len→RdC ren w c (us i) (vs i)∧∀ j,j < c.length→w.cell? ((a.add (i * c.length)).add j)=(us i)[j]?:=by
      have:∀ i,∃ p:List Value × List V,i < len→RdC ren w c p.1 p.2∧∀ j,j < c.length→w.cell? ((a.add (i * c.length)).add j)=p.1[j]?:=by
       intro i
       by_cases hil:i < len
       ·obtain ⟨us,vs,q⟩:=each i hil; exact ⟨(us,vs),fun _=>q⟩
       ·exact ⟨([],[]),fun h=>absurd h hil⟩
      refine ⟨fun i=>(Classical.choose (this i)).1,fun i=>(Classical.choose (this i)).2,fun i hil=>Classical.choose_spec (this i) hil⟩
     obtain ⟨us,vs,hrow⟩:=hex
     have hget:∀ i,i < len→((List.range len).map vs)[i]?=some (vs i):=fun i hil=>by simp [hil]
     have hsz2:∀ e ∈ (List.range len).map vs,e.length=c.length:=by
      intro e he
      obtain ⟨i,hil,rfl⟩:=List.mem_map.1 he
      exact (hrow i (List.mem_range.1 hil)).1.2.1
     have cell:∀ (i:Nat) (v:V),((List.range len).map vs).flatten[i]?=some v→0 < c.length∧i / c.length < len∧(vs (i / c.length))[i % c.length]?=some v∧∃ u,(us (i / c.length))[i % c.length]?=some u∧u.oneCell'=true∧RepP ren w zif v u∧w.cell? ((a.add (i / c.length * c.length)).add (i % c.length))=some u:=by
      intro i v hv
      have hpos:0 < c.length:=by
       rcases Nat.eq_zero_or_pos c.length with h0 | h0
       ·have:((List.range len).map vs).flatten=[]:=by
         rw [List.flatten_eq_nil_iff]
         intro l hl'
         exact List.length_eq_zero_iff.1 ((hsz2 l hl').trans h0)
        rw [this] at hv; simp at hv
       ·exact h0
      rw [zwC _ hsz2 hpos] at hv
      have hlt:i / c.length < len:=by
       cases hq:((List.range len).map vs)[i / c.length]? with
       | none=>rw [hq] at hv; simp at hv
       | some e=>have:=(List.getElem?_eq_some_iff.1 hq).1; simpa using this
      rw [hget _ hlt] at hv
      have hv:(vs (i / c.length))[i % c.length]?=some v:=hv
      have hr:=hrow _ hlt
      have hm:=Nat.mod_lt i hpos
      have hu:(us (i / c.length))[i % c.length]?=some ((us (i / c.length))[i % c.length]'(by rw [hr.1.1]; exact hm)):=List.getElem?_eq_getElem _
      obtain ⟨q1,q2,q3⟩:=hr.1.2.2 _ _ _ _ hu hv (List.getElem?_eq_getElem hm)
      exact ⟨hpos,hlt,hv,_,hu,q1,q2,by rw [hr.2 _ hm]; exact hu⟩
     have spot:((List.range len).map vs).flatten≠[]→a.spot=none:=by
      intro hne
      have hl0:0 < ((List.range len).map vs).flatten.length:=List.length_pos_iff.2 hne
      obtain ⟨_,_,_,u,_,_,_,hcell⟩:=cell 0 _ (List.getElem?_eq_getElem hl0)
      have hcell:w.cell? a=some u:=by simpa [Addr.add] using hcell
      unfold World.cell? at hcell
      split at hcell
      ·split at hcell
       ·cases hcell
       ·rename_i hs; simpa using hs
      ·cases hcell
     have addr:((List.range len).map vs).flatten≠[]→a=⟨a.block,a.off,none⟩:=by
      intro hne
      have:=spot hne
      cases a; simp_all
     have addto:∀ i v,((List.range len).map vs).flatten[i]?=some v→(a.add (i / c.length * c.length)).add (i % c.length)=⟨a.block,a.off+i,none⟩:=by
      intro i v hv
      have hne:((List.range len).map vs).flatten≠[]:=by intro h0; rw [h0] at hv; simp at hv
      rw [addr hne,zdP,zdP]
      have:=Nat.div_add_mod i c.length
      rw [Nat.mul_comm] at this
      show (⟨a.block,a.off+i / c.length * c.length+i % c.length,none⟩:Addr)=⟨a.block,a.off+i,none⟩
      congr 1; omega
     have hcap:len≤maxLen:=by omega
     have hlen:((List.range len).map vs).length=len:=by simp
     have rp:RepP ren w zif (.sl c.length ((List.range len).map vs)) (.slice (some a) ((List.range len).map vs).length cap):=by
      by_cases hne:((List.range len).map vs).flatten=[]
      ·
       have:(List.range len).map vs=[]:=by
        cases hes:(List.range len).map vs with
        | nil=>rfl
        | cons e es =>
         have h1:=hsz2 e (by rw [hes]; simp)
         rw [hes,List.flatten_cons,List.append_eq_nil_iff] at hne
         rw [hne.1] at h1
         simp at h1; omega
       rw [this]
       exact .sl _ [] (some a) cap (fun _=>undef) (Nat.zero_le _) (by simp) 0 0 (by simp) (by simp) (by simp) (by simp)
      ·refine .sl _ _ (some a) cap (fun i=>(w.cell? ⟨a.block,a.off+i,none⟩).getD undef) (by rw [hlen]; exact hl) hsz2 a.block a.off (fun _=>by rw [← addr hne]) (fun i v hv=>?_) (fun i v hv=>?_) (fun i v hv=>?_) <;>
        (obtain ⟨hpos,hlt,hv',u,hu,q1,q2,hcell⟩:=cell i v hv
         rw [addto i v hv] at hcell
         simp only [hcell,Option.getD_some])
       ·exact ⟨fun h=>h,trivial⟩
       ·exact q1
       ·exact q2
     refine ⟨[.sl c.length ((List.range len).map vs)],.one rfl (by rw [hlen] at rp; exact rp) (.sl c _ (by rw [hlen]; exact hcap) hsz2 (fun e he i v ct hv hct=>?_))⟩
     obtain ⟨q,hq,rfl⟩:=List.mem_map.1 he
     exact (hrow q (List.mem_range.1 hq)).1.row.2 i v ct hv hct
   ·cases h
  ·rename_i n e ht
   simp only [Option.bind_eq_bind,Option.bind_eq_some_iff] at h
   obtain ⟨c,hc,h⟩:=h
   split at h
   ·rename_i hsz
    cases h
    obtain ⟨xs,m,_,_,hl,hxl,hi⟩:=DataW.trod_array ht hx
    have:=zsk (ren:=ren) (w:=w) (cs:=cs) (c:=c) n 0 (fun i hin=>by
     have:=hi i hin
     rw [List.getElem?_eq_getElem (by omega)] at this
     rw [hsz.1] at this
     obtain ⟨vs,r⟩:=znj d e c hc _ _ _ this
     exact ⟨vs,by rw [Nat.zero_add]; exact r⟩)
    rw [Nat.zero_mul,List.drop_zero,List.take_of_length_le (by omega)] at this
    exact this
   ·cases h
  ·rename_i fs ht
   simp only [Option.bind_eq_bind,Option.bind_eq_some_iff] at h
   obtain ⟨c,hc,h⟩:=h
   split at h
   ·rename_i hsz
    cases h
    obtain ⟨xs,m,_,_,hl,hxl,hi⟩:=DataW.trod_struct ht hx
    have:=zqC (ren:=ren) (w:=w) (cs:=cs) (fun _ _ _ _ h=>by cases h) fs.toList 0 cts hc (fun y hy a ha=>by
     obtain ⟨i,hil,rfl⟩:=List.getElem_of_mem hy
     have hil':i < fs.size:=by simpa using hil
     have:=hi i fs[i] (Array.getElem?_eq_getElem hil')
     rw [List.getElem?_eq_getElem (by omega)] at this
     exact znj d _ a ha _ _ _ (by simpa using this))
    rw [List.drop_zero,List.take_of_length_le (by omega)] at this
    exact this
   ·cases h
  ·cases h
theorem zAN {r:Reach} {b0:Nat} {t:TypeId} {v:Value} {dd:DataW H} {p:List MemPlace} {cts:List CT} {d:Nat} (hagg:zaI P t=some true) (hv:Value.okWide P w r b0 t v) (h:DataW.Trod enc P w base spare held t v dd p) (hc:zly P d t=some cts) :
  ∃ vs,HasRow cts vs∧RepP ren w zif (.agg vs) v:=by
 obtain ⟨fuel,hf⟩:=h
 obtain ⟨vs,rd⟩:=znj (ren:=ren) d t cts hc _ _ _ hf
 have:∃ us:Array Value,v=.agg us:=by
  unfold zaI at hagg
  cases hu:P.underlying t with
  | none=>simp [hu] at hagg
  | some T =>
   simp only [Value.okWide,hu] at hv
   cases T <;> simp [hu] at hagg
   ·obtain ⟨us,h1,_⟩:=hv; exact ⟨us,h1⟩
   ·obtain ⟨us,h1,_⟩:=hv; exact ⟨us,h1⟩
 obtain ⟨us,rfl⟩:=this
 have rd:RdC ren w cts us.toList vs:=rd
 refine ⟨vs,rd.row,?_⟩
 have key:=RepP.agg (ren:=ren) (w:=w) (Wr:=zif) vs us.toList (by rw [rd.1,rd.2.1]) (fun i c u hc hu=>(rd.2.2 i u c _ hu hc (List.getElem?_eq_getElem (by rw [← rd.1]; exact (List.getElem?_eq_some_iff.1 hu).1))).2.1) (fun u hu=>by
  obtain ⟨i,hi,rfl⟩:=List.getElem_of_mem hu
  have h1:i < vs.length:=by rw [rd.2.1,← rd.1]; exact hi
  have h2:i < cts.length:=by rw [← rd.1]; exact hi
  exact (rd.2.2 i _ _ _ (List.getElem?_eq_getElem hi) (List.getElem?_eq_getElem h1) (List.getElem?_eq_getElem h2)).1)
 simpa using key
theorem zAP {r:Reach} {b0:Nat} {t:TypeId} {v:Value} {dd:DataW H} {p:List MemPlace} {ct:CT} {d:Nat} (hv1:v.cells=#[v]) (h:DataW.Trod enc P w base spare held t v dd p) (hc:zly P d t=some [ct]) :
  ∃ x,HasC ct x∧RepP ren w zif x v:=by
 obtain ⟨fuel,hf⟩:=h
 obtain ⟨vs,rd⟩:=znj (ren:=ren) d t [ct] hc _ _ _ hf
 rw [hv1] at rd
 have hl:vs.length=1:=rd.2.1
 obtain ⟨x,rfl⟩:∃ x,vs=[x]:=by
  match vs,hl with
  | [x],_=>exact ⟨x,rfl⟩
 obtain ⟨q1,q2,q3⟩:=rd.2.2 0 v x ct rfl rfl rfl
 exact ⟨x,q3,q2⟩
theorem HasC.int_inv {k:IntKind} {v:V} (h:HasC (.int k) v):∃ n,v=.sc (.int k n)∧(Lit.int k n).wf=true:=by
 cases h with | int _ n h=>exact ⟨n,rfl,h⟩
theorem HasC.sl_inv {cs:List CT} {v:V} (h:HasC (.sl cs) v):∃ es,v=.sl cs.length es∧es.length≤maxLen∧∀ e ∈ es,HasRow cs e:=by
 cases h with | sl _ es hl h0 h=>exact ⟨es,rfl,hl,fun e he=>⟨h0 e he,h e he⟩⟩
end
def zvX:V→Bor→Option Bool:=fun v _=>match v with
 | .sc (.bool true)=>some true
 | _=>none
theorem zzm {v:V} {b:Bor} (h:zvX v b=some true):v=.sc (.bool true):=by
 unfold zvX at h
 split at h
 ·rfl
 ·cases h
end
section
set_option linter.unusedVariables false
set_option linter.unusedSimpArgs false
section
variable {β:Type}
theorem xw {α:Type} (a:α) (k:α→Option β):lt a k=k a:=Eq.trans rfl rfl
theorem zk {p:Prop} {inst:Decidable p} (h:p) (k:Option β):@chk β p inst k=k:=(zgj p k).trans (if_pos h)
theorem zrB {inst:Decidable True} (k:Option β):@chk β True inst k=k:=(zgj True k).trans (if_pos trivial)
theorem xQ (a b:Option β):ifb true a b=a:=rfl
theorem xy (a b:Option β):ifb false a b=b:=rfl
theorem zo8 {p:Prop} {inst:Decidable p} (a b:Option β):ifb (@decide p inst) a b=if p then a else b:=by
 by_cases h:p <;> simp [ifb,h]
theorem xE {p:Prop} {inst:Decidable p} (h:p) (a b:Option β):ifb (@decide p inst) a b=a:=by rw [zo8,if_pos h]
theorem xz {p:Prop} {inst:Decidable p} (h:¬ p) (a b:Option β):ifb (@decide p inst) a b=b:=by rw [zo8,if_neg h]
theorem zaJ {x y:Int} (h:x=y) (a b:Option β):ifb (x == y) a b=a:=by subst h; simp [ifb]
theorem yH {x y:Int} (h:x≠y) (a b:Option β):ifb (x == y) a b=b:=by rw [beq_eq_false_iff_ne.2 h]; rfl
theorem zcX {kd:IntKind} {cs:List V} {off:Nat} {n:Int} (h:cs[off]?=some (.sc (.int kd n))) (k:Int→Option β):cI kd cs off k=k n:=by
 simp [cI,zex,h,aI,zrB]
theorem zAC {cs:List V} {off:Nat} {b:Bool} (h:cs[off]?=some (.sc (.bool b))) (k:Bool→Option β):cB cs off k=k b:=by
 simp [cB,zex,h,aB]
theorem zuC {sz:Nat} {cs:List V} {off:Nat} {es:List (List V)} (h:cs[off]?=some (.sl sz es)) (k:List (List V)→Option β):cL sz cs off k=k es:=by
 simp [cL,zex,h,aL,zrB]
theorem zsM {sz:Nat} {cs:List V} {off:Nat} {es:List (List V)} (h:cs[off]?=some (.sl sz es)) (k:List (List V)→Option β):cLd sz cs off k=k es:=by
 simp [cLd,zex,h,aLd,zrB]
theorem zjB {es:List (List V)} {j:Int} {c:List V} (h0:0≤j) (h:es[j.toNat]?=some c) (k:List V→Option β):idx es j k=k c:=by
 simp [idx,h0,h,zrB]
theorem z9 {es:List (List V)} {j:Nat} {c:List V} (h:es[j]?=some c) (k:List V→Option β):idx es (j:Int) k=k c :=
 zjB (Int.natCast_nonneg j) (by simpa using h) k
end
theorem zjz {n:Int} (h1:-9223372036854775808≤n) (h2:n≤9223372036854775807):IntKind.wrap .i64 n=n:=IntWalk.i64_in _ ⟨h1,h2⟩
theorem zzb {k:IntKind} {n:Int} (hk:k.signed=false) (h1:0≤n) (h2:n < 2 ^ k.bits):IntKind.wrap k n=n:=by
 unfold IntKind.wrap
 simp only [hk,Bool.false_and,Bool.false_eq_true,if_false]
 exact Int.emod_eq_of_lt h1 h2
theorem zsF {n:Int} (h1:0≤n) (h2:n≤18446744073709551615):IntKind.wrap .u64 n=n:=zzb rfl h1 (Int.lt_of_le_of_lt h2 (by decide))
theorem zsJ {n:Int} (h1:0≤n) (h2:n≤4294967295):IntKind.wrap .u32 n=n:=zzb rfl h1 (Int.lt_of_le_of_lt h2 (by decide))
def zaV (k:IntKind) (l:List Int):List (List V):=l.map fun n=>[.sc (.int k n)]
theorem xS (k:IntKind) (l:List Int):(zaV k l).length=l.length:=by simp [zaV]
theorem zlj (k:IntKind) {l:List Int} {i:Nat} (h:i < l.length):(zaV k l)[i]?=some [.sc (.int k l[i])]:=by simp [zaV,h]
theorem zv2 (k:IntKind) (l m:List Int):zaV k l++zaV k m=zaV k (l++m):=by simp [zaV]
theorem HasRow.int1 {k:IntKind} {e:List V} (h:HasRow [.int k] e):∃ n,e=[.sc (.int k n)]∧(Lit.int k n).wf=true:=by
 obtain ⟨h1,h2⟩:=h
 match e,h1 with
 | [v],_ =>
  obtain ⟨n,rfl,hn⟩:=(h2 0 v _ rfl rfl).int_inv
  exact ⟨n,rfl,hn⟩
theorem zxq {k:IntKind}:∀ {es:List (List V)},(∀ e ∈ es,HasRow [.int k] e)→∃ l:List Int,es=zaV k l∧∀ n ∈ l,(Lit.int k n).wf=true
 | [],_=>⟨[],rfl,by simp⟩
 | e::es,h=>by
  obtain ⟨n,rfl,hn⟩:=(h e (by simp)).int1
  obtain ⟨l,rfl,hl⟩:=zxq (es:=es) (fun x hx=>h x (by simp [hx]))
  exact ⟨n::l,rfl,by simpa [hn] using hl⟩
def row (k:IntKind) (l:List Int):List V:=l.map fun n=>.sc (.int k n)
theorem zeW (k:IntKind) (l:List Int):(row k l).length=l.length:=by simp [row]
theorem zy3 {k:IntKind}:∀ {n:Nat} {vs:List V},HasRow (List.replicate n (.int k)) vs→∃ l:List Int,vs=row k l∧l.length=n∧∀ x ∈ l,(Lit.int k x).wf=true
 | 0,vs,h=>by
  have:vs=[]:=List.length_eq_zero_iff.1 (by simpa using h.1)
  subst this
  exact ⟨[],rfl,rfl,by simp⟩
 | n+1,[],h=>by have:=h.1; simp at this
 | n+1,v::vs,h=>by
  obtain ⟨x,rfl,hx⟩:=(h.2 0 v (.int k) rfl (by simp [List.replicate_succ])).int_inv
  obtain ⟨l,rfl,hl,hw⟩:=zy3 (n:=n) (vs:=vs) ⟨by have:=h.1; simpa using this,fun i c ct hc hct=>h.2 (i+1) c ct (by simpa using hc) (by simpa [List.replicate_succ] using hct)⟩
  exact ⟨x::l,rfl,by simp [hl],by simpa [hx] using hw⟩
end
section
set_option linter.unusedVariables false
set_option linter.unusedSimpArgs false
theorem zqU {cs new:List V} (h:new.length=cs.length):ya cs 0 new=new:=by
 simp [ya,h]
theorem zmb {cs new:List V} {off:Nat} (h:off+new.length≤cs.length):(ya cs off new).length=cs.length:=by
 simp [ya]; omega
theorem zy7 {cs:List V} {off:Nat} {v:V} (h:off < cs.length):ya cs off [v]=cs.set off v:=by
 simp only [ya,List.length_singleton]
 rw [List.set_eq_take_append_cons_drop,if_pos h]
 simp
theorem zfL {sz:Nat}:∀ {es:List (List V)},(∀ e ∈ es,e.length=sz)→xb sz es.length es.flatten=es
 | [],_=>rfl
 | e::es,h=>by
  have he:=h e (by simp)
  have:=zfL (es:=es) (fun x hx=>h x (by simp [hx]))
  simp only [List.length_cons,xb,List.flatten_cons]
  rw [List.take_append_of_le_length (by omega),List.take_of_length_le (by omega),List.drop_append_of_le_length (by omega),List.drop_of_length_le (by omega),List.nil_append,this]
theorem zsD {sz:Nat} {es:List (List V)} (h:∀ e ∈ es,e.length=sz):es.flatten.length=es.length * sz:=zac h
theorem zq9 {sz:Nat}:∀ {es:List (List V)},(∀ e ∈ es,e.length=sz)→∀ (i:Nat),es.flatten.drop (i * sz)=(es.drop i).flatten
 | [],_,i=>by simp
 | e::es,h,0=>by simp
 | e::es,h,i+1=>by
  have he:=h e (by simp)
  have:=zq9 (es:=es) (fun x hx=>h x (by simp [hx])) i
  have e1:(e++es.flatten).drop sz=es.flatten:=by rw [List.drop_append_of_le_length (by omega),List.drop_of_length_le (by omega),List.nil_append]
  rw [List.flatten_cons,List.drop_succ_cons,← this,show (i+1) * sz=sz+i * sz by rw [Nat.add_mul]; omega,← List.drop_drop,e1]
theorem zqG {sz n:Nat} {es:List (List V)} (h:∀ e ∈ es,e.length=sz) (hn:n≤sz) {i:Nat} {e:List V} (he:es[i]?=some e):(es.flatten.drop (i * sz)).take n=e.take n:=by
 rw [zq9 h]
 obtain ⟨hi,rfl⟩:=List.getElem?_eq_some_iff.1 he
 rw [List.drop_eq_getElem_cons hi,List.flatten_cons,List.take_append_of_le_length (by rw [h _ (List.getElem_mem hi)]; exact hn)]
theorem znD (k:IntKind):∀ (l m:List Int),l.length=m.length→zdq (row k l) (row k m)=some (decide (l=m))
 | [],[],_=>rfl
 | x::l,y::m,h=>by
  have:=znD k l m (by simpa using h)
  simp only [row] at this
  simp only [row,List.map_cons,zdq,if_true,this,Option.map_some]
  congr 1
  by_cases h1:x=y <;> by_cases h2:l=m <;> simp [h1,h2]
theorem zAO {β:Type} (k:IntKind) {n:Nat} {l m:List Int} (h1:l.length=n) (h2:m.length=n) (κ:Bool→Option β):eqC n (row k l) (row k m) κ=κ (decide (l=m)):=by
 simp only [eqC,zeW,h1,h2,and_self,zrB,znD k l m (by omega)]
theorem zwr {β:Type} {p:Prop} {inst:Decidable p} (a b:Option β):ifb (!(@decide p inst)) a b=if p then b else a:=by
 by_cases h:p <;> simp [ifb,h]
theorem zcf {β:Type} (x y:Int) (a b:Option β):ifb (x != y) a b=if x=y then b else a:=by
 by_cases h:x=y
 ·subst h; simp [ifb]
 ·rw [bne_iff_ne.2 h,if_neg h]; rfl
end
section
set_option linter.unusedVariables false
set_option linter.unusedSimpArgs false
theorem zs2 {sz:Nat}:∀ {es:List (List V)},(∀ e ∈ es,e.length=sz)→∀ (i:Nat),es.flatten.take (i * sz)=(es.take i).flatten
 | [],_,i=>by simp
 | e::es,h,0=>by simp
 | e::es,h,i+1=>by
  have he:=h e (by simp)
  have:=zs2 (es:=es) (fun x hx=>h x (by simp [hx])) i
  rw [List.flatten_cons,List.take_succ_cons,List.flatten_cons,← this,show (i+1) * sz=sz+i * sz by rw [Nat.add_mul]; omega,← he,List.take_append,List.take_of_length_le (by omega)]
  congr 2; omega
theorem zwQ {sz:Nat} {es:List (List V)} (h:∀ e ∈ es,e.length=sz) {w:Nat} (hw:w≤es.length):xb sz w es.flatten=es.take w:=by
 induction w generalizing es with
 | zero=>simp [xb]
 | succ w ih =>
  cases es with
  | nil=>simp at hw
  | cons e es =>
   have he:=h e (by simp)
   have:=ih (es:=es) (fun x hx=>h x (by simp [hx])) (by simpa using hw)
   simp only [xb,List.flatten_cons,List.take_succ_cons]
   rw [List.take_append_of_le_length (by omega),List.take_of_length_le (by omega),List.drop_append_of_le_length (by omega),List.drop_of_length_le (by omega),List.nil_append,this]
def zeq {α:Type} (p:α→Bool):List α→Nat→Int
 | [],_=>-1
 | x::l,i=>if p x=true then (i:Int) else zeq p l (i+1)
theorem zl0 {α:Type} (p:α→Bool):∀ (l:List α) (a:Nat),(zeq p l a=-1∧∀ x ∈ l,p x=false)∨∃ (i:Nat),∃ h:i < l.length,zeq p l a=((a+i:Nat):Int)∧(∀ x ∈ l.take i,p x=false)∧p l[i]=true
 | [],a=>.inl ⟨rfl,by simp⟩
 | x::l,a=>by
  by_cases hx:p x=true
  ·exact .inr ⟨0,by simp,by simp [zeq,hx],by simp,by simpa using hx⟩
  ·have hx':p x=false:=by simpa using hx
   rcases zl0 p l (a+1) with ⟨h1,h2⟩ | ⟨i,hi,h1,h2,h3⟩
   ·refine .inl ⟨by simp [zeq,hx',h1],?_⟩
    intro y hy
    rcases List.mem_cons.1 hy with rfl | hy
    ·exact hx'
    ·exact h2 y hy
   ·refine .inr ⟨i+1,by simpa using hi,?_,?_,by simpa using h3⟩
    ·simp only [zeq,hx',h1]; simp; omega
    ·intro y hy
     simp only [List.take_succ_cons,List.mem_cons] at hy
     rcases hy with rfl | hy
     ·exact hx'
     ·exact h2 y hy
theorem zur {α:Type} (p:α→Bool) (l:List α) (a:Nat):decide (zeq p l a ≥ 0)=l.any p:=by
 rcases zl0 p l a with ⟨h1,h2⟩ | ⟨i,hi,h1,h2,h3⟩
 ·rw [h1]
  have:l.any p=false:=by
   rw [List.any_eq_false]
   intro x hx; rw [h2 x hx]; simp
  rw [this]; rfl
 ·rw [h1]
  have:l.any p=true:=List.any_eq_true.2 ⟨_,List.getElem_mem hi,h3⟩
  rw [this]
  exact decide_eq_true (by omega)
theorem zN {i:Nat} (h:i≤1000000000):IntKind.wrap .i64 ((i:Int)+1)=((i+1:Nat):Int):=by
 rw [zjz (by omega) (by omega)]; omega
end
section
set_option linter.unusedVariables false
set_option linter.unusedSimpArgs false
variable {β:Type}
structure Stm where
 id:List Int
 fr:Int
 to:Int
 due:Int
 hid:id.length=32
def Stm.v (s:Stm):List V:=row .u8 s.id++[V.sc (.int .i64 s.fr),V.sc (.int .i64 s.to),V.sc (.int .u32 s.due)]
structure Hs where
 l:List Int
 hl:l.length=32
def Hs.v (h:Hs):List V:=row .u8 h.l
structure Rl where
 ep:Int
 df:Bool
 rt:List Int
 st:List Stm
 fl:List Hs
def Rl.v (r:Rl):List V:=[V.sc (.int .u32 r.ep),V.sc (.bool r.df),V.sl 1 (zaV .i64 r.rt),V.sl 35 (r.st.map Stm.v),V.sl 32 (r.fl.map Hs.v)]
structure Rl.Ok (r:Rl):Prop where
 nr:r.rt.length≤500
 ns:r.st.length≤500
 nf:r.fl.length≤500
theorem zg2 (r:Rl) (k:Int→Option β):cI .u32 r.v 0 k=k r.ep:=zcX rfl k
theorem zf3 (r:Rl) (k:Bool→Option β):cB r.v 1 k=k r.df:=zAC rfl k
theorem ziP (r:Rl) (k:List (List V)→Option β):cL 1 r.v 2 k=k (zaV .i64 r.rt):=zuC rfl k
theorem ziu (r:Rl) (k:List (List V)→Option β):cL 35 r.v 3 k=k (r.st.map Stm.v):=zuC rfl k
theorem ziH (r:Rl) (k:List (List V)→Option β):cL 32 r.v 4 k=k (r.fl.map Hs.v):=zuC rfl k
theorem zeg (r:Rl) (k:List (List V)→Option β):cLd 1 r.v 2 k=k (zaV .i64 r.rt):=zsM rfl k
theorem zeG (r:Rl) (k:List (List V)→Option β):cLd 35 r.v 3 k=k (r.st.map Stm.v):=zsM rfl k
theorem zlT (r:Rl) (k:List (List V)→Option β):cLd 32 r.v 4 k=k (r.fl.map Hs.v):=zsM rfl k
theorem zia (r:Rl):List.map V.dem (List.take 5 r.v)=r.v:=Eq.trans rfl rfl
theorem zul (r:Rl):List.take 5 r.v=r.v:=Eq.trans rfl rfl
theorem zh7 (r:Rl):ya [(V.sc (.int .u32 (0:Int))),(V.sc (.bool false)),(V.gs 1 ([]:List (List V))),(V.gs 35 ([]:List (List V))),(V.gs 32 ([]:List (List V)))] 0 r.v=r.v:=zqU rfl
theorem zgd (r:Rl) (k:Option β):chk (List.length r.v=5) k=k:=zk rfl k
theorem za6 (r:Rl) (k:Option β):chk (0+5≤List.length r.v) k=k:=zk (by show 0+5≤5; omega) k
theorem zgu (r:Rl) (k:Option β):chk ((List.length r.v)=5∧0+5≤5) k=k:=zk ⟨rfl,by decide⟩ k
theorem ze9 (s:Stm):s.v.length=35:=by rw [Stm.v,List.length_append,zeW,s.hid]; rfl
theorem zka (s:Stm):List.take 35 s.v=s.v:=List.take_of_length_le (by rw [ze9]; omega)
theorem zBJ (s:Stm):List.take 32 s.v=row .u8 s.id:=by
 rw [Stm.v,List.take_append_of_le_length (by rw [zeW,s.hid]; omega),List.take_of_length_le (by rw [zeW,s.hid]; omega)]
theorem zty (s:Stm):ya (List.replicate 32 (V.sc (.int .u8 (0:Int)))++[(V.sc (.int .i64 (0:Int))),(V.sc (.int .i64 (0:Int))),(V.sc (.int .u32 (0:Int)))]) 0 s.v=s.v:=zqU (by rw [ze9]; rfl)
theorem zyA (s:Stm) (k:Option β):chk ((List.length (List.take 35 s.v))=35∧0+35≤35) k=k:=zk ⟨by rw [zka,ze9],by decide⟩ k
theorem zuy (s:Stm) (k:Option β):chk (0+32≤(List.length s.v)) k=k:=zk (by rw [ze9]; omega) k
theorem zcZ (h:Hs):h.v.length=32:=by rw [Hs.v,zeW,h.hl]
theorem xY (h:Hs):List.take 32 h.v=h.v:=List.take_of_length_le (by rw [zcZ]; omega)
theorem ztN (h:Hs):ya (List.replicate 32 (V.sc (.int .u8 (0:Int)))) 0 h.v=h.v:=zqU (by rw [zcZ]; rfl)
theorem zrj (h:Hs) (k:Option β):chk ((List.length (List.take 32 h.v))=32∧0+32≤32) k=k:=zk ⟨by rw [xY,zcZ],by decide⟩ k
theorem zaH (h:Hs) (k:Option β):chk (0+32≤(List.length h.v)) k=k:=zk (by rw [zcZ]; omega) k
theorem zud (a b:Hs) (k:Bool→Option β):eqC 32 a.v b.v k=k (decide (a.l=b.l)):=zAO .u8 a.hl b.hl k
def Stm.h (s:Stm):Hs:=⟨s.id,s.hid⟩
theorem zqX (s:Stm):List.take 32 s.v=s.h.v:=zBJ s
theorem zfx {l:List Stm} {i:Nat} (h:i < l.length):(l.map Stm.v)[i]?=some l[i].v:=by simp [h]
theorem ziC {l:List Hs} {i:Nat} (h:i < l.length):(l.map Hs.v)[i]?=some l[i].v:=by simp [h]
def isH (h:Hs) (x:Hs):Bool:=decide (x.l=h.l)
def isS (h:Hs) (x:Stm):Bool:=decide (x.id=h.l)
theorem zzx (a b:List Int):decide (a=b)=decide (b=a):=decide_eq_decide.2 ⟨Eq.symm,Eq.symm⟩
theorem zzL {α:Type} {l:List α} {p:α→Bool} {i:Nat} (h:i < l.length):(l.drop i).any p=(p l[i] || (l.drop (i+1)).any p):=by
 rw [List.drop_eq_getElem_cons h]; rfl
theorem zj1 {α:Type} {l:List α} {p:α→Bool} {i:Nat} (h:i < l.length):zeq p (l.drop i) i=if p l[i]=true then (i:Int) else zeq p (l.drop (i+1)) (i+1):=by
 rw [List.drop_eq_getElem_cons h]; rfl
theorem zwa (L:Nat) (h:Hs) (l:List Hs) (hl:l.length≤100000) (kr:Bool→Option β) (kx:Option β):∀ (n i:Nat),i≤l.length→l.length - i < n →
  zfz L kr kx n (l.map Hs.v) (i:Int) h.v=ifb ((l.drop i).any (isH h)) (kr true) kx
 | 0,i,h1,h2=>by omega
 | n+1,i,h1,h2=>by
  simp only [zfz,zkh,xw,List.length_map]
  by_cases hi:i < l.length
  ·rw [xE (by omega),z9 (ziC hi),zaH,xY,xY,zud,zN (by omega),zwa L h l hl kr kx n (i+1) (by omega) (by omega),zzL hi]
   show ifb (isH h l[i]) _ _=_
   cases isH h l[i] <;> rfl
  ·rw [xz (by omega),List.drop_of_length_le (by omega)]; rfl
theorem ztc {L:Nat} {l:List Hs} (hl:l.length≤1000) (hL:2000≤L) (h:Hs) (k:Bool→Option β):ye β L (l.map Hs.v) h.v k=k (l.any (isH h)):=by
 unfold ye zlU zoy
 refine (zwa L h l (by omega) _ _ L 0 (by omega) (by omega)).trans ?_
 unfold zin zi5
 rw [List.drop_zero]
 cases l.any (isH h) <;> rfl
theorem zu8 (L:Nat) (h:Hs) (l:List Stm) (hl:l.length≤100000) (k:Int→Option β):∀ (n i:Nat),i≤l.length→l.length - i < n →
  ze6 L k (k (-1)) n (l.map Stm.v) (i:Int) h.v=k (zeq (isS h) (l.drop i) i)
 | 0,i,h1,h2=>by omega
 | n+1,i,h1,h2=>by
  simp only [ze6,zjK,xw,List.length_map]
  by_cases hi:i < l.length
  ·rw [xE (by omega),z9 (zfx hi),zaH,zqX,xY,zud,zN (by omega),zu8 L h l hl k n (i+1) (by omega) (by omega),zj1 hi]
   show ifb (isS h l[i]) _ _=_
   cases isS h l[i] <;> rfl
  ·rw [xz (by omega),List.drop_of_length_le (by omega)]; rfl
theorem zuq {L:Nat} {l:List Stm} (hl:l.length≤1000) (hL:2000≤L) (h:Hs) (k:Int→Option β):zc β L (l.map Stm.v) h.v k=k (zeq (isS h) l 0):=by
 unfold zc zkA znL
 have:=zu8 L h l (by omega) k L 0 (by omega) (by omega)
 rw [List.drop_zero] at this
 exact this
theorem zsW (L:Nat) (h:Hs) (l:List Hs) (hl:l.length≤100000) (k:Int→Option β):∀ (n i:Nat),i≤l.length→l.length - i < n →
  z5 L k (k (-1)) n (l.map Hs.v) (l.length:Int) (i:Int) h.v=k (zeq (isH h) (l.drop i) i)
 | 0,i,h1,h2=>by omega
 | n+1,i,h1,h2=>by
  simp only [z5,zbR,xw]
  by_cases hi:i < l.length
  ·rw [xE (by omega),z9 (ziC hi),zaH,xY,xY,zud,zzx,zN (by omega),zsW L h l hl k n (i+1) (by omega) (by omega),zj1 hi]
   show ifb (isH h l[i]) _ _=_
   cases isH h l[i] <;> rfl
  ·rw [xz (by omega),List.drop_of_length_le (by omega)]; rfl
theorem zsf {L:Nat} {l:List Hs} (hl:l.length≤1000) (hL:2000≤L) (h:Hs) (k:Bool→Option β):zj β L (l.map Hs.v) h.v k=k (l.any (isH h)):=by
 unfold zj zbW
 rw [zaH,xY]
 unfold zr zbu zcJ
 rw [List.length_map]
 have:=zsW L h l (by omega) (fun v0=>k (decide (v0 ≥ (0:Int)))) L 0 (by omega) (by omega)
 rw [List.drop_zero,zur] at this
 exact this
theorem zwc (L:Nat) (s:Stm) (h:Hs) (k:Bool→List V→Option β):yh β L s.v h.v k=k (isS h s) h.v:=by
 unfold yh zlm
 rw [zuy,zaH,zqX,xY,zud]; exact Eq.trans rfl rfl
theorem zr9 (L:Nat) (h:Hs) (l:List Stm) (hl:l.length≤100000) (k:Int→List V→Option β):∀ (n i:Nat),i≤l.length→l.length - i < n →
  zaf yh L k (k (-1)) n (l.map Stm.v) (l.length:Int) (i:Int) h.v=k (zeq (isS h) (l.drop i) i) h.v
 | 0,i,h1,h2=>by omega
 | n+1,i,h1,h2=>by
  simp only [zaf,zc5,xw]
  by_cases hi:i < l.length
  ·rw [xE (by omega),z9 (zfx hi),zka]
   rw [zwc,zk rfl,zN (by omega),zr9 L h l hl k n (i+1) (by omega) (by omega),zj1 hi]
   cases isS h l[i] <;> rfl
  ·rw [xz (by omega),List.drop_of_length_le (by omega)]; rfl
theorem zAs {L:Nat} {l:List Stm} (hl:l.length≤1000) (hL:2000≤L) (a:Int) (b:Bool) (c d:List (List V)) (h:Hs) (k:Int→Option β):zdd β L a b c (l.map Stm.v) d h.v k=k (zeq (isS h) l 0):=by
 unfold zdd zqW zJ zdV zdS
 rw [List.length_map]
 have:=zr9 L h l (by omega) (fun v0 v1=>chk ([(List.length v1)]=[(List.length h.v)]) (k v0)) L 0 (by omega) (by omega)
 rw [List.drop_zero] at this
 exact this.trans (zk rfl _)
theorem ztv (L:Nat) (l:List Int) (hl:l.length≤100000) (kr:Bool→Option β) (kx:Option β):∀ (n i:Nat),i≤l.length→l.length - i < n →
  zc1 L kr kx n (zaV .i64 l) (zaV .i64 l) (i:Int)=kx
 | 0,i,h1,h2=>by omega
 | n+1,i,h1,h2=>by
  simp only [zc1,zgo,xw,xS]
  by_cases hi:i < l.length
  ·rw [xE (by omega),z9 (zlj _ hi),zcX rfl,z9 (zlj _ hi),zcX rfl,zcf,if_pos rfl,zN (by omega)]
   exact ztv L l hl kr kx n (i+1) (by omega) (by omega)
  ·rw [xz (by omega)]
theorem zB0 {L:Nat} {l:List Int} (hl:l.length≤1000) (hL:2000≤L) (k:Bool→Option β):zh β L (zaV .i64 l) (zaV .i64 l) k=k true:=by
 unfold zh zgU zjx
 rw [zcf,if_pos rfl]
 exact ztv L l (by omega) _ _ L 0 (by omega) (by omega)
theorem zt1 (L:Nat) (l:List Hs) (hl:l.length≤100000) (kr:Bool→Option β) (kx:Option β):∀ (n i:Nat),i≤l.length→l.length - i < n →
  zco L kr kx n (l.map Hs.v) (l.map Hs.v) (i:Int)=kx
 | 0,i,h1,h2=>by omega
 | n+1,i,h1,h2=>by
  simp only [zco,zfq,xw,List.length_map]
  by_cases hi:i < l.length
  ·rw [xE (by omega),z9 (ziC hi),z9 (ziC hi),xY,zud,decide_eq_true rfl,zN (by omega)]
   exact zt1 L l hl kr kx n (i+1) (by omega) (by omega)
  ·rw [xz (by omega)]
theorem zyo {L:Nat} {l:List Hs} (hl:l.length≤1000) (hL:2000≤L) (k:Bool→Option β):za β L (l.map Hs.v) (l.map Hs.v) k=k true:=by
 unfold za zfA zie
 rw [zcf,if_pos rfl]
 exact zt1 L l (by omega) _ _ L 0 (by omega) (by omega)
theorem zr4 {k:IntKind}:∀ (l:List Int) (t:List V),zdq t t=some true→zdq (row k l++t) (row k l++t)=some true
 | [],t,h=>h
 | x::l,t,h=>by
  have:=zr4 (k:=k) l t h
  simp only [row] at this
  simp only [row,List.map_cons,List.cons_append,zdq,if_true,this,Option.map_some,BEq.rfl,Bool.and_true]
theorem zBV (s:Stm) (k:Bool→Option β):eqC 35 s.v s.v k=k true:=by
 have:zdq s.v s.v=some true:=zr4 s.id _ (by simp [zdq])
 simp only [eqC,ze9,and_self,zrB,this]
theorem zvm (L:Nat) (r:Rl) (hr:r.Ok) (kr:Bool→Option β) (kx:Option β):∀ (n i:Nat),i≤r.st.length→r.st.length - i < n →
  zez zh za L kr kx n (i:Int) r.v r.v=kx
 | 0,i,h1,h2=>by omega
 | n+1,i,h1,h2=>by
  have hs:=hr.ns
  simp only [zez,zi2,xw,zeG,List.length_map]
  by_cases hi:i < r.st.length
  ·rw [xE (by omega),z9 (zfx hi),z9 (zfx hi),zka,zBV,zN (by omega)]
   exact zvm L r hr kr kx n (i+1) (by omega) (by omega)
  ·rw [xz (by omega)]
theorem zrx {L:Nat} {r:Rl} (hr:r.Ok) (hL:2000≤L) (k:Bool→Option β):zd β L r.v r.v k=k true:=by
 have h1:=hr.nr; have h2:=hr.ns; have h3:=hr.nf
 unfold zd zkX znh
 rw [zg2,zg2,zcf,if_pos rfl,zf3,zf3,BEq.rfl,Bool.not_true,xy,zeg,zeg,zB0 (by omega) hL,Bool.not_true,xy,zlT,zlT,zyo (by omega) hL,Bool.not_true,xy,zeG,zeG,zcf,if_pos rfl]
 exact zvm L r hr _ _ L 0 (by omega) (by omega)
end
section
set_option linter.unusedVariables false
set_option linter.unusedSimpArgs false
variable {β:Type}
def zbK:List (List Int)→List (List Int)→Bool
 | _,[]=>true
 | N,x::l=>!(decide (x ∈ N)) && zbK (N++[x]) l
theorem zs9:∀ (l N:List (List Int)),zbK N l=true↔l.Nodup∧∀ x ∈ l,x ∉ N
 | [],N=>by simp [zbK]
 | x::l,N=>by
  rw [zbK,Bool.and_eq_true,zs9 l (N++[x])]
  simp only [Bool.not_eq_true',decide_eq_false_iff_not,List.nodup_cons,List.mem_cons,List.mem_append,List.mem_singleton,List.not_mem_nil,or_false]
  constructor
  ·rintro ⟨h1,h2,h3⟩
   refine ⟨⟨fun hx=>h3 x hx (.inr rfl),h2⟩,?_⟩
   rintro y (rfl | hy)
   ·exact h1
   ·exact fun hn=>h3 y hy (.inl hn)
  ·rintro ⟨⟨h1,h2⟩,h3⟩
   refine ⟨h3 x (.inl rfl),h2,fun y hy hn=>?_⟩
   rcases hn with hn | rfl
   ·exact h3 y (.inr hy) hn
   ·exact h1 hy
def zdz (r:Rl):List (List Int):=r.st.map (·.id)
def zer (r:Rl):List (List Int):=r.fl.map (·.l)
def rtB (rt:List Int):Bool:=rt.all (fun x=>decide (0≤x)) && !(decide (rt.length=2) && decide (rt.getD 0 0=rt.getD 1 0))
def ze2 (r:Rl):Bool:=decide (r.rt.length≤2) && (decide (r.st.length≤64) && (decide (r.fl.length≤2048) && (rtB r.rt && (zbK [] (zdz r) && zbK (zdz r) (zer r)))))
def zju (N:List (List Int)):List (V × V):=N.map fun l=>(V.agg (row .u8 l),V.sc (.bool true))
theorem zqx (a b:List Int) (h:a.length=b.length):zhN (V.agg (row .u8 a)) (V.agg (row .u8 b))=some (decide (a=b)):=by
 simp only [zhN,zeW,h,if_true,znD .u8 a b h]
theorem ztB (a:List Int) (ha:a.length=32):∀ N:List (List Int),(∀ x ∈ N,x.length=32)→zm2 (V.agg (row .u8 a)) (zju N)=some (if a ∈ N then some (V.sc (.bool true)) else none)
 | [],_=>rfl
 | x::N,h=>by
  have ih:=ztB a ha N (fun y hy=>h y (List.mem_cons_of_mem _ hy))
  have hx:=h x (List.mem_cons_self ..)
  simp only [zju,List.map_cons,zm2,zqx a x (by omega)] at ih ⊢
  by_cases e:a=x
  ·subst e; simp
  ·simp only [decide_eq_false e,List.mem_cons,e,false_or]; exact ih
theorem zu5 (a:List Int) (ha:a.length=32):∀ N:List (List Int),(∀ x ∈ N,x.length=32)→∃ m,zro (V.agg (row .u8 a)) (V.sc (.bool true)) (zju N)=some m∧(a ∉ N→m=zju (N++[a]))
 | [],_=>⟨_,rfl,fun _=>rfl⟩
 | x::N,h=>by
  obtain ⟨m,e1,e2⟩:=zu5 a ha N (fun y hy=>h y (List.mem_cons_of_mem _ hy))
  have hx:=h x (List.mem_cons_self ..)
  by_cases e:a=x
  ·subst e
   refine ⟨(V.agg (row .u8 a),V.sc (.bool true))::zju N,?_,fun hn=>absurd (List.mem_cons_self ..) hn⟩
   simp only [zju,List.map_cons,zro,zqx a a rfl,decide_true]
  ·refine ⟨(V.agg (row .u8 x),V.sc (.bool true))::m,?_,fun hn=>?_⟩
   ·simp only [zju,List.map_cons,zro,zqx a x (by omega),decide_eq_false e] at e1 ⊢
    rw [e1]; rfl
   ·rw [e2 (fun hm=>hn (List.mem_cons_of_mem _ hm))]; rfl
theorem zyV (L:Nat) (h:Hs) (N:List (List Int)) (hN:∀ x ∈ N,x.length=32) (k:Bool→List (V × V)→Option β) (R:Option β) (hk:∀ m,k false m=R):xe β L h.v (zju N) k=ifb (!(decide (h.l ∈ N))) (k true (zju (N++[h.l]))) R:=by
 unfold xe zkM
 have ok:zgV 34 (V.agg (row .u8 h.l))=true:=by simp [zgV,zeW,h.hl]
 obtain ⟨m,e1,e2⟩:=zu5 h.l h.hl N hN
 rw [zaH,xY]
 simp only [Hs.v,mAt,zx5,ok,ztB h.l h.hl N hN,e1]
 by_cases hm:h.l ∈ N
 ·rw [if_pos hm,decide_eq_true hm]
  simp only [Option.getD_some,aB]
  rw [zk (by rw [zeW,h.hl]; omega)]
  exact hk m
 ·rw [if_neg hm,decide_eq_false hm,e2 hm]
  simp only [Option.getD_none,aB]
  rw [zk (by rw [zeW,h.hl]; omega)]
  rfl
theorem znt {rt:List Int} (h:rt.length≤2):rt=[]∨(∃ a,rt=[a])∨∃ a b,rt=[a,b]:=by
 match rt,h with
 | [],_=>exact .inl rfl
 | [a],_=>exact .inr (.inl ⟨a,rfl⟩)
 | [a,b],_=>exact .inr (.inr ⟨a,b,rfl⟩)
theorem zpP (l:List (List Int)) {i:Nat} (h:i < l.length):zbK (l.take i) (l.drop i)=(!(decide (l[i] ∈ l.take i)) && zbK (l.take (i+1)) (l.drop (i+1))):=by
 rw [List.drop_eq_getElem_cons h,zbK,List.take_succ_eq_append_getElem h]
theorem zxm (L:Nat) (l:List Int) (hl:l.length≤100000) (b1:List V) (kr:Bool→Option β) (kx:List V→Option β):∀ (n i:Nat),i≤l.length→l.length - i < n →
  zec xe L kr kx n (zaV .i64 l) (l.length:Int) (i:Int) b1=ifb ((l.drop i).all (fun x=>decide (0≤x))) (kx b1) (kr false)
 | 0,i,h1,h2=>by omega
 | n+1,i,h1,h2=>by
  simp only [zec,ziq,xw]
  by_cases hi:i < l.length
  ·rw [xE (by omega),z9 (zlj _ hi),zcX rfl,zN (by omega),zxm L l hl b1 kr kx n (i+1) (by omega) (by omega),List.drop_eq_getElem_cons hi,List.all_cons]
   by_cases hx:0≤l[i]
   ·rw [xz (by omega),decide_eq_true hx]; rfl
   ·rw [xE (by omega),decide_eq_false hx]; rfl
  ·rw [xz (by omega),List.drop_of_length_le (by omega)]; rfl
theorem zxM (L:Nat) (l:List Stm) (hl:l.length≤100000) (b1:List V) (kr:Bool→List (V × V)→Option β) (R:Option β) (hk:∀ m,kr false m=R) (kx:List V→List (V × V)→Option β):∀ (n i:Nat),i≤l.length→l.length - i < n →
  zbL xe L kr kx n (l.map Stm.v) (l.length:Int) (i:Int) b1 (zju ((l.map (·.id)).take i))=ifb (zbK ((l.map (·.id)).take i) ((l.map (·.id)).drop i)) (kx b1 (zju (l.map (·.id)))) R
 | 0,i,h1,h2=>by omega
 | n+1,i,h1,h2=>by
  simp only [zbL,zfM,xw]
  by_cases hi:i < l.length
  ·have hi':i < (l.map (·.id)).length:=by simpa using hi
   have e:(l.map (·.id))[i]=l[i].h.l:=by simp [Stm.h]
   rw [xE (by omega),z9 (zfx hi),zyA,zka,zty,zuy,zqX]
   rw [zyV L l[i].h _ (fun x hx=>by obtain ⟨s,_,rfl⟩:=List.mem_map.1 (List.mem_of_mem_take hx); exact s.hid) _ R (fun m=>by rw [Bool.not_false,xQ]; exact hk m)]
   rw [Bool.not_true,xy,← e,← List.take_succ_eq_append_getElem hi',zN (by omega),zxM L l hl b1 kr R hk kx n (i+1) (by omega) (by omega),zpP _ hi']
   cases !(decide ((l.map (·.id))[i] ∈ (l.map (·.id)).take i)) <;> rfl
  ·have e1:(l.map (·.id)).take i=l.map (·.id):=List.take_of_length_le (by simp; omega)
   have e2:(l.map (·.id)).drop i=[]:=List.drop_of_length_le (by simp; omega)
   rw [xz (by omega),e1,e2]; rfl
theorem zxn (L:Nat) (N:List (List Int)) (hN:∀ x ∈ N,x.length=32) (l:List Hs) (hl:l.length≤100000) (kr:Bool→List (V × V)→Option β) (R:Option β) (hk:∀ m,kr false m=R) (kx:List (V × V)→Option β) (hx:∀ m,kx m=kx []):∀ (n i:Nat),i≤l.length→l.length - i < n →
  zcq xe L kr kx n (l.map Hs.v) (l.length:Int) (i:Int) (zju (N++(l.map (·.l)).take i))=ifb (zbK (N++(l.map (·.l)).take i) ((l.map (·.l)).drop i)) (kx []) R
 | 0,i,h1,h2=>by omega
 | n+1,i,h1,h2=>by
  simp only [zcq,zfs,xw]
  by_cases hi:i < l.length
  ·have hi':i < (l.map (·.l)).length:=by simpa using hi
   have e:(l.map (·.l))[i]=l[i].l:=by simp
   rw [xE (by omega),z9 (ziC hi),zrj,xY,ztN,zaH,xY]
   rw [zyV L l[i] _ (fun x hx=>by
    rcases List.mem_append.1 hx with hx | hx
    ·exact hN x hx
    ·obtain ⟨s,_,rfl⟩:=List.mem_map.1 (List.mem_of_mem_take hx); exact s.hl) _ R (fun m=>by rw [Bool.not_false,xQ]; exact hk m)]
   rw [Bool.not_true,xy,← e,List.append_assoc,← List.take_succ_eq_append_getElem hi',zN (by omega),zxn L N hN l hl kr R hk kx hx n (i+1) (by omega) (by omega)]
   rw [List.drop_eq_getElem_cons hi',zbK,List.append_assoc,← List.take_succ_eq_append_getElem hi']
   cases !(decide ((l.map (·.l))[i] ∈ N++(l.map (·.l)).take i)) <;> rfl
  ·have e2:(l.map (·.l)).drop i=[]:=List.drop_of_length_le (by simp; omega)
   rw [xz (by omega),e2]; exact hx _
theorem zfw (a b:Bool) (x y:Option β):ifb (a && b) x y=ifb a (ifb b x y) y:=by cases a <;> cases b <;> rfl
theorem zAf (a:Bool) (k:Bool→Option β):ifb a (k true) (k false)=k a:=by cases a <;> rfl
theorem zss {L:Nat} {r:Rl} (hr:r.Ok) (hL:2000≤L) (k:Bool→Option β):xx β L r.v k=k (ze2 r):=by
 have h1:=hr.nr; have h2:=hr.ns; have h3:=hr.nf
 unfold xx zjr zmF
 rw [← zAf (ze2 r) k,ze2,zfw,zfw,zfw,zfw]
 simp only [zeg,zeG,zlT,xS,List.length_map]
 by_cases q1:r.rt.length≤2
 ·rw [xz (by omega),decide_eq_true q1,xQ]
  by_cases q2:r.st.length≤64
  ·rw [xz (by omega),decide_eq_true q2,xQ,xz (by omega),decide_eq_true (by omega:r.fl.length≤2048),xQ]
   refine (zxm L r.rt (by omega) r.v _ _ L 0 (by omega) (by omega)).trans ?_
   rw [List.drop_zero,rtB,zfw]
   cases r.rt.all (fun x=>decide (0≤x)) with
   | false=>rfl
   | true =>
    rw [xQ,xQ]
    have key:∀ (p:List (List V)) (m:Int),p=r.st.map Stm.v→m=(r.st.length:Int) →
      zbL xe L (fun p2 b52=>zd9 xe L p2 b52 k) (fun b1 b52=>zbQ xe L b1 b52 k) L p m (0:Int) r.v []=ifb (zbK [] (zdz r) && zbK (zdz r) (zer r)) (k true) (k false):=by
     rintro p m rfl rfl
     refine (zxM L r.st (by omega) r.v _ (k false) (fun m=>rfl) _ L 0 (by omega) (by omega)).trans ?_
     rw [zfw]
     simp only [List.take_zero,List.drop_zero]
     show ifb (zbK [] (zdz r)) _ _=_
     cases zbK [] (zdz r) with
     | false=>rfl
     | true =>
      rw [xQ,xQ]
      unfold zbQ ze7
      rw [zlT,List.length_map]
      have:=zxn L (zdz r) (fun x hx=>by obtain ⟨s,_,rfl⟩:=List.mem_map.1 hx; exact s.hid) r.fl (by omega) (fun p2 b52=>zdR xe L p2 b52 k) (k false) (fun m=>rfl) (fun b52=>zeL xe L b52 k) (fun m=>rfl) L 0 (by omega) (by omega)
      simp only [List.take_zero,List.drop_zero,List.append_nil] at this
      exact this
    unfold zen zgW
    rw [zeg,xS]
    rcases znt q1 with e | ⟨a,e⟩ | ⟨a,b,e⟩
    ·rw [yH (by rw [e]; exact (by decide:((0:Nat):Int)≠2)),zeG,List.length_map]
     refine (key _ _ rfl rfl).trans ?_
     rw [e]; rfl
    ·rw [yH (by rw [e]; exact (by decide:((1:Nat):Int)≠2)),zeG,List.length_map]
     refine (key _ _ rfl rfl).trans ?_
     rw [e]; rfl
    ·have e0:(zaV .i64 r.rt)[0]?=some [V.sc (.int .i64 a)]:=by rw [e]; rfl
     have e1:(zaV .i64 r.rt)[1]?=some [V.sc (.int .i64 b)]:=by rw [e]; rfl
     have g0:r.rt.getD 0 0=a:=by rw [e]; rfl
     have g1:r.rt.getD 1 0=b:=by rw [e]; rfl
     rw [zaJ (by rw [e]; rfl),zeg,zjB (by decide) e0,zcX rfl,zeg,zjB (by decide) e1,zcX rfl,zeG,List.length_map,decide_eq_true (by rw [e]; rfl:r.rt.length=2),Bool.true_and,g0,g1]
     by_cases hab:a=b
     ·rw [zaJ hab,decide_eq_true hab]; rfl
     ·rw [yH hab,decide_eq_false hab,Bool.not_false,xQ]
      exact key _ _ rfl rfl
  ·rw [xE (by omega),decide_eq_false q2]; rfl
 ·rw [xE (by omega),decide_eq_false q1]; rfl
end
section
set_option linter.unusedVariables false
set_option linter.unusedSimpArgs false
variable {β:Type}
theorem zxF (h:Hs) (l:List Hs):l.any (isH h)=decide (h.l ∈ l.map (·.l)):=by
 rw [Bool.eq_iff_iff,List.any_eq_true,decide_eq_true_eq,List.mem_map]
 constructor
 ·rintro ⟨x,hx,e⟩; exact ⟨x,hx,of_decide_eq_true e⟩
 ·rintro ⟨x,hx,e⟩; exact ⟨x,hx,decide_eq_true e⟩
theorem zzf (l:List Stm) {i:Nat} (hi:i < l.length):decide (zeq (isS l[i].h) l 0=(i:Int))=!(decide ((l.map (·.id))[i]'(by simpa using hi) ∈ (l.map (·.id)).take i)):=by
 have e:(l.map (·.id))[i]'(by simpa using hi)=l[i].h.l:=by simp [Stm.h]
 rw [e,← decide_not]
 apply decide_eq_decide.2
 rcases zl0 (isS l[i].h) l 0 with ⟨h1,h2⟩ | ⟨j,hj,h1,h2,h3⟩
 ·have:=h2 l[i] (List.getElem_mem hi)
  simp [isS,Stm.h] at this
 ·rw [h1,Nat.zero_add]
  constructor
  ·intro hji
   have hji:j=i:=by omega
   subst hji
   intro hm
   rw [← List.map_take] at hm
   obtain ⟨s,hs,e⟩:=List.mem_map.1 hm
   have:=h2 s hs
   simp [isS,e] at this
  ·intro hn
   by_cases hji:j=i
   ·rw [hji]
   ·exfalso
    rcases Nat.lt_or_gt_of_ne hji with q | q
    ·apply hn
     rw [← List.map_take]
     refine List.mem_map.2 ⟨l[j],?_,by simpa [isS] using h3⟩
     rw [List.mem_take_iff_getElem]
     exact ⟨j,by omega,rfl⟩
    ·have:=h2 l[i] (by
      rw [List.mem_take_iff_getElem]
      exact ⟨i,by omega,rfl⟩)
     simp [isS,Stm.h] at this
theorem zv5 (L:Nat) (hL:2000≤L) (r:Rl) (hr:r.Ok) (kr:Bool→Option β) (kx:List V→Option β):∀ (n i:Nat),i≤r.fl.length→r.fl.length - i < n →
  zdN ye zc L kr kx n (i:Int) r.v=ifb (zbK ((zer r).take i) ((zer r).drop i)) (kx r.v) (kr false)
 | 0,i,h1,h2=>by omega
 | n+1,i,h1,h2=>by
  have h3:=hr.nf
  simp only [zdN,zhz,xw,zlT,List.length_map]
  by_cases hi:i < r.fl.length
  ·have hi':i < (zer r).length:=by simpa [zer] using hi
   have e:(zer r)[i]=r.fl[i].l:=by simp [zer]
   rw [xE (by omega),zk ⟨by omega,by omega⟩,z9 (ziC hi),List.drop_zero,Nat.sub_zero,Int.toNat_natCast,← List.map_take,xY,ztc (by rw [List.length_take]; omega) hL,zN (by omega),zv5 L hL r hr kr kx n (i+1) (by omega) (by omega),zpP _ hi',zxF,← e]
   rw [show (r.fl.take i).map (·.l)=(zer r).take i by rw [zer,List.map_take]]
   cases decide ((zer r)[i] ∈ (zer r).take i) <;> rfl
  ·have e2:(zer r).drop i=[]:=List.drop_of_length_le (by simp [zer]; omega)
   rw [xz (by omega),e2]; rfl
theorem zwb (L:Nat) (hL:2000≤L) (r:Rl) (hr:r.Ok) (kr:Bool→Option β) (kx:Option β):∀ (n i:Nat),i≤r.st.length→r.st.length - i < n →
  zdh ye zc L kr kx n (i:Int) r.v=ifb (zbK ((zdz r).take i) ((zdz r).drop i) && ((zdz r).drop i).all (fun x=>!(decide (x ∈ zer r)))) kx (kr false)
 | 0,i,h1,h2=>by omega
 | n+1,i,h1,h2=>by
  have h3:=hr.nf
  have h4:=hr.ns
  simp only [zdh,zg3,xw,zeG,zlT,List.length_map]
  by_cases hi:i < r.st.length
  ·have hi':i < (zdz r).length:=by simpa [zdz] using hi
   have e:(zdz r)[i]=r.st[i].h.l:=by simp [zdz,Stm.h]
   have ef:=zzf r.st hi
   rw [xE (by omega),z9 (zfx hi),zqX,zuq (by omega) hL,z9 (zfx hi),zqX,ztc (by omega) hL,zN (by omega),zwb L hL r hr kr kx n (i+1) (by omega) (by omega),zpP _ hi',zxF,← e,zcf]
   have es:decide (zeq (isS r.st[i].h) r.st 0=(i:Int))=!(decide ((zdz r)[i] ∈ (zdz r).take i)):=ef
   have ed:((zdz r).drop i).all (fun x=>!(decide (x ∈ zer r)))=(!(decide ((zdz r)[i] ∈ zer r)) && ((zdz r).drop (i+1)).all (fun x=>!(decide (x ∈ zer r)))):=by
    rw [List.drop_eq_getElem_cons hi']; rfl
   rw [ed,show r.fl.map (·.l)=zer r from rfl]
   by_cases hf:zeq (isS r.st[i].h) r.st 0=(i:Int)
   ·rw [if_pos hf]
    rw [decide_eq_true hf] at es
    rw [← es,Bool.true_and]
    cases decide ((zdz r)[i] ∈ zer r) with
    | true=>rw [xQ,Bool.not_true,Bool.false_and,Bool.and_false,xy]
    | false=>rw [xy,Bool.not_false,Bool.true_and]
   ·rw [if_neg hf]
    rw [decide_eq_false hf] at es
    rw [← es,Bool.false_and,Bool.false_and,xy]
  ·have e2:(zdz r).drop i=[]:=List.drop_of_length_le (by simp [zdz]; omega)
   rw [xz (by omega),e2]; rfl
theorem zyn (r:Rl):(zbK [] (zer r) && (zbK [] (zdz r) && (zdz r).all (fun x=>!(decide (x ∈ zer r)))))=(zbK [] (zdz r) && zbK (zdz r) (zer r)):=by
 rw [Bool.eq_iff_iff]
 simp only [Bool.and_eq_true,zs9,List.all_eq_true,Bool.not_eq_true',decide_eq_false_iff_not,List.not_mem_nil,not_false_eq_true,implies_true,and_true]
 constructor
 ·rintro ⟨h1,h2,h3⟩; exact ⟨h2,h1,fun x hx hs=>h3 x hs hx⟩
 ·rintro ⟨h2,h1,h3⟩; exact ⟨h1,h2,fun x hx hf=>h3 x hf hx⟩
theorem zq4 {L:Nat} {r:Rl} (hr:r.Ok) (hL:2000≤L) (k:Bool→Option β):xj β L r.v k=k (ze2 r):=by
 have h1:=hr.nr; have h2:=hr.ns; have h3:=hr.nf
 obtain ⟨L',rfl⟩:=Nat.exists_eq_add_of_le hL
 unfold xj zjq zmz
 rw [← zAf (ze2 r) k,ze2,zfw,zfw,zfw,zfw]
 simp only [zeg,zeG,zlT,xS,List.length_map]
 by_cases q1:r.rt.length≤2
 ·rw [xz (by omega),decide_eq_true q1,xQ]
  by_cases q2:r.st.length≤64
  ·rw [xz (by omega),decide_eq_true q2,xQ,xz (by omega),decide_eq_true (by omega:r.fl.length≤2048),xQ]
   have key:zE ye zc (2000+L') r.v k=ifb (zbK [] (zdz r) && zbK (zdz r) (zer r)) (k true) (k false):=by
    unfold zE zgM
    refine (zv5 (2000+L') hL r hr _ _ (2000+L') 0 (by omega) (by omega)).trans ?_
    simp only [List.take_zero,List.drop_zero]
    rw [← zyn r,zfw]
    cases zbK [] (zer r) with
    | false=>rfl
    | true =>
     rw [xQ,xQ]
     unfold zd0 zgw
     refine (zwb (2000+L') hL r hr _ _ (2000+L') 0 (by omega) (by omega)).trans ?_
     simp only [List.take_zero,List.drop_zero]
     rfl
   rw [show 2000+L'=(1997+L')+1+1+1 by omega] at key ⊢
   generalize hM:1997+L'=M at key ⊢
   rcases znt q1 with e | ⟨a,e⟩ | ⟨a,b,e⟩
   ·refine (show _=zP ye zc (M+1+1+1) ((0:Nat):Int) r.v (fun p2=>yK ye zc (M+1+1+1) p2 k) (fun p3 b1=>zaW ye zc (M+1+1+1) (fun p2=>yK ye zc (M+1+1+1) p2 k) (fun b1=>zE ye zc (M+1+1+1) b1 k) (M+1+1) p3 b1) (fun b1=>zE ye zc (M+1+1+1) b1 k) from rfl).trans ?_
    unfold zP
    rw [zeg,xS,xz (by rw [e]; decide)]
    refine key.trans ?_
    rw [rtB,e]; rfl
   ·have e0:(zaV .i64 r.rt)[0]?=some [V.sc (.int .i64 a)]:=by rw [e]; rfl
    refine (show _=zP ye zc (M+1+1+1) ((0:Nat):Int) r.v (fun p2=>yK ye zc (M+1+1+1) p2 k) (fun p3 b1=>zaW ye zc (M+1+1+1) (fun p2=>yK ye zc (M+1+1+1) p2 k) (fun b1=>zE ye zc (M+1+1+1) b1 k) (M+1+1) p3 b1) (fun b1=>zE ye zc (M+1+1+1) b1 k) from rfl).trans ?_
    unfold zP
    rw [zeg,xS,xE (by rw [e]; simp),zeg,z9 e0,zcX rfl,xz (by decide:¬ ((0:Nat):Int) > 0),xw,zN (by omega)]
    rw [show rtB r.rt=decide (0≤a) by rw [rtB,e]; simp]
    by_cases ha:0≤a
    ·rw [xz (by omega),decide_eq_true ha,xQ]
     refine (show _=zP ye zc (M+1+1+1) ((1:Nat):Int) r.v (fun p2=>yK ye zc (M+1+1+1) p2 k) (fun p3 b1=>zaW ye zc (M+1+1+1) (fun p2=>yK ye zc (M+1+1+1) p2 k) (fun b1=>zE ye zc (M+1+1+1) b1 k) (M+1) p3 b1) (fun b1=>zE ye zc (M+1+1+1) b1 k) from rfl).trans ?_
     unfold zP
     rw [zeg,xS,xz (by rw [e]; simp)]
     exact key
    ·rw [xE (by omega),decide_eq_false ha]; rfl
   ·have e0:(zaV .i64 r.rt)[0]?=some [V.sc (.int .i64 a)]:=by rw [e]; rfl
    have e1:(zaV .i64 r.rt)[1]?=some [V.sc (.int .i64 b)]:=by rw [e]; rfl
    refine (show _=zP ye zc (M+1+1+1) ((0:Nat):Int) r.v (fun p2=>yK ye zc (M+1+1+1) p2 k) (fun p3 b1=>zaW ye zc (M+1+1+1) (fun p2=>yK ye zc (M+1+1+1) p2 k) (fun b1=>zE ye zc (M+1+1+1) b1 k) (M+1+1) p3 b1) (fun b1=>zE ye zc (M+1+1+1) b1 k) from rfl).trans ?_
    unfold zP
    rw [zeg,xS,xE (by rw [e]; simp),zeg,z9 e0,zcX rfl,xz (by decide:¬ ((0:Nat):Int) > 0),xw,zN (by omega)]
    rw [show rtB r.rt=(decide (0≤a) && (decide (0≤b) && !(decide (a=b)))) by rw [rtB,e]; simp [Bool.and_assoc]]
    by_cases ha:0≤a
    ·rw [xz (by omega),decide_eq_true ha,Bool.true_and,zfw]
     refine (show _=zP ye zc (M+1+1+1) ((1:Nat):Int) r.v (fun p2=>yK ye zc (M+1+1+1) p2 k) (fun p3 b1=>zaW ye zc (M+1+1+1) (fun p2=>yK ye zc (M+1+1+1) p2 k) (fun b1=>zE ye zc (M+1+1+1) b1 k) (M+1) p3 b1) (fun b1=>zE ye zc (M+1+1+1) b1 k) from rfl).trans ?_
     unfold zP
     rw [zeg,xS,xE (by rw [e]; simp),zeg,z9 e1,zcX rfl,xE (by decide:((1:Nat):Int) > 0),zeg,zjB (by decide) e0,zcX rfl,zeg,zjB (by decide) e1,zcX rfl,xw,zN (by omega)]
     by_cases hb:0≤b
     ·rw [xz (by omega),decide_eq_true hb,xQ]
      by_cases hab:a=b
      ·rw [zaJ hab,decide_eq_true hab]; rfl
      ·rw [yH hab,decide_eq_false hab,Bool.not_false,xQ]
       refine (show _=zP ye zc (M+1+1+1) ((2:Nat):Int) r.v (fun p2=>yK ye zc (M+1+1+1) p2 k) (fun p3 b1=>zaW ye zc (M+1+1+1) (fun p2=>yK ye zc (M+1+1+1) p2 k) (fun b1=>zE ye zc (M+1+1+1) b1 k) M p3 b1) (fun b1=>zE ye zc (M+1+1+1) b1 k) from rfl).trans ?_
       unfold zP
       rw [zeg,xS,xz (by rw [e]; simp)]
       exact key
     ·rw [xE (by omega),decide_eq_false hb]; rfl
    ·rw [xE (by omega),decide_eq_false ha]; rfl
  ·rw [xE (by omega),decide_eq_false q2]; rfl
 ·rw [xE (by omega),decide_eq_false q1]; rfl
end
section
set_option linter.unusedVariables false
set_option linter.unusedSimpArgs false
variable {β:Type}
def sfl (l:List Stm):List V:=(l.map Stm.v).flatten
def hfl (l:List Hs):List V:=(l.map Hs.v).flatten
def ifl (l:List Int):List V:=(zaV .i64 l).flatten
theorem zqz (l:List Int):∀ e ∈ zaV .i64 l,e.length=1:=by
 intro e he
 obtain ⟨n,_,rfl⟩:=List.mem_map.1 he; rfl
theorem zic (l:List Stm):∀ e ∈ l.map Stm.v,e.length=35:=by
 intro e he
 obtain ⟨s,_,rfl⟩:=List.mem_map.1 he; exact ze9 s
theorem zpz (l:List Hs):∀ e ∈ l.map Hs.v,e.length=32:=by
 intro e he
 obtain ⟨s,_,rfl⟩:=List.mem_map.1 he; exact zcZ s
theorem chI (l:List Int):xb 1 l.length (ifl l)=zaV .i64 l:=by
 have:=zfL (zqz l); rwa [xS] at this
theorem chS (l:List Stm):xb 35 l.length (sfl l)=l.map Stm.v:=by
 have:=zfL (zic l); rwa [List.length_map] at this
theorem chH (l:List Hs):xb 32 l.length (hfl l)=l.map Hs.v:=by
 have:=zfL (zpz l); rwa [List.length_map] at this
theorem zeS (l:List Stm):(sfl l).length=l.length * 35:=by
 have:=zsD (zic l); rwa [List.length_map] at this
theorem zxx (l:List Hs):(hfl l).length=l.length * 32:=by
 have:=zsD (zpz l); rwa [List.length_map] at this
theorem zAD (l:List Int):(ifl l).length=l.length * 1:=by
 have:=zsD (zqz l); rwa [xS] at this
theorem zwI (a:Option β) (b:List V→List (List V)→Option β):lc [] a b=a:=Eq.trans rfl rfl
theorem zun (x:List V) (l:List (List V)) (a:Option β) (b:List V→List (List V)→Option β):lc (x::l) a b=b x l:=Eq.trans rfl rfl
theorem zBM (L:Nat) (l:List Int) (hl:l.length≤1000) (k:List (List V)→Option β):zA β L (zaV .i64 l) k=k (zaV .i64 l):=by
 unfold zA zfp
 cases h:zaV .i64 l with
 | nil=>rw [zwI]
 | cons x m =>
  have hlen:(x::m).length≤1000:=by rw [← h,xS]; exact hl
  rw [zun,zk (by simp only [yi]; omega),zk (.inl (by simp)),zfL (by rw [← h]; exact zqz l)]
theorem zBf (L:Nat) (l:List Stm) (hl:l.length≤1000) (k:List (List V)→Option β):zp β L (l.map Stm.v) k=k (l.map Stm.v):=by
 unfold zp zcG
 cases h:l.map Stm.v with
 | nil=>rw [zwI]
 | cons x m =>
  have hlen:(x::m).length≤1000:=by rw [← h,List.length_map]; exact hl
  rw [zun,zk (by simp only [yi]; omega),zk (.inl (by simp)),zfL (by rw [← h]; exact zic l)]
theorem zBB (L:Nat) (l:List Hs) (hl:l.length≤1000) (k:List (List V)→Option β):yp β L (l.map Hs.v) k=k (l.map Hs.v):=by
 unfold yp zcK
 cases h:l.map Hs.v with
 | nil=>rw [zwI]
 | cons x m =>
  have hlen:(x::m).length≤1000:=by rw [← h,List.length_map]; exact hl
  rw [zun,zk (by simp only [yi]; omega),zk (.inl (by simp)),zfL (by rw [← h]; exact zpz l)]
theorem zjR {L:Nat} {r:Rl} (hr:r.Ok) (k:Int→Bool→Nat→Nat→Nat→List V→List V→List V→Option β):zs β L r.v k=k r.ep r.df r.rt.length r.st.length r.fl.length (ifl r.rt) (sfl r.st) (hfl r.fl):=by
 have h1:=hr.nr; have h2:=hr.ns; have h3:=hr.nf
 unfold zs zlh
 rw [zgd,zg2,zf3,ziP,ziu,ziH,zBM L _ (by omega),zBf L _ (by omega),zBB L _ (by omega),xS,List.length_map,List.length_map]
 exact Eq.trans rfl rfl
theorem zdm {L:Nat} {r:Rl} (hr:r.Ok) (k:Int→Bool→Nat→Nat→Nat→List V→List V→List V→Option β):xg β L r.v k=k r.ep r.df r.rt.length r.st.length r.fl.length (ifl r.rt) (sfl r.st) (hfl r.fl):=by
 have h1:=hr.nr; have h2:=hr.ns; have h3:=hr.nf
 unfold xg zlH
 rw [zgd,zg2,zf3,ziP,ziu,ziH,xS,List.length_map,List.length_map,zk (by simp only [yi]; omega),zk (by simp only [yi]; omega),zk (by simp only [yi]; omega)]
 exact Eq.trans rfl rfl
def zaK (rt:List Int) (p:Int):Int:=match rt with
 | []=>-1
 | [a]=>if a=p then -1 else a
 | a::b::_=>if p≠-1∧Int.tmod p 2≠0 then (if b=p then a else b) else (if a=p then b else a)
theorem zyg (a:Int) (l:List Int) (k:List V→Option β):idx (zaV .i64 (a::l)) (0:Int) k=k [V.sc (.int .i64 a)]:=zjB (by decide) rfl k
theorem zBd (a b:Int) (l:List Int) (k:List V→Option β):idx (zaV .i64 (a::b::l)) (1:Int) k=k [V.sc (.int .i64 b)]:=zjB (by decide) rfl k
theorem cI1 (a:Int) (k:Int→Option β):cI .i64 [V.sc (.int .i64 a)] 0 k=k a:=zcX rfl k
theorem w10:IntKind.wrap .i64 ((1:Int) - (0:Int))=1:=by decide
theorem w11:IntKind.wrap .i64 ((1:Int) - (1:Int))=0:=by decide
theorem zzH (L:Nat) (r:Rl) (h:r.rt.length≤2) (p:Int) (k:Int→Option β):zcT β L r.v p k=k (zaK r.rt p):=by
 obtain ⟨ep,df,rt,st,fl⟩:=r
 unfold zcT zp5
 simp only [zeg,xw]
 rcases znt h with e | ⟨a,e⟩ | ⟨a,b,e⟩ <;> simp only at e <;> subst e
 ·simp only [xS,List.length_nil]
  rw [zaJ (by decide)]; rfl
 ·simp only [xS,List.length_cons,List.length_nil,zyg,cI1]
  rw [yH (by decide),xz (by decide),xz (by decide),zcf]
  by_cases q:a=p <;> simp [zaK,q]
 ·simp only [xS,List.length_cons,List.length_nil,zyg,zBd,cI1,w10,w11]
  rw [yH (by decide),xE (by decide),xE (by decide)]
  simp only [zcf]
  unfold zaK
  by_cases q1:p=-1
  ·subst q1; simp; split <;> rfl
  ·by_cases q2:Int.tmod p 2=0
   ·simp [q1,q2]; split <;> rfl
   ·simp [q1,q2]; split <;> rfl
theorem zyQ (L:Nat) (r:Rl) (h:r.rt.length≤2) (p:Int) (k:Int→Option β):zcS β L r.v p k=k (zaK r.rt p):=by
 obtain ⟨ep,df,rt,st,fl⟩:=r
 unfold zcS zp7
 simp only [zeg,xw]
 rcases znt h with e | ⟨a,e⟩ | ⟨a,b,e⟩ <;> simp only at e <;> subst e
 ·simp only [xS,List.length_nil]
  rw [zaJ (by decide)]; rfl
 ·simp only [xS,List.length_cons,List.length_nil,zyg,cI1]
  rw [yH (by decide),xz (by decide),zcf,zaJ (by decide)]
  by_cases q:a=p <;> simp [zaK,q]
 ·simp only [xS,List.length_cons,List.length_nil,zyg,zBd,cI1,w10,w11]
  rw [yH (by decide),xE (by decide)]
  simp only [zcf]
  have n1:∀ x y:Option β,ifb ((((0+1+1:Nat):Int)) == 1) x y=y:=fun x y=>yH (by decide) x y
  simp only [n1]
  unfold zaK
  by_cases q1:p=-1
  ·subst q1; simp; split <;> rfl
  ·by_cases q2:Int.tmod p 2=0
   ·simp [q1,q2]; split <;> rfl
   ·simp [q1,q2]; split <;> rfl
theorem zsi {rt:List Int} (h:rt.length≤2) (hb:rtB rt=true) (p:Int):zaK rt p=-1∨0≤zaK rt p:=by
 unfold rtB at hb
 simp only [Bool.and_eq_true,List.all_eq_true,decide_eq_true_eq] at hb
 rcases znt h with e | ⟨a,e⟩ | ⟨a,b,e⟩ <;> subst e
 ·exact .inl rfl
 ·have:=hb.1 a (by simp)
  show (if a=p then -1 else a)=-1∨0≤(if a=p then -1 else a)
  by_cases q:a=p
  ·exact .inl (if_pos q)
  ·exact .inr (by rw [if_neg q]; exact this)
 ·have h1:=hb.1 a (by simp)
  have h2:=hb.1 b (by simp)
  right
  show 0≤(if p≠-1∧Int.tmod p 2≠0 then (if b=p then a else b) else (if a=p then b else a))
  split <;> split <;> assumption
theorem zz7 {a:Int} (h0:0≤a) (h1:a≤4294967295):zyt .u32 a=4294967295 - a:=by
 obtain ⟨x,rfl⟩:=Int.eq_ofNat_of_zero_le h0
 have e1:BitVec.ofInt 32 (IntKind.max .u32)=BitVec.allOnes 32:=by decide
 have key:zyt .u32 (x:Int)=IntKind.wrap .u32 (((BitVec.allOnes 32 ^^^ BitVec.ofInt 32 (x:Int)).toNat:Nat):Int):=by
  rw [← e1]; rfl
 have e2:(BitVec.ofInt 32 (x:Int)).toNat=x:=by
  rw [BitVec.toNat_ofInt]
  show ((x:Int) % ((2 ^ 32:Nat):Int)).toNat=_
  rw [← Int.natCast_emod,Int.toNat_natCast,Nat.mod_eq_of_lt (by omega)]
 rw [key,BitVec.allOnes_xor,BitVec.toNat_not,e2,zsJ (by omega) (by omega)]
 omega
def zhe (a b:Int):Int:=if b > 4294967295 - a then 4294967295 else a+b
theorem zzJ (L:Nat) {a b:Int} (ha:0≤a∧a≤4294967295) (hb:0≤b∧b≤4294967295) (k:Int→Option β):zbg β L a b k=k (zhe a b):=by
 unfold zbg zqd zhe
 have e:zyt .u32 a=4294967295 - a:=zz7 ha.1 ha.2
 simp only [xw,e,zo8]
 split
 ·rfl
 ·rw [zsJ (by omega) (by omega)]
theorem zzi (L:Nat) {a b:Int} (ha:0≤a∧a≤4294967295) (hb:0≤b∧b≤4294967295) (k:Int→Option β):zb6 β L a b k=k (zhe a b):=by
 unfold zb6 zp4 zhe
 simp only [xw]
 rw [zsF ha.1 (by omega),zsF hb.1 (by omega),zsF (by omega) (by omega)]
 unfold zBv
 split <;> split <;> rw [zsJ (by omega) (by omega)] <;> congr 1 <;> omega
theorem zoU {p q:List V} {n j:Nat} {x:V} (h:p.length=n) (hj:j < q.length):ya (p++q) (n+j) [x]=p++q.set j x:=by
 rw [zy7 (by rw [List.length_append]; omega),List.set_append,if_neg (by omega),h,Nat.add_sub_cancel_left]
theorem zwV (h:Hs) (fr to due:Int):ya (ya (ya (ya (List.replicate 32 (V.sc (.int .u8 (0:Int)))++[(V.sc (.int .i64 (0:Int))),(V.sc (.int .i64 (0:Int))),(V.sc (.int .u32 (0:Int)))]) 0 h.v) 32 [(V.sc (.int .i64 fr))]) 33 [(V.sc (.int .i64 to))]) 34 [(V.sc (.int .u32 due))]=(Stm.mk h.l fr to due h.hl).v:=by
 have e0:ya (List.replicate 32 (V.sc (.int .u8 (0:Int)))++[(V.sc (.int .i64 (0:Int))),(V.sc (.int .i64 (0:Int))),(V.sc (.int .u32 (0:Int)))]) 0 h.v=h.v++[(V.sc (.int .i64 (0:Int))),(V.sc (.int .i64 (0:Int))),(V.sc (.int .u32 (0:Int)))]:=by
  have:=zcZ h
  unfold ya
  rw [List.take_zero,List.nil_append,Nat.zero_add,this]
  congr 1
 rw [e0,zoU (n:=32) (j:=0) (zcZ h) (by decide),zoU (n:=32) (j:=1) (zcZ h) (by simp),zoU (n:=32) (j:=2) (zcZ h) (by simp)]
 exact Eq.trans rfl rfl
theorem zpN (s:Stm):xb 35 1 (ya (List.replicate 32 (V.sc (.int .u8 (0:Int)))++[(V.sc (.int .i64 (0:Int))),(V.sc (.int .i64 (0:Int))),(V.sc (.int .u32 (0:Int)))]) 0 s.v)=[s.v]:=by
 rw [zty,xb,zka]; exact Eq.trans rfl rfl
theorem zxl (l:List Stm) (s:Stm):List.take (l.length * 35) (sfl l)++List.flatten [s.v]=sfl (l++[s]):=by
 rw [List.take_of_length_le (by rw [zeS]; omega),sfl,sfl,List.map_append,List.flatten_append]; exact Eq.trans rfl rfl
theorem zCf (l:List Stm) (s:Stm):xb 35 (l.length+List.length [s.v]) (sfl (l++[s]))=(l++[s]).map Stm.v:=by
 have:=chS (l++[s]); rwa [List.length_append] at this
theorem z0 (h:Hs):(List.length (ya (List.replicate 32 (V.sc (.int .u8 (0:Int)))++[(V.sc (.int .i64 (0:Int))),(V.sc (.int .i64 (0:Int))),(V.sc (.int .u32 (0:Int)))]) 0 h.v))=35:=by
 rw [zmb (by rw [zcZ]; decide)]; rfl
theorem z1 (h:Hs) (a:V):(List.length (ya (ya (List.replicate 32 (V.sc (.int .u8 (0:Int)))++[(V.sc (.int .i64 (0:Int))),(V.sc (.int .i64 (0:Int))),(V.sc (.int .u32 (0:Int)))]) 0 h.v) 32 [a]))=35:=by
 rw [zmb (by rw [z0,List.length_singleton]; omega),z0]
theorem z2 (h:Hs) (a b:V):(List.length (ya (ya (ya (List.replicate 32 (V.sc (.int .u8 (0:Int)))++[(V.sc (.int .i64 (0:Int))),(V.sc (.int .i64 (0:Int))),(V.sc (.int .u32 (0:Int)))]) 0 h.v) 32 [a]) 33 [b]))=35:=by
 rw [zmb (by rw [z1,List.length_singleton]; omega),z1]
end
section
set_option linter.unusedVariables false
set_option linter.unusedSimpArgs false
variable {β:Type}
def ziJ:List V:=[(V.sc (.int .u32 (0:Int))),(V.sc (.bool false)),(V.sl 1 ([]:List (List V))),(V.sl 35 ([]:List (List V))),(V.sl 32 ([]:List (List V)))]
def Rl.more (r:Rl) (s:Stm):Rl:={ r with st:=r.st++[s] }
theorem zga (r:Rl):[(V.sc (.int .u32 r.ep)),(V.sc (.bool r.df)),(V.sl 1 (zaV .i64 r.rt)),(V.sl 35 (r.st.map Stm.v)),(V.sl 32 (r.fl.map Hs.v))]=r.v:=Eq.trans rfl rfl
theorem ziQ (r:Rl):[(V.sc (.int .u32 r.ep)),(V.sc (.bool r.df)),(V.sl 1 (xb 1 r.rt.length (ifl r.rt))),(V.sl 35 (xb 35 r.st.length (sfl r.st))),(V.sl 32 (xb 32 r.fl.length (hfl r.fl)))]=r.v:=by
 rw [chI,chS,chH]; exact Eq.trans rfl rfl
theorem zxr (r:Rl) (s:Stm):[(V.sc (.int .u32 r.ep)),(V.sc (.bool r.df)),(V.sl 1 (xb 1 r.rt.length (ifl r.rt))),(V.sl 35 (xb 35 (r.st.length+List.length [s.v]) (sfl (r.st++[s])))),(V.sl 32 (xb 32 r.fl.length (hfl r.fl)))]=(r.more s).v:=by
 rw [chI,zCf,chH]; exact Eq.trans rfl rfl
def zjp (r:Rl) (p:Int) (h:Hs) (now wait:Int) (k:List V→Int→Int→Option β):Option β :=
 ifb (!ze2 r) (k ziJ 0 6) (ifb (decide (p < -1)) (k ziJ 0 6) (ifb (r.st.any (isS h)) (k ziJ 0 150) (ifb (r.fl.any (isH h)) (k ziJ 0 150)
  (if r.df=true∧p≠-1 then k r.v (-1) 0 else if zaK r.rt p=-1 then k r.v (-1) 0 else if 64≤r.st.length then k ziJ 0 380 else k (r.more ⟨h.l,p,zaK r.rt p,zhe now wait,h.hl⟩).v (zaK r.rt p) 0))))
theorem zxk {r:Rl} (h:ze2 r=true):r.rt.length≤2∧rtB r.rt=true:=by
 unfold ze2 at h
 simp only [Bool.and_eq_true,decide_eq_true_eq] at h
 exact ⟨h.1,h.2.2.2.1⟩
theorem zBL {r:Rl} (hr:r.Ok) (p:Int) (h:Hs) (to due:Int) (k:List V→Int→Int→Option β) :
  chk ((List.length h.v)=32∧0+32≤35) (
  chk (1=1∧32+1≤(List.length (ya (List.replicate 32 (V.sc (.int .u8 (0:Int)))++[(V.sc (.int .i64 (0:Int))),(V.sc (.int .i64 (0:Int))),(V.sc (.int .u32 (0:Int)))]) 0 h.v))) (
  chk (1=1∧33+1≤(List.length (ya (ya (List.replicate 32 (V.sc (.int .u8 (0:Int)))++[(V.sc (.int .i64 (0:Int))),(V.sc (.int .i64 (0:Int))),(V.sc (.int .u32 (0:Int)))]) 0 h.v) 32 [(V.sc (.int .i64 p))]))) (
  chk (1=1∧34+1≤(List.length (ya (ya (ya (List.replicate 32 (V.sc (.int .u8 (0:Int)))++[(V.sc (.int .i64 (0:Int))),(V.sc (.int .i64 (0:Int))),(V.sc (.int .u32 (0:Int)))]) 0 h.v) 32 [(V.sc (.int .i64 p))]) 33 [(V.sc (.int .i64 to))]))) (
  chk ((List.length (ya (ya (ya (ya (List.replicate 32 (V.sc (.int .u8 (0:Int)))++[(V.sc (.int .i64 (0:Int))),(V.sc (.int .i64 (0:Int))),(V.sc (.int .u32 (0:Int)))]) 0 h.v) 32 [(V.sc (.int .i64 p))]) 33 [(V.sc (.int .i64 to))]) 34 [(V.sc (.int .u32 due))]))=35∧0+35≤35) (
  chk ((r.st.length+List.length (xb 35 1 (ya (List.replicate 32 (V.sc (.int .u8 (0:Int)))++[(V.sc (.int .i64 (0:Int))),(V.sc (.int .i64 (0:Int))),(V.sc (.int .u32 (0:Int)))]) 0 (ya (ya (ya (ya (List.replicate 32 (V.sc (.int .u8 (0:Int)))++[(V.sc (.int .i64 (0:Int))),(V.sc (.int .i64 (0:Int))),(V.sc (.int .u32 (0:Int)))]) 0 h.v) 32 [(V.sc (.int .i64 p))]) 33 [(V.sc (.int .i64 to))]) 34 [(V.sc (.int .u32 due))])))) * 56≤yi∧(r.st.length+List.length (xb 35 1 (ya (List.replicate 32 (V.sc (.int .u8 (0:Int)))++[(V.sc (.int .i64 (0:Int))),(V.sc (.int .i64 (0:Int))),(V.sc (.int .u32 (0:Int)))]) 0 (ya (ya (ya (ya (List.replicate 32 (V.sc (.int .u8 (0:Int)))++[(V.sc (.int .i64 (0:Int))),(V.sc (.int .i64 (0:Int))),(V.sc (.int .u32 (0:Int)))]) 0 h.v) 32 [(V.sc (.int .i64 p))]) 33 [(V.sc (.int .i64 to))]) 34 [(V.sc (.int .u32 due))]))))≤yi∧((r.st.length+List.length (xb 35 1 (ya (List.replicate 32 (V.sc (.int .u8 (0:Int)))++[(V.sc (.int .i64 (0:Int))),(V.sc (.int .i64 (0:Int))),(V.sc (.int .u32 (0:Int)))]) 0 (ya (ya (ya (ya (List.replicate 32 (V.sc (.int .u8 (0:Int)))++[(V.sc (.int .i64 (0:Int))),(V.sc (.int .i64 (0:Int))),(V.sc (.int .u32 (0:Int)))]) 0 h.v) 32 [(V.sc (.int .i64 p))]) 33 [(V.sc (.int .i64 to))]) 34 [(V.sc (.int .u32 due))]))))≠0∨(List.length (sfl r.st))=0)) (
  lt (List.take (r.st.length * 35) (sfl r.st)++List.flatten (xb 35 1 (ya (List.replicate 32 (V.sc (.int .u8 (0:Int)))++[(V.sc (.int .i64 (0:Int))),(V.sc (.int .i64 (0:Int))),(V.sc (.int .u32 (0:Int)))]) 0 (ya (ya (ya (ya (List.replicate 32 (V.sc (.int .u8 (0:Int)))++[(V.sc (.int .i64 (0:Int))),(V.sc (.int .i64 (0:Int))),(V.sc (.int .u32 (0:Int)))]) 0 h.v) 32 [(V.sc (.int .i64 p))]) 33 [(V.sc (.int .i64 to))]) 34 [(V.sc (.int .u32 due))])))) fun r26 =>
  k [(V.sc (.int .u32 r.ep)),(V.sc (.bool r.df)),(V.sl 1 (xb 1 r.rt.length (ifl r.rt))),(V.sl 35 (xb 35 (r.st.length+List.length (xb 35 1 (ya (List.replicate 32 (V.sc (.int .u8 (0:Int)))++[(V.sc (.int .i64 (0:Int))),(V.sc (.int .i64 (0:Int))),(V.sc (.int .u32 (0:Int)))]) 0 (ya (ya (ya (ya (List.replicate 32 (V.sc (.int .u8 (0:Int)))++[(V.sc (.int .i64 (0:Int))),(V.sc (.int .i64 (0:Int))),(V.sc (.int .u32 (0:Int)))]) 0 h.v) 32 [(V.sc (.int .i64 p))]) 33 [(V.sc (.int .i64 to))]) 34 [(V.sc (.int .u32 due))])))) r26)),(V.sl 32 (xb 32 r.fl.length (hfl r.fl)))] to 0))))))
  = k (r.more ⟨h.l,p,to,due,h.hl⟩).v to 0:=by
 have h2:=hr.ns
 rw [zk ⟨zcZ h,by decide⟩,zk ⟨rfl,by rw [z0]; omega⟩,zk ⟨rfl,by rw [z1]; omega⟩,zk ⟨rfl,by rw [z2]; omega⟩]
 rw [zwV,zpN,zk ⟨ze9 _,by decide⟩,zk (by simp only [List.length_singleton,yi]; omega),xw,zxl,zxr]
theorem zAH {L:Nat} {r:Rl} (hr:r.Ok) (hL:2000≤L) (p:Int) (h:Hs) {now wait:Int} (hn:0≤now∧now≤4294967295) (hw:0≤wait∧wait≤4294967295) (k:List V→Int→Int→Option β):yg β L r.v p h.v now wait k=zjp r p h now wait k:=by
 have h1:=hr.nr; have h2:=hr.ns; have h3:=hr.nf
 unfold yg zq1
 rw [zgd,zg2,zf3,ziP,ziu,ziH,zga r,zss hr hL]
 unfold zjp
 cases hs:ze2 r with
 | false=>rfl
 | true =>
  obtain ⟨q1,q2⟩:=zxk hs
  rw [Bool.not_true,xy,xy,zaH,xY,zAs (by omega) hL,zur,zaH,zsf (by omega) hL,zzH L r q1]
  congr 1
  congr 1
  congr 1
  rcases zsi q1 q2 p with e | e
  ·rw [e]
   have n1:∀ x y:Option β,ifb ((-1:Int) != -1) x y=y:=fun x y=>by rw [zcf,if_pos rfl]
   rw [n1,zjR hr,zjR hr,n1,ziQ]
   cases r.df with
   | false=>rw [xy,if_neg (by simp),if_pos rfl]
   | true =>
    rw [xQ,zcf]
    by_cases hp:p=-1
    ·rw [if_pos hp,if_neg (by simp [hp]),if_pos rfl]
    ·rw [if_neg hp,if_pos ⟨rfl,hp⟩]
  ·have ne:zaK r.rt p≠-1:=by omega
   have n1:∀ x y:Option β,ifb (zaK r.rt p != -1) x y=x:=fun x y=>by rw [zcf,if_neg ne]
   rw [n1,zjR hr,zjR hr,n1,zaH,zzJ L hn hw,List.length_map]
   have main:ifb (decide (((r.st.length:Nat):Int) ≥ (64:Int))) (k ziJ 0 380) (k (r.more ⟨h.l,p,zaK r.rt p,zhe now wait,h.hl⟩).v (zaK r.rt p) 0)=(if zaK r.rt p=-1 then k r.v (-1) 0 else if 64≤r.st.length then k ziJ 0 380 else k (r.more ⟨h.l,p,zaK r.rt p,zhe now wait,h.hl⟩).v (zaK r.rt p) 0):=by
    rw [if_neg ne,zo8]
    by_cases hq:64≤r.st.length
    ·rw [if_pos (by omega),if_pos hq]
    ·rw [if_neg (by omega),if_neg hq]
   have ad:=zBL hr p h (zaK r.rt p) (zhe now wait) k
   rw [ad,ziQ]
   cases r.df with
   | false=>rw [xy,if_neg (by simp)]; exact main
   | true =>
    rw [xQ,zcf]
    by_cases hp:p=-1
    ·rw [if_pos hp,if_neg (by simp [hp])]; exact main
    ·rw [if_neg hp,if_pos ⟨rfl,hp⟩]
theorem zzP {L:Nat} {r:Rl} (hr:r.Ok) (hL:2000≤L) (p:Int) (h:Hs) {now wait:Int} (hn:0≤now∧now≤4294967295) (hw:0≤wait∧wait≤4294967295) (k:List V→Int→Int→Option β):xq β L r.v p h.v now wait k=zjp r p h now wait k:=by
 have h1:=hr.nr; have h2:=hr.ns; have h3:=hr.nf
 unfold xq zqB
 rw [za6,zia,zq4 hr hL]
 unfold zjp
 cases hs:ze2 r with
 | false=>rfl
 | true =>
  obtain ⟨q1,q2⟩:=zxk hs
  rw [Bool.not_true,xy,xy,zeG,zaH,xY,zuq (by omega) hL,zur,zlT,zaH,ztc (by omega) hL,za6,zdm hr,za6,zyQ L r q1,zf3]
  congr 1
  congr 1
  congr 1
  rw [ziQ]
  rcases zsi q1 q2 p with e | e
  ·rw [e]
   have n1:∀ x y:Option β,ifb (decide ((-1:Int) < 0)) x y=x:=fun x y=>xE (by decide) x y
   rw [n1]
   cases r.df with
   | false=>rw [xy,if_neg (by simp),if_pos rfl]
   | true =>
    rw [xQ,zcf]
    by_cases hp:p=-1
    ·rw [if_pos hp,if_neg (by simp [hp]),if_pos rfl]
    ·rw [if_neg hp,if_pos ⟨rfl,hp⟩]
  ·have ne:zaK r.rt p≠-1:=by omega
   have n1:∀ x y:Option β,ifb (decide (zaK r.rt p < 0)) x y=y:=fun x y=>xz (by omega) x y
   rw [n1,zeG,List.length_map,zaH,zzi L hn hw]
   have main:ifb (decide (((r.st.length:Nat):Int) ≥ (64:Int))) (k ziJ 0 380) (k (r.more ⟨h.l,p,zaK r.rt p,zhe now wait,h.hl⟩).v (zaK r.rt p) 0)=(if zaK r.rt p=-1 then k r.v (-1) 0 else if 64≤r.st.length then k ziJ 0 380 else k (r.more ⟨h.l,p,zaK r.rt p,zhe now wait,h.hl⟩).v (zaK r.rt p) 0):=by
    rw [if_neg ne,zo8]
    by_cases hq:64≤r.st.length
    ·rw [if_pos (by omega),if_pos hq]
    ·rw [if_neg (by omega),if_neg hq]
   have ad:=zBL hr p h (zaK r.rt p) (zhe now wait) k
   rw [ad]
   cases r.df with
   | false=>rw [xy,if_neg (by simp)]; exact main
   | true =>
    rw [xQ,zcf]
    by_cases hp:p=-1
    ·rw [if_pos hp,if_neg (by simp [hp])]; exact main
    ·rw [if_neg hp,if_pos ⟨rfl,hp⟩]
end
section
set_option linter.unusedVariables false
set_option linter.unusedSimpArgs false
theorem zkc (L:Nat) (v n:Int) (hn:1≤n) (hn2:n≤1000000000000):∃ r,0≤r∧r < n∧∀ (β:Type) (k:Int→Option β),xd β L v n k=k r:=by
 by_cases h:Int.tmod v n < 0
 ·have h1:=Int.lt_tmod_of_pos v (show 0 < n by omega)
  refine ⟨Int.tmod v n+n,by omega,by omega,fun β k=>?_⟩
  simp only [xd,zm6,xw]
  rw [zk (by omega),xE h,zjz (by omega) (by omega)]
 ·have h1:=Int.tmod_lt_of_pos v (show 0 < n by omega)
  refine ⟨Int.tmod v n,by omega,h1,fun β k=>?_⟩
  simp only [xd,zm6,xw]
  rw [zk (by omega),xz h]
structure Dk where
 l:List Int
 a:Int
 h0:0≤a
 h1:a≤l.length
 hl:l.length≤9223372036854775807
def Dk.es (d:Dk):List (List V):=zaV .i64 d.l
theorem zj0 (L:Nat) (d:Dk) (n:Int) (hn:1≤n) (hn2:n≤1000000000000):∃ (r:Int) (d':Dk),d'.l=d.l∧0≤r∧r < n∧∀ (β:Type) (k:Int→List (List V)→Int→Option β),xc β L n d.es d.a k=k r d'.es d'.a:=by
 obtain ⟨l,a,h0,h1,hl⟩:=d
 simp only [Dk.es]
 by_cases h:a < l.length
 ·obtain ⟨i,rfl⟩:∃ i:Nat,a=i:=⟨a.toNat,by omega⟩
  have hi:i < l.length:=by omega
  obtain ⟨r,q1,q2,q3⟩:=zkc L l[i] n hn hn2
  refine ⟨r,⟨l,i+1,by omega,by omega,hl⟩,rfl,q1,q2,fun β k=>?_⟩
  simp only [xc,zg4,zi,zgS,xw,xS]
  have w1:IntKind.wrap .i64 ((i:Int)+1)=(i:Int)+1:=zjz (by omega) (by omega)
  have w2:IntKind.wrap .i64 ((i:Int)+1 - 1)=(i:Int):=by rw [zjz (by omega) (by omega)]; omega
  rw [zwr,if_pos (by omega),w1,w2,z9 (zlj _ hi),zcX (by rfl),q3]
 ·refine ⟨0,⟨l,a,h0,h1,hl⟩,rfl,by omega,by omega,fun β k=>?_⟩
  simp only [xc,zg4,zi,zgS,xw,xS]
  rw [zwr,if_neg (by omega)]
theorem zxv (x:Int):xb 1 1 [V.sc (.int .i64 x)]=zaV .i64 [x]:=rfl
theorem zy0 (L:Nat):∀ (n m:Nat) (d:Dk) (rt:List Int),m < n→rt.length+m≤100→∃ (rt':List Int) (d':Dk),rt'.length≤rt.length+m∧∀ (β:Type) (kx:zlD β) (a0:Int) (a1:Bool) (a2 a3 a4:List (List V)) (c0:Int) (c1:Bool) (c3 c4:List (List V)),
  zdr xc L kx n (m:Int) d.es d.a a0 a1 a2 a3 a4 c0 c1 (zaV .i64 rt) c3 c4=kx d'.es d'.a a0 a1 a2 a3 a4 c0 c1 (zaV .i64 rt') c3 c4
 | 0,m,d,rt,h,_=>by omega
 | n+1,0,d,rt,h,hm=>by
  refine ⟨rt,d,by omega,fun β kx a0 a1 a2 a3 a4 c0 c1 c3 c4=>?_⟩
  unfold zdr zf0
  rw [xz (by omega)]
 | n+1,m+1,d,rt,h,hm=>by
  obtain ⟨r,d1,_,q1,q2,q3⟩:=zj0 L d 3 (by decide) (by decide)
  obtain ⟨rt',d',e1,e2⟩:=zy0 L n m d1 (rt++[IntKind.wrap .i64 (IntKind.wrap .i64 (3 * (rt.length:Int))+r)]) (by omega) (by simp; omega)
  refine ⟨rt',d',by simp at e1; omega,fun β kx a0 a1 a2 a3 a4 c0 c1 c3 c4=>?_⟩
  unfold zdr zf0
  rw [xE (by omega),xw,q3,xw,zxv,xS,xS,zk (by simp [yi]; omega),xw,zv2,xw,show IntKind.wrap .i64 (((m+1:Nat):Int) - 1)=(m:Int) by rw [zjz (by omega) (by omega)]; omega]
  exact e2 β kx a0 a1 a2 a3 a4 c0 c1 c3 c4
def kid (x:Int):Hs:=⟨x::List.replicate 31 0,by simp⟩
theorem zvU (x:Int):[(V.sc (.int .u8 x))]++List.replicate 31 (V.sc (.int .u8 (0:Int)))=(kid x).v:=by simp [Hs.v,kid,row]
theorem zq2 (h:Hs):xb 32 1 (ya (List.replicate 32 (V.sc (.int .u8 (0:Int)))) 0 h.v)=[h.v]:=by
 rw [ztN,xb,xY]; exact Eq.trans rfl rfl
theorem zwO {l:List Stm} (s:Stm):l.map Stm.v++[s.v]=(l++[s]).map Stm.v:=by simp
theorem zwU {l:List Hs} (s:Hs):l.map Hs.v++[s.v]=(l++[s]).map Hs.v:=by simp
theorem zB7 (l:List Stm) (hl:l.length≤100) (h:Hs) (fr to due:Int) {β:Type} (k:List (List V)→Option β) :
  chk ((List.length h.v)=32∧0+32≤35) (
  chk (1=1∧32+1≤(List.length (ya (List.replicate 32 (V.sc (.int .u8 (0:Int)))++[(V.sc (.int .i64 (0:Int))),(V.sc (.int .i64 (0:Int))),(V.sc (.int .u32 (0:Int)))]) 0 h.v))) (
  chk (1=1∧33+1≤(List.length (ya (ya (List.replicate 32 (V.sc (.int .u8 (0:Int)))++[(V.sc (.int .i64 (0:Int))),(V.sc (.int .i64 (0:Int))),(V.sc (.int .u32 (0:Int)))]) 0 h.v) 32 [(V.sc (.int .i64 fr))]))) (
  chk (1=1∧34+1≤(List.length (ya (ya (ya (List.replicate 32 (V.sc (.int .u8 (0:Int)))++[(V.sc (.int .i64 (0:Int))),(V.sc (.int .i64 (0:Int))),(V.sc (.int .u32 (0:Int)))]) 0 h.v) 32 [(V.sc (.int .i64 fr))]) 33 [(V.sc (.int .i64 to))]))) (
  chk ((List.length (ya (ya (ya (ya (List.replicate 32 (V.sc (.int .u8 (0:Int)))++[(V.sc (.int .i64 (0:Int))),(V.sc (.int .i64 (0:Int))),(V.sc (.int .u32 (0:Int)))]) 0 h.v) 32 [(V.sc (.int .i64 fr))]) 33 [(V.sc (.int .i64 to))]) 34 [(V.sc (.int .u32 due))]))=35∧0+35≤35) (
  chk ((List.length (l.map Stm.v)+List.length (xb 35 1 (ya (List.replicate 32 (V.sc (.int .u8 (0:Int)))++[(V.sc (.int .i64 (0:Int))),(V.sc (.int .i64 (0:Int))),(V.sc (.int .u32 (0:Int)))]) 0 (ya (ya (ya (ya (List.replicate 32 (V.sc (.int .u8 (0:Int)))++[(V.sc (.int .i64 (0:Int))),(V.sc (.int .i64 (0:Int))),(V.sc (.int .u32 (0:Int)))]) 0 h.v) 32 [(V.sc (.int .i64 fr))]) 33 [(V.sc (.int .i64 to))]) 34 [(V.sc (.int .u32 due))])))) * 56≤yi∧List.length (l.map Stm.v)+List.length (xb 35 1 (ya (List.replicate 32 (V.sc (.int .u8 (0:Int)))++[(V.sc (.int .i64 (0:Int))),(V.sc (.int .i64 (0:Int))),(V.sc (.int .u32 (0:Int)))]) 0 (ya (ya (ya (ya (List.replicate 32 (V.sc (.int .u8 (0:Int)))++[(V.sc (.int .i64 (0:Int))),(V.sc (.int .i64 (0:Int))),(V.sc (.int .u32 (0:Int)))]) 0 h.v) 32 [(V.sc (.int .i64 fr))]) 33 [(V.sc (.int .i64 to))]) 34 [(V.sc (.int .u32 due))])))≤yi) (
  lt ((l.map Stm.v)++(xb 35 1 (ya (List.replicate 32 (V.sc (.int .u8 (0:Int)))++[(V.sc (.int .i64 (0:Int))),(V.sc (.int .i64 (0:Int))),(V.sc (.int .u32 (0:Int)))]) 0 (ya (ya (ya (ya (List.replicate 32 (V.sc (.int .u8 (0:Int)))++[(V.sc (.int .i64 (0:Int))),(V.sc (.int .i64 (0:Int))),(V.sc (.int .u32 (0:Int)))]) 0 h.v) 32 [(V.sc (.int .i64 fr))]) 33 [(V.sc (.int .i64 to))]) 34 [(V.sc (.int .u32 due))])))) k))))))
  = k ((l++[(⟨h.l,fr,to,due,h.hl⟩:Stm)]).map Stm.v):=by
 rw [zk ⟨zcZ h,by decide⟩,zk ⟨rfl,by rw [z0]; omega⟩,zk ⟨rfl,by rw [z1]; omega⟩,zk ⟨rfl,by rw [z2]; omega⟩]
 rw [zwV,zpN,zk ⟨ze9 _,by decide⟩,zk (by simp only [List.length_singleton,List.length_map,yi]; omega),xw,zwO]
theorem zCb (l:List Hs) (hl:l.length≤100) (h:Hs) {β:Type} (k:List (List V)→Option β) :
  chk (0+32≤(List.length h.v)) (
  chk ((List.length h.v)=32∧0+32≤32) (
  chk ((List.length (l.map Hs.v)+List.length (xb 32 1 (ya (List.replicate 32 (V.sc (.int .u8 (0:Int)))) 0 h.v))) * 32≤yi∧List.length (l.map Hs.v)+List.length (xb 32 1 (ya (List.replicate 32 (V.sc (.int .u8 (0:Int)))) 0 h.v))≤yi) (
  lt ((l.map Hs.v)++(xb 32 1 (ya (List.replicate 32 (V.sc (.int .u8 (0:Int)))) 0 h.v))) k)))=k ((l++[h]).map Hs.v):=by
 rw [zaH,zk ⟨zcZ h,by decide⟩,zq2,zk (by simp only [List.length_singleton,List.length_map,yi]; omega),xw,zwU]
theorem zt7 (L:Nat):∀ (n m i:Nat) (d:Dk) (st:List Stm) (fl:List Hs),i+m=8→m < n→st.length≤i→fl.length≤i→∃ (st':List Stm) (fl':List Hs) (d':Dk),st'.length≤8∧fl'.length≤8∧∀ (β:Type) (kx:zlA β) (a0:Int) (a1:Bool) (a2 a3 a4:List (List V)) (c0:Int) (c1:Bool) (c2:List (List V)),
  zby xc L kx n (i:Int) d.es d.a a0 a1 a2 a3 a4 c0 c1 c2 (st.map Stm.v) (fl.map Hs.v)=kx d'.es d'.a a0 a1 a2 a3 a4 c0 c1 c2 (st'.map Stm.v) (fl'.map Hs.v)
 | 0,m,i,d,st,fl,_,h,_,_=>by omega
 | n+1,0,i,d,st,fl,h1,h2,h3,h4=>by
  refine ⟨st,fl,d,by omega,by omega,fun β kx a0 a1 a2 a3 a4 c0 c1 c2=>?_⟩
  unfold zby zc2
  rw [xz (by omega)]
 | n+1,m+1,i,d,st,fl,h1,h2,h3,h4=>by
  obtain ⟨r,d1,_,q1,q2,q3⟩:=zj0 L d 3 (by decide) (by decide)
  by_cases r0:r=0
  ·obtain ⟨x1,d2,_,_,_,y1⟩:=zj0 L d1 5 (by decide) (by decide)
   obtain ⟨x2,d3,_,_,_,y2⟩:=zj0 L d2 5 (by decide) (by decide)
   obtain ⟨x3,d4,_,_,_,y3⟩:=zj0 L d3 50 (by decide) (by decide)
   obtain ⟨st',fl',d',e1,e2,e3⟩:=zt7 L n m (i+1) d4 (st++[⟨(kid (IntKind.wrap .u8 (i:Int))).l,IntKind.wrap .i64 (x1 - 1),x2,IntKind.wrap .u32 x3,(kid (IntKind.wrap .u8 (i:Int))).hl⟩]) fl (by omega) (by omega) (by simp; omega) (by omega)
   refine ⟨st',fl',d',e1,e2,fun β kx a0 a1 a2 a3 a4 c0 c1 c2=>?_⟩
   unfold zby zc2
   rw [xE (by omega),xw,xw,zvU,q3,zaJ r0,zaH,xY,y1,xw,y2,y3,xw]
   refine (zB7 st (by omega) (kid (IntKind.wrap .u8 (i:Int))) _ _ _ _).trans ?_
   rw [xw,zN (by omega)]
   exact e3 β kx a0 a1 a2 a3 a4 c0 c1 c2
  ·by_cases r1:r=1
   ·obtain ⟨st',fl',d',e1,e2,e3⟩:=zt7 L n m (i+1) d1 st (fl++[kid (IntKind.wrap .u8 (i:Int))]) (by omega) (by omega) (by omega) (by simp; omega)
    refine ⟨st',fl',d',e1,e2,fun β kx a0 a1 a2 a3 a4 c0 c1 c2=>?_⟩
    unfold zby zc2
    rw [xE (by omega),xw,xw,zvU,q3,yH r0,zaJ r1,xY]
    refine (zCb fl (by omega) (kid (IntKind.wrap .u8 (i:Int))) _).trans ?_
    rw [xw,zN (by omega)]
    exact e3 β kx a0 a1 a2 a3 a4 c0 c1 c2
   ·obtain ⟨st',fl',d',e1,e2,e3⟩:=zt7 L n m (i+1) d1 st fl (by omega) (by omega) (by omega) (by omega)
    refine ⟨st',fl',d',e1,e2,fun β kx a0 a1 a2 a3 a4 c0 c1 c2=>?_⟩
    unfold zby zc2
    rw [xE (by omega),xw,xw,q3,yH r0,yH r1,xw,zN (by omega)]
    exact e3 β kx a0 a1 a2 a3 a4 c0 c1 c2
structure Rl.Few (r:Rl):Prop where
 nr:r.rt.length≤20
 ns:r.st.length≤20
 nf:r.fl.length≤20
theorem Rl.Few.ok {r:Rl} (h:r.Few):r.Ok:=⟨by have:=h.nr; omega,by have:=h.ns; omega,by have:=h.nf; omega⟩
theorem zzv {L:Nat} (hL:2000≤L) (d:Dk):∃ (r:Rl) (d':Dk),r.rt.length≤10∧r.st.length≤10∧r.fl.length≤10∧∀ (β:Type) (k:List V→List (List V)→Int→Option β),yd β L d.es d.a k=k r.v d'.es d'.a:=by
 obtain ⟨x1,d1,_,_,_,y1⟩:=zj0 L d 99 (by decide) (by decide)
 obtain ⟨x2,d2,_,_,_,y2⟩:=zj0 L d1 3 (by decide) (by decide)
 obtain ⟨x3,d3,_,w1,w2,y3⟩:=zj0 L d2 3 (by decide) (by decide)
 obtain ⟨m,rfl⟩:∃ m:Nat,x3=m:=⟨x3.toNat,by omega⟩
 obtain ⟨rt,d4,e1,e2⟩:=zy0 L L m d3 [] (by omega) (by simp; omega)
 obtain ⟨st,fl,d5,e3,e4,e5⟩:=zt7 L L 8 0 d4 [] [] rfl (by omega) (by simp) (by simp)
 refine ⟨⟨IntKind.wrap .u32 x1,x2 == 0,rt,st,fl⟩,d5,by simp at e1 ⊢; omega,by simp; omega,by simp; omega,fun β k=>?_⟩
 unfold yd zkf zns
 rw [y1,xw,y2,y3]
 refine (e2 β _ _ _ _ _ _ _ _ _ _).trans ?_
 unfold zeF zhv
 refine (e5 β _ _ _ _ _ _ _ _ _).trans ?_
 unfold zgP
 rw [xw,zk ⟨rfl,rfl,by decide⟩]
 exact Eq.trans rfl rfl
end
section
set_option linter.unusedVariables false
set_option linter.unusedSimpArgs false
theorem ztk {l:List Stm} {j:Nat} (h:j < l.length):List.take 35 (List.drop (0+j * 35) (sfl l))=l[j].v:=by
 rw [Nat.zero_add,sfl,zqG (zic l) (by decide) (zfx h),zka]
theorem zBo {l:List Stm} {j:Nat} (h:j < l.length):List.take 32 (List.drop (0+j * 35+0) (sfl l))=l[j].h.v:=by
 rw [Nat.zero_add,Nat.add_zero,sfl,zqG (zic l) (by decide) (zfx h),zqX]
theorem zBR {l:List Hs} {j:Nat} (h:j < l.length):List.take 32 (List.drop (0+j * 32) (hfl l))=l[j].v:=by
 rw [Nat.zero_add,hfl,zqG (zpz l) (by decide) (ziC h),xY]
theorem zuA (l:List Hs) (s:Hs):List.take (l.length * 32) (hfl l)++List.flatten [s.v]=hfl (l++[s]):=by
 rw [List.take_of_length_le (by rw [zxx]; omega),hfl,hfl,List.map_append,List.flatten_append]; exact Eq.trans rfl rfl
theorem zAz (l:List Int) (x:Int):List.take (l.length * 1) (ifl l)++List.flatten (zaV .i64 [x])=ifl (l++[x]):=by
 rw [List.take_of_length_le (by rw [zAD]; omega),ifl,ifl,← zv2,List.flatten_append]
theorem zuV (l:List Hs) (s:Hs):xb 32 (l.length+List.length [s.v]) (hfl (l++[s]))=(l++[s]).map Hs.v:=by
 have:=chH (l++[s]); rwa [List.length_append] at this
theorem zCo (l:List Int) (x:Int):xb 1 (l.length+List.length (zaV .i64 [x])) (ifl (l++[x]))=zaV .i64 (l++[x]):=by
 have:=chI (l++[x]); rwa [List.length_append] at this
theorem zzI {L:Nat} {r:Rl} (h1:r.rt.length≤10) (h2:r.st.length≤10) (h3:r.fl.length≤10) (what at_:Int):∃ r':Rl,r'.Few∧∀ (β:Type) (k:List V→Option β),zb β L r.v what at_ k=k r'.v:=by
 have hok:r.Ok:=⟨by omega,by omega,by omega⟩
 have hfew:r.Few:=⟨by omega,by omega,by omega⟩
 obtain ⟨x,x0,x1,hx⟩:=zkc L what 5 (by decide) (by decide)
 by_cases q0:x=0
 ·obtain ⟨y,y0,y1,hy⟩:=zkc L at_ 5 (by decide) (by decide)
  refine ⟨{ r with rt:=r.rt++[IntKind.wrap .i64 (y - 1)] },⟨by simp; omega,by simp; omega,by simp; omega⟩,fun β k=>?_⟩
  unfold zb zb8
  rw [zgd,zg2,zf3,ziP,ziu,ziH,zga r,zdm hok,hx,zaJ q0,hy,xw,zxv,zk (by simp only [xS,List.length_singleton,yi]; omega),xw,zAz,zCo,chS,chH]
  exact Eq.trans rfl rfl
 by_cases q1:x=1
 ·by_cases hs:0 < r.st.length
  ·obtain ⟨y,y0,y1,hy⟩:=zkc L at_ (r.st.length:Int) (by omega) (by omega)
   obtain ⟨j,rfl⟩:∃ j:Nat,y=j:=⟨y.toNat,by omega⟩
   have hj:j < r.st.length:=by omega
   refine ⟨{ r with fl:=r.fl++[r.st[j].h] },⟨by simp; omega,by simp; omega,by simp; omega⟩,fun β k=>?_⟩
   unfold zb zb8
   rw [zgd,zg2,zf3,ziP,ziu,ziH,zga r,zdm hok,hx,yH q0,zaJ q1,xE (by omega),hy,zk ⟨by omega,by omega⟩,Int.toNat_natCast,zBo hj,zq2,zuA]
   rw [zk (by rw [zeS]; omega),zk ⟨zcZ _,by decide⟩,zk (by simp only [List.length_singleton,yi]; omega),xw,zuV,chS,chI]
   exact Eq.trans rfl rfl
  ·refine ⟨r,hfew,fun β k=>?_⟩
   unfold zb zb8
   rw [zgd,zg2,zf3,ziP,ziu,ziH,zga r,zdm hok,hx,yH q0,zaJ q1,xz (by omega),ziQ]
 by_cases q2:x=2
 ·by_cases hs:0 < r.st.length
  ·obtain ⟨y,y0,y1,hy⟩:=zkc L at_ (r.st.length:Int) (by omega) (by omega)
   obtain ⟨j,rfl⟩:∃ j:Nat,y=j:=⟨y.toNat,by omega⟩
   have hj:j < r.st.length:=by omega
   refine ⟨r.more r.st[j],⟨by simp [Rl.more]; omega,by simp [Rl.more]; omega,by simp [Rl.more]; omega⟩,fun β k=>?_⟩
   unfold zb zb8
   rw [zgd,zg2,zf3,ziP,ziu,ziH,zga r,zdm hok,hx,yH q0,yH q1,zaJ q2,xE (by omega),hy,zk ⟨by omega,by omega⟩,Int.toNat_natCast,ztk hj,zpN]
   rw [zk (by rw [zeS]; omega),zk ⟨ze9 _,by decide⟩,zk (by simp only [List.length_singleton,yi]; omega),xw,zxl,zxr]
  ·refine ⟨r,hfew,fun β k=>?_⟩
   unfold zb zb8
   rw [zgd,zg2,zf3,ziP,ziu,ziH,zga r,zdm hok,hx,yH q0,yH q1,zaJ q2,xz (by omega),ziQ]
 by_cases q3:x=3
 ·by_cases hs:0 < r.fl.length
  ·obtain ⟨y,y0,y1,hy⟩:=zkc L at_ (r.fl.length:Int) (by omega) (by omega)
   obtain ⟨j,rfl⟩:∃ j:Nat,y=j:=⟨y.toNat,by omega⟩
   have hj:j < r.fl.length:=by omega
   refine ⟨{ r with fl:=r.fl++[r.fl[j]] },⟨by simp; omega,by simp; omega,by simp; omega⟩,fun β k=>?_⟩
   unfold zb zb8
   rw [zgd,zg2,zf3,ziP,ziu,ziH,zga r,zdm hok,hx,yH q0,yH q1,yH q2,zaJ q3,xE (by omega),hy,zk ⟨by omega,by omega⟩,Int.toNat_natCast,zBR hj,zq2,zuA]
   rw [zk (by rw [zxx]; omega),zk ⟨zcZ _,by decide⟩,zk (by simp only [List.length_singleton,yi]; omega),xw,zuV,chS,chI]
   exact Eq.trans rfl rfl
  ·refine ⟨r,hfew,fun β k=>?_⟩
   unfold zb zb8
   rw [zgd,zg2,zf3,ziP,ziu,ziH,zga r,zdm hok,hx,yH q0,yH q1,yH q2,zaJ q3,xz (by omega),ziQ]
 ·refine ⟨r,hfew,fun β k=>?_⟩
  unfold zb zb8
  rw [zgd,zg2,zf3,ziP,ziu,ziH,zga r,zdm hok,hx,yH q0,yH q1,yH q2,yH q3,ziQ]
end
section
set_option linter.unusedVariables false
set_option linter.unusedSimpArgs false
variable {β:Type}
theorem zBp (L:Nat) (k:Bool→Option β):xa β (L+100) k=k true:=by kernel_rfl
theorem zyC (a b:Hs):xb 32 2 (ya (ya (List.replicate 64 (V.sc (.int .u8 (0:Int)))) 0 a.v) 32 b.v)=[a.v,b.v]:=by
 have ha:=zcZ a
 have hb:=zcZ b
 have e0:ya (List.replicate 64 (V.sc (.int .u8 (0:Int)))) 0 a.v=a.v++List.replicate 32 (V.sc (.int .u8 (0:Int))):=by
  unfold ya
  rw [List.take_zero,List.nil_append,Nat.zero_add,ha]; congr 1
 have e1:ya (a.v++List.replicate 32 (V.sc (.int .u8 (0:Int)))) 32 b.v=a.v++b.v:=by
  unfold ya
  rw [List.take_append_of_le_length (by omega),List.take_of_length_le (by omega),List.drop_of_length_le (by rw [List.length_append,ha,hb]; simp),List.append_nil]
 rw [e0,e1,xb,xb,xb,List.take_append_of_le_length (by omega),List.take_of_length_le (by omega),List.drop_append_of_le_length (by omega),List.drop_of_length_le (by omega),List.nil_append,xY]
theorem zBD (a b:Rl):xb 5 2 (ya (ya [(V.sc (.int .u32 (0:Int))),(V.sc (.bool false)),(V.sl 1 ([]:List (List V))),(V.sl 35 ([]:List (List V))),(V.sl 32 ([]:List (List V))),(V.sc (.int .u32 (0:Int))),(V.sc (.bool false)),(V.sl 1 ([]:List (List V))),(V.sl 35 ([]:List (List V))),(V.sl 32 ([]:List (List V)))] 0 a.v) 5 b.v)=[a.v,b.v]:=Eq.trans rfl rfl
def zeroR:Rl:=⟨0,false,[],[],[]⟩
theorem znf:zeroR.v=ziJ:=Eq.trans rfl rfl
theorem zlg:zeroR.Ok:=⟨by decide,by decide,by decide⟩
theorem zAp {L:Nat} {r:Rl} (hr:r.Few) (hL:2000≤L) (p:Int) (h:Hs) {now wait:Int} (hn:0≤now∧now≤4294967295) (hw:0≤wait∧wait≤4294967295):∃ (q:Rl) (to e:Int),q.Ok∧(∀ (β:Type) (k:List V→Int→Int→Option β),yg β L r.v p h.v now wait k=k q.v to e)∧(∀ (β:Type) (k:List V→Int→Int→Option β),xq β L r.v p h.v now wait k=k q.v to e):=by
 have h1:=hr.nr; have h2:=hr.ns; have h3:=hr.nf
 have key:∃ (q:Rl) (to e:Int),q.Ok∧∀ (β:Type) (k:List V→Int→Int→Option β),zjp r p h now wait k=k q.v to e:=by
  by_cases q1:ze2 r=true
  ·by_cases q2:p < -1
   ·exact ⟨zeroR,0,6,zlg,fun β k=>by unfold zjp; rw [q1,Bool.not_true,xy,xE q2,znf]⟩
   ·by_cases q3:r.st.any (isS h)=true
    ·exact ⟨zeroR,0,150,zlg,fun β k=>by unfold zjp; rw [q1,Bool.not_true,xy,xz q2,q3,xQ,znf]⟩
    ·have q3':r.st.any (isS h)=false:=by simpa using q3
     by_cases q4:r.fl.any (isH h)=true
     ·exact ⟨zeroR,0,150,zlg,fun β k=>by unfold zjp; rw [q1,Bool.not_true,xy,xz q2,q3',xy,q4,xQ,znf]⟩
     ·have q4':r.fl.any (isH h)=false:=by simpa using q4
      by_cases q5:r.df=true∧p≠-1
      ·exact ⟨r,-1,0,hr.ok,fun β k=>by unfold zjp; rw [q1,Bool.not_true,xy,xz q2,q3',xy,q4',xy,if_pos q5]⟩
      ·by_cases q6:zaK r.rt p=-1
       ·exact ⟨r,-1,0,hr.ok,fun β k=>by unfold zjp; rw [q1,Bool.not_true,xy,xz q2,q3',xy,q4',xy,if_neg q5,if_pos q6]⟩
       ·exact ⟨r.more ⟨h.l,p,zaK r.rt p,zhe now wait,h.hl⟩,zaK r.rt p,0,⟨by simp [Rl.more]; omega,by simp [Rl.more]; omega,by simp [Rl.more]; omega⟩,fun β k=>by unfold zjp; rw [q1,Bool.not_true,xy,xz q2,q3',xy,q4',xy,if_neg q5,if_neg q6,if_neg (by omega)]⟩
  ·have q1':ze2 r=false:=by simpa using q1
   exact ⟨zeroR,0,6,zlg,fun β k=>by unfold zjp; rw [q1',Bool.not_false,xQ,znf]⟩
 obtain ⟨q,to,e,hq,H⟩:=key
 exact ⟨q,to,e,hq,fun β k=>(zAH hr.ok hL p h hn hw k).trans (H β k),fun β k=>(zzP hr.ok hL p h hn hw k).trans (H β k)⟩
theorem zxB (h:Hs) (k:Option β):chk ((List.length (List.take 32 h.v))=32∧0+32≤64) k=k:=zk ⟨by rw [xY,zcZ],by decide⟩ k
theorem hin {L:Nat} (hL:2000≤L) {r:Rl} (hr:r.Few) {now wait:Int} (hn:0≤now∧now≤4294967295) (hw:0≤wait∧wait≤4294967295) (ids:List Hs) (hi:ids.length≤100) (kr:Bool→List (List V)→Int→Option β) (kx:zg0 β) (p1 p6 p19:Int) (p38:List (List V)) (p39 p40:Int) (p48:List (List V)) (p49 p50:Int) (b9:List V) (b0:List (List V)) (b1:Int):∀ (n i:Nat),i≤ids.length→ids.length - i < n →
  zar xa yc yd zb xd yg xq zd L kr kx n p1 now wait p6 p19 p38 p39 p40 p48 p49 p50 (ids.map Hs.v) (ids.length:Int) (i:Int) b9 r.v b0 b1=kx p1 now wait p6 p38 p39 p40 p48 p49 p50 b9 r.v b0 b1
 | 0,i,h1,h2=>by omega
 | n+1,i,h1,h2=>by
  unfold zar zdk
  by_cases h:i < ids.length
  ·obtain ⟨q,to,e,hq,H1,H2⟩:=zAp hr hL p19 ids[i] hn hw
   rw [xE (by omega),z9 (ziC h),zrj,xw,xY,ztN,za6,zaH,zia,xY,H1,zgu,xw,zh7,za6,zaH,H2,zgu,xw,zh7,zcf,if_pos rfl,zcf,if_pos rfl,za6,za6,zia,zrx hq hL,Bool.not_true,xy,xw,zN (by omega)]
   exact hin hL hr hn hw ids hi kr kx p1 p6 p19 p38 p39 p40 p48 p49 p50 b9 b0 b1 n (i+1) (by omega) (by omega)
  ·rw [xz (by omega)]
theorem zBq {L:Nat} (hL:2000≤L) {r:Rl} (hr:r.Few) {now wait:Int} (hn:0≤now∧now≤4294967295) (hw:0≤wait∧wait≤4294967295) (fs:List Int) (hf:fs.length≤100) (kr:Bool→List (List V)→Int→Option β) (kx:zeM β) (p1 p6:Int) (p38:List (List V)) (p39 p40:Int) (b9:Hs) (b0:List (List V)) (b1:Int):∀ (n i:Nat),i≤fs.length→fs.length - i < n →
  zbA xa yc yd zb xd yg xq zd L kx kr n p1 now wait p6 p38 p39 p40 (zaV .i64 fs) (fs.length:Int) (i:Int) b9.v r.v b0 b1=kx p1 now wait p6 p38 p39 p40 b9.v b0 b1
 | 0,i,h1,h2=>by omega
 | n+1,i,h1,h2=>by
  unfold zbA zeQ zeZ
  by_cases h:i < fs.length
  ·obtain ⟨x,x0,x1,hx⟩:=zkc L p6 10 (by decide) (by decide)
   rw [xE (by omega),z9 (zlj _ h),zcX rfl,zaH,hx,xw,zxB b9,xY,zvU,zyC]
   rw [zk ⟨rfl,by rw [zmb (by rw [zcZ]; decide)]; decide⟩]
   refine (hin hL hr hn hw [b9,kid (IntKind.wrap .u8 x)] (by simp) _ _ p1 p6 fs[i] p38 p39 p40 (zaV .i64 fs) _ _ b9.v b0 b1 L 0 (by simp) (by simp; omega)).trans ?_
   unfold zc3
   rw [xw,zN (by omega)]
   exact zBq hL hr hn hw fs hf kr kx p1 p6 p38 p39 p40 b9 b0 b1 n (i+1) (by omega) (by omega)
  ·rw [xz (by omega)]
theorem hout {L:Nat} (hL:2000≤L) (rs:List Rl) (hrs:∀ r ∈ rs,r.Few) (hl:rs.length≤100) {now wait:Int} (hn:0≤now∧now≤4294967295) (hw:0≤wait∧wait≤4294967295) (kr:Bool→List (List V)→Int→Option β) (kx:List (List V)→Int→Option β) (p1 p6:Int) (b9:Hs) (b0:List (List V)) (b1:Int):∀ (n i:Nat),i≤rs.length→rs.length - i < n →
  zdl xa yc yd zb xd yg xq zd L kx kr n p1 now wait p6 (rs.map Rl.v) (rs.length:Int) (i:Int) b9.v b0 b1=kx b0 b1
 | 0,i,h1,h2=>by omega
 | n+1,i,h1,h2=>by
  unfold zdl zhG zh4
  by_cases h:i < rs.length
  ·obtain ⟨x,x0,x1,hx⟩:=zkc L p1 8 (by decide) (by decide)
   have hg:(rs.map Rl.v)[i]?=some rs[i].v:=by simp [h]
   rw [xE (by omega),z9 hg,zul,zgu,xw,zh7,hx,xw]
   have e2:xb 1 2 [(V.sc (.int .i64 p1)),(V.sc (.int .i64 (IntKind.wrap .i64 (x - 2))))]=zaV .i64 [p1,IntKind.wrap .i64 (x - 2)]:=rfl
   rw [e2,xS]
   refine (zBq hL (hrs _ (List.getElem_mem h)) hn hw [p1,IntKind.wrap .i64 (x - 2)] (by simp) _ _ p1 p6 (rs.map Rl.v) _ _ b9 b0 b1 L 0 (by simp) (by simp; omega)).trans ?_
   unfold zew
   rw [xw,zN (by omega)]
   exact hout hL rs hrs hl hn hw kr kx p1 p6 b9 b0 b1 n (i+1) (by omega) (by omega)
  ·rw [xz (by omega)]
theorem zBk (L:Nat) (es:List (List V)) (k:List (List V)→Int→Option β):yc β L es k=k es 0:=by
 unfold yc zpF; exact Eq.trans rfl rfl
end
section
set_option linter.unusedVariables false
set_option linter.unusedSimpArgs false
variable {β:Type}
theorem zxI (a b:List Stm):sfl (a++b)=sfl a++sfl b:=by simp [sfl]
theorem zzK (l:List Stm) (n:Nat):List.take (n * 35) (sfl l)=sfl (l.take n):=by
 rw [sfl,sfl,zs2 (zic l),List.map_take]
theorem zwj (l:List Stm) (n:Nat):List.drop (n * 35) (sfl l)=sfl (l.drop n):=by
 rw [sfl,sfl,zq9 (zic l),List.map_drop]
theorem zrD (l m:List Stm) (i:Nat):ya (sfl l) (i * 35) (sfl m)=sfl (l.take i++m++l.drop (i+m.length)):=by
 unfold ya
 rw [zzK,show i * 35+(sfl m).length=(i+m.length) * 35 by rw [zeS]; omega,zwj,zxI,zxI]
theorem zpM (l:List Stm) {n:Nat} (h:n≤l.length):xb 35 n (sfl l)=(l.take n).map Stm.v:=by
 rw [sfl,zwQ (zic l) (by rw [List.length_map]; exact h),List.map_take]
def zS:Stm:=⟨List.replicate 32 0,0,0,0,by simp⟩
theorem zBA:List.replicate 32 (V.sc (.int .u8 (0:Int)))++[(V.sc (.int .i64 (0:Int))),(V.sc (.int .i64 (0:Int))),(V.sc (.int .u32 (0:Int)))]=zS.v:=by
 simp [Stm.v,zS,row]
theorem zxE (n:Nat):List.flatten (List.replicate n zS.v)=sfl (List.replicate n zS):=by
 rw [sfl,List.map_replicate]
theorem zrw (L:Nat) (h:Hs) (l:List Stm) (hl:l.length≤100000) (k:Int→List V→List V→Option β):∀ (n i:Nat),i≤l.length→l.length - i < n →
  xP yh L k (k (-1)) n l.length (l.length:Int) (i:Int) (sfl l) h.v=k (zeq (isS h) (l.drop i) i) (sfl l) h.v
 | 0,i,h1,h2=>by omega
 | n+1,i,h1,h2=>by
  simp only [xP,za2,xw]
  by_cases hi:i < l.length
  ·rw [xE (by omega),zk ⟨by omega,by omega⟩,Int.toNat_natCast,zk (by rw [zeS]; omega),ztk hi]
   rw [zwc,zk rfl,zN (by omega),zrw L h l hl k n (i+1) (by omega) (by omega),zj1 hi]
   cases isS h l[i] <;> rfl
  ·rw [xz (by omega),List.drop_of_length_le (by omega)]; rfl
theorem zAa {L:Nat} {l:List Stm} (hl:l.length≤1000) (hL:2000≤L) (a:Int) (b:Bool) (n1 n3:Nat) (b0 b2:List V) (h:Hs) (k:Int→List V→List V→List V→Option β):xO β L a b n1 l.length n3 h.v b0 (sfl l) b2 k=k (zeq (isS h) l 0) b0 (sfl l) b2:=by
 unfold xO zkW xl zaq zbz
 have:=zrw L h l (by omega) (fun v0 v1 v2=>chk ([(List.length v1),(List.length v2)]=[(List.length (sfl l)),(List.length h.v)]) (k v0 b0 v1 b2)) L 0 (by omega) (by omega)
 rw [List.drop_zero] at this
 exact this.trans (zk rfl _)
def zsm (l:List Stm) (j:Nat):List Stm:=l.take j++l.drop (j+1)
theorem zpI {l:List Stm} {j:Nat} (h:j < l.length):(zsm l j).length=l.length - 1:=by simp [zsm]; omega
theorem zy5 (L:Nat) {l:List Stm} {j:Nat} (hj:j < l.length) (k:Nat→List V→Option β):zo β L l.length (j:Int) ((j+1:Nat):Int) (sfl l) k=k (l.length - 1) (sfl (zsm l j++[zS])):=by
 unfold zo zcw
 rw [zk ⟨by omega,by omega⟩,Int.toNat_natCast,zk ⟨by omega,by omega⟩,Int.toNat_natCast,Int.toNat_natCast,zk ⟨by omega,by omega⟩,xz (by omega),yH (by omega),zk ⟨by omega,by omega⟩,zk ⟨by omega,by omega⟩]
 have e1:xb 35 (l.length - (j+1)) (List.drop (0+(j+1) * 35) (sfl l))=(l.drop (j+1)).map Stm.v:=by
  rw [Nat.zero_add,zwj,zpM _ (by rw [List.length_drop]; omega),List.take_of_length_le (by rw [List.length_drop]; omega)]
 have e2:j+(l.drop (j+1)).length=l.length - 1:=by rw [List.length_drop]; omega
 rw [e1,List.length_map,e2,zk (by omega),xw,zk ⟨by omega,by omega⟩,zk ⟨by omega,by omega⟩,xw,Int.toNat_natCast,zBA,zxE,show l.length - (l.length - 1)=1 by omega]
 congr 1
 have e3:List.flatten ((l.drop (j+1)).map Stm.v)=sfl (l.drop (j+1)):=rfl
 rw [e3,zrD,Nat.zero_add,zrD]
 congr 1
 unfold zsm
 rw [List.take_append_of_le_length (by simp; omega),List.take_of_length_le (by simp; omega),List.drop_append]
 simp
 omega
def Rl.gone (r:Rl) (h:Hs):Rl:={ r with st:=if 0≤zeq (isS h) r.st 0 then zsm r.st (zeq (isS h) r.st 0).toNat else r.st,fl:=r.fl++[h] }
def zl3 (r:Rl) (h:Hs) (k:List V→Int→Option β):Option β :=
 ifb (!ze2 r) (k ziJ 6) (ifb (r.fl.any (isH h)) (k ziJ 150) (if 2048≤r.fl.length then k ziJ 380 else k (r.gone h).v 0))
theorem zxP {r:Rl} (hr:r.Ok) (h:Hs) (es:Nat→List V→List V) (k:List V→Option β) :
 chk (0+32≤(List.length h.v)) (
 chk ((List.length (List.take 32 h.v))=32∧0+32≤32) (
 chk ((r.fl.length+List.length (xb 32 1 (ya (List.replicate 32 (V.sc (.int .u8 (0:Int)))) 0 (List.take 32 h.v)))) * 32≤yi∧(r.fl.length+List.length (xb 32 1 (ya (List.replicate 32 (V.sc (.int .u8 (0:Int)))) 0 (List.take 32 h.v))))≤yi∧((r.fl.length+List.length (xb 32 1 (ya (List.replicate 32 (V.sc (.int .u8 (0:Int)))) 0 (List.take 32 h.v))))≠0∨(List.length (hfl r.fl))=0)) (
 lt (List.take (r.fl.length * 32) (hfl r.fl)++List.flatten (xb 32 1 (ya (List.replicate 32 (V.sc (.int .u8 (0:Int)))) 0 (List.take 32 h.v)))) fun r22 =>
 k (es (r.fl.length+List.length (xb 32 1 (ya (List.replicate 32 (V.sc (.int .u8 (0:Int)))) 0 (List.take 32 h.v)))) r22))))=k (es (r.fl.length+List.length [h.v]) (hfl (r.fl++[h]))):=by
 have h3:=hr.nf
 rw [zaH,zrj,xY,zq2,zk (by simp only [List.length_singleton,yi]; omega),xw,zuA]
theorem ztE (r:Rl) (h:Hs):zeq (isS h) r.st 0=-1∨∃ j:Nat,j < r.st.length∧zeq (isS h) r.st 0=(j:Int):=by
 rcases zl0 (isS h) r.st 0 with ⟨e,_⟩ | ⟨i,hi,e,_,_⟩
 ·exact .inl e
 ·exact .inr ⟨i,hi,by rw [e,Nat.zero_add]⟩
theorem zzE {L:Nat} {r:Rl} (hr:r.Ok) (hL:2000≤L) (h:Hs) (k:List V→Int→Option β):yb β L r.v h.v k=zl3 r h k:=by
 have h1:=hr.nr; have h2:=hr.ns; have h3:=hr.nf
 unfold yb zmM
 rw [zgd,zg2,zf3,ziP,ziu,ziH,zga r,zss hr hL]
 unfold zl3
 cases hs:ze2 r with
 | false=>rfl
 | true =>
  rw [Bool.not_true,xy,xy,zaH,xY,zsf (by omega) hL,zjR hr,List.length_map,if_neg (by omega)]
  congr 1
  rw [xz (by omega),zaH,zAa (by omega) hL,zk rfl]
  rcases ztE r h with e | ⟨j,hj,e⟩
  ·rw [e,xz (by decide)]
   have:=zxP hr h (fun a b=>[(V.sc (.int .u32 r.ep)),(V.sc (.bool r.df)),(V.sl 1 (xb 1 r.rt.length (ifl r.rt))),(V.sl 35 (xb 35 r.st.length (sfl r.st))),(V.sl 32 (xb 32 a b))]) (fun x=>k x 0)
   simp only [xY] at this
   refine this.trans ?_
   rw [zuV,chI,chS]
   unfold Rl.gone
   rw [e,if_neg (by decide)]
   exact Eq.trans rfl rfl
  ·have w1:IntKind.wrap .i64 ((j:Int)+1)=((j+1:Nat):Int):=by rw [zjz (by omega) (by omega)]; omega
   rw [e,xE (by omega),w1,xw,zy5 L hj,zk (by rw [zeS,zeS,List.length_append,zpI hj,List.length_singleton]; congr 1; omega)]
   have:=zxP hr h (fun a b=>[(V.sc (.int .u32 r.ep)),(V.sc (.bool r.df)),(V.sl 1 (xb 1 r.rt.length (ifl r.rt))),(V.sl 35 (xb 35 (r.st.length - 1) (sfl (zsm r.st j++[zS])))),(V.sl 32 (xb 32 a b))]) (fun x=>k x 0)
   simp only [xY] at this
   refine this.trans ?_
   rw [zuV,chI,zpM _ (by rw [List.length_append,zpI hj]; omega),List.take_append_of_le_length (by rw [zpI hj]; omega),List.take_of_length_le (by rw [zpI hj]; omega)]
   unfold Rl.gone
   rw [e,if_pos (by omega),Int.toNat_natCast]
   exact Eq.trans rfl rfl
theorem zzd (l:List Stm) (n:Nat):List.take (n - 0) (List.drop 0 (l.map Stm.v))=(l.take n).map Stm.v:=by rw [List.drop_zero,Nat.sub_zero,List.map_take]
theorem zy6 (l:List Stm) (n:Nat):List.take (l.length - n) (List.drop n (l.map Stm.v))=(l.drop n).map Stm.v:=by
 rw [List.take_of_length_le (by simp),List.map_drop]
theorem zzr {L:Nat} {r:Rl} (hr:r.Ok) (hL:2000≤L) (h:Hs) (k:List V→Int→Option β):yf β L r.v h.v k=zl3 r h k:=by
 have h1:=hr.nr; have h2:=hr.ns; have h3:=hr.nf
 unfold yf zmC
 rw [za6,zia,zq4 hr hL]
 unfold zl3
 cases hs:ze2 r with
 | false=>rfl
 | true =>
  rw [Bool.not_true,xy,xy,zlT,zaH,xY,ztc (by omega) hL,zlT,List.length_map,if_neg (by omega)]
  congr 1
  rw [xz (by omega),za6,zdm hr,zeG,zaH,zuq (by omega) hL]
  rcases ztE r h with e | ⟨j,hj,e⟩
  ·rw [e,xz (by decide)]
   have:=zxP hr h (fun a b=>[(V.sc (.int .u32 r.ep)),(V.sc (.bool r.df)),(V.sl 1 (xb 1 r.rt.length (ifl r.rt))),(V.sl 35 (xb 35 r.st.length (sfl r.st))),(V.sl 32 (xb 32 a b))]) (fun x=>k x 0)
   simp only [xY] at this
   refine this.trans ?_
   rw [zuV,chI,chS]
   unfold Rl.gone
   rw [e,if_neg (by decide)]
   exact Eq.trans rfl rfl
  ·have w1:IntKind.wrap .i64 ((j:Int)+1)=((j+1:Nat):Int):=by rw [zjz (by omega) (by omega)]; omega
   rw [e,xE (by omega),zeG,List.length_map,zk ⟨by omega,by omega⟩,Int.toNat_natCast,zzd,zk (by simp [yi]; omega),xw,List.nil_append,zeG,w1,xw,List.length_map,zk ⟨by omega,by omega⟩,Int.toNat_natCast,zy6,zk (by simp [yi]; omega),xw]
   have:=zxP hr h (fun a b=>[(V.sc (.int .u32 r.ep)),(V.sc (.bool r.df)),(V.sl 1 (xb 1 r.rt.length (ifl r.rt))),(V.sl 35 ((r.st.take j).map Stm.v++(r.st.drop (j+1)).map Stm.v)),(V.sl 32 (xb 32 a b))]) (fun x=>k x 0)
   simp only [xY] at this
   refine this.trans ?_
   rw [zuV,chI,← List.map_append]
   unfold Rl.gone
   rw [e,if_pos (by omega),Int.toNat_natCast]
   exact Eq.trans rfl rfl
end
section
set_option linter.unusedVariables false
set_option linter.unusedSimpArgs false
variable {β:Type}
def isD (t:Int) (s:Stm):Bool:=decide (s.due≤t)
def y8 (t:Int) (l:List Stm):List Stm:=l.filter (fun s=>!isD t s)
def zay (t:Int) (l:List Stm):List Hs:=(l.filter (isD t)).map Stm.h
theorem zBz (s:Stm) (k:Int→Option β):cI .u32 s.v 34 k=k s.due:=by
 apply zcX
 rw [Stm.v,List.getElem?_append_right (by rw [zeW,s.hid]; omega),zeW,s.hid]
 rfl
theorem zBC (l:List Hs) (hl:l.length≤1000) (h:Hs) (k:List (List V)→Option β) :
  chk ((List.length (List.take 32 h.v))=32∧0+32≤32) (
  chk ((List.length (l.map Hs.v)+List.length (xb 32 1 (ya (List.replicate 32 (V.sc (.int .u8 (0:Int)))) 0 (List.take 32 h.v)))) * 32≤yi∧List.length (l.map Hs.v)+List.length (xb 32 1 (ya (List.replicate 32 (V.sc (.int .u8 (0:Int)))) 0 (List.take 32 h.v)))≤yi) (
  lt ((l.map Hs.v)++(xb 32 1 (ya (List.replicate 32 (V.sc (.int .u8 (0:Int)))) 0 (List.take 32 h.v)))) k))=k ((l++[h]).map Hs.v):=by
 rw [zrj,xY,zq2,zk (by simp only [List.length_singleton,List.length_map,yi]; omega),xw,zwU]
theorem zuF (L:Nat) (s:Stm) (t:Int) (acc:List Hs) (ha:acc.length≤1000) (k:Bool→Int→List (List V)→Option β):zg β L s.v t (acc.map Hs.v) k=k (isD t s) t ((acc++zay t [s]).map Hs.v):=by
 unfold zg zmy
 rw [zBz]
 by_cases h:s.due≤t
 ·have e:isD t s=true:=decide_eq_true h
  rw [xz (by omega),zuy,zqX]
  have:=zBC acc ha s.h (fun l1=>k true t l1)
  simp only [xY] at this
  refine this.trans ?_
  rw [e]
  simp [zay,e]
 ·have e:isD t s=false:=decide_eq_false h
  rw [xE (by omega),e]
  simp [zay,e]
theorem zwq (t:Int) (a b:List Stm):zay t (a++b)=zay t a++zay t b:=by simp [zay]
theorem zvo (t:Int) (a b:List Stm):y8 t (a++b)=y8 t a++y8 t b:=by simp [y8]
theorem zsr (t:Int) (l:List Stm):(zay t l).length≤l.length:=by rw [zay,List.length_map]; exact List.length_filter_le _ _
theorem zl9 (t:Int) (l:List Stm):(y8 t l).length≤l.length:=List.length_filter_le _ _
theorem zrq (L:Nat) (t:Int) (l:List Stm) (hl:l.length≤1000) (k:Int→List V→Int→List (List V)→Option β):∀ (n i:Nat),i≤l.length→l.length - i < n→(∀ s ∈ l.take i,isD t s=false) →
  zQ zg L k (k (-1)) n l.length (l.length:Int) (i:Int) (sfl l) t (([]:List Hs).map Hs.v) =
   if (∀ s ∈ l,isD t s=false) then k (-1) (sfl l) t (([]:List Hs).map Hs.v)
   else k (zeq (isD t) (l.drop i) i) (sfl l) t ((zay t ((l.drop i).find? (isD t)).toList).map Hs.v)
 | 0,i,h1,h2,h3=>by omega
 | n+1,i,h1,h2,h3=>by
  simp only [zQ,za3,xw]
  by_cases hi:i < l.length
  ·rw [xE (by omega),zk ⟨by omega,by omega⟩,Int.toNat_natCast,zk (by rw [zeS]; omega),ztk hi,zuF L _ t [] (by simp)]
   cases e:isD t l[i] with
   | false =>
    have e2:zay t [l[i]]=[]:=by simp [zay,e]
    rw [xy,e2,List.append_nil,zN (by omega),zrq L t l hl k n (i+1) (by omega) (by omega) (by
     intro s hs
     rw [List.take_succ_eq_append_getElem hi,List.mem_append] at hs
     rcases hs with hs | hs
     ·exact h3 s hs
     ·rw [List.mem_singleton] at hs; rw [hs]; exact e)]
    have e9:(l.drop i).find? (isD t)=(l.drop (i+1)).find? (isD t):=by rw [List.drop_eq_getElem_cons hi,List.find?_cons,e]
    rw [zj1 hi,e9,e]
    rfl
   | true =>
    rw [xQ,if_neg (fun h=>by rw [h _ (List.getElem_mem hi)] at e; cases e)]
    have e9:(l.drop i).find? (isD t)=some l[i]:=by rw [List.drop_eq_getElem_cons hi,List.find?_cons,e]
    rw [zj1 hi,e9,e]
    rfl
  ·rw [xz (by omega),if_pos (fun s hs=>h3 s (by rw [List.take_of_length_le (by omega)]; exact hs))]
theorem zpG (L:Nat) (t:Int) (kx:Nat→Int→List V→Int→List (List V)→Option β) (N:Nat) (hN:N≤1000):∀ (n:Nat) (c a g:List Stm) (acc:List Hs),c.length < n→g≠[]→a.length+g.length+c.length=N→acc.length+c.length≤1000→∃ g',g'.length=N - (a.length+(y8 t c).length) ∧
  zG ze zg L kx n N (a.length:Int) ((a.length+g.length:Nat):Int) (sfl (a++g++c)) t (acc.map Hs.v) =
   kx N ((a.length+(y8 t c).length:Nat):Int) (sfl (a++y8 t c++g')) t ((acc++zay t c).map Hs.v)
 | 0,c,a,g,acc,h,_,_,_=>by omega
 | n+1,[],a,g,acc,h,hg,hn,hc=>by
  refine ⟨g,by simp [y8] at hn ⊢; omega,?_⟩
  simp only [List.length_nil] at hn
  unfold zG yQ
  rw [xz (by omega)]
  simp [y8,zay]
 | n+1,x::c,a,g,acc,h,hg,hn,hc=>by
  simp only [List.length_cons] at h hn hc
  have hi:a.length+g.length < (a++g++x::c).length:=by simp
  have hx:(a++g++x::c)[a.length+g.length]=x:=by
   rw [List.getElem_append_right (by simp)]; simp
  have hlen:(a++g++x::c).length=N:=by simp; omega
  have w0:IntKind.wrap .i64 ((((a.length+g.length:Nat)):Int)+1)=((a.length+g.length+1:Nat):Int):=zN (by omega)
  cases e:isD t x with
  | false =>
   have e2:zay t [x]=[]:=by simp [zay,e]
   obtain ⟨y,g,rfl⟩:∃ y g',g=y::g':=by cases g with | nil=>exact absurd rfl hg | cons y g'=>exact ⟨y,g',rfl⟩
   have hgl:(y::g).length=g.length+1:=rfl
   obtain ⟨g',q1,q2⟩:=zpG L t kx N hN n c (a++[x]) (g++[x]) acc (by omega) (by simp) (by simp; omega) (by omega)
   refine ⟨g',by rw [q1]; simp [y8,e]; omega,?_⟩
   unfold zG yQ
   rw [xE (by omega),zk ⟨by omega,by omega⟩,Int.toNat_natCast,zk (by rw [zeS,hlen]; omega),ztk hi,hx,zk ⟨ze9 x,by decide⟩,zty,xw,zk (by rw [ze9]; omega),zka,zuF L _ t acc (by omega),e,Bool.not_false,xQ,zk (by rw [ze9]; omega),zk ⟨by omega,by omega⟩,Int.toNat_natCast,zk ⟨by rw [ze9],by rw [zeS,hlen]; omega⟩,e2,List.append_nil,w0,xw,xw,xw,Nat.zero_add]
   have s1:x.v=sfl [x]:=by simp [sfl]
   have s2:ya (sfl (a++y::g++x::c)) (a.length * 35) x.v=sfl ((a++[x])++(g++[x])++c):=by
    rw [s1,zrD]
    congr 1
    have:(a++y::g++x::c).drop (a.length+[x].length)=g++x::c:=by
     rw [List.append_assoc,List.drop_append]; simp
    have t1:(a++y::g++x::c).take a.length=a:=by rw [List.append_assoc]; exact List.take_left
    rw [this,t1]
    simp
   have w1:IntKind.wrap .i64 ((a.length:Int)+1)=((a.length+1:Nat):Int):=zN (by omega)
   rw [s2,w1]
   have e3:(a++[x]).length=a.length+1:=by simp
   have e4:(g++[x]).length=g.length+1:=by simp
   rw [e3,e4] at q2
   have e5:a.length+1+(g.length+1)=a.length+(y::g).length+1:=by omega
   rw [e5] at q2
   refine q2.trans ?_
   have e6:y8 t (x::c)=x::y8 t c:=by simp [y8,e]
   have e7:zay t (x::c)=zay t c:=by simp [zay,e]
   rw [e6,e7,List.length_cons]
   congr 1
   ·congr 1; omega
   ·congr 1; simp
  | true =>
   have e2:zay t [x]=[x.h]:=by simp [zay,e]
   obtain ⟨g',q1,q2⟩:=zpG L t kx N hN n c a (g++[x]) (acc++[x.h]) (by omega) (by simp) (by simp; omega) (by simp; omega)
   refine ⟨g',by rw [q1]; simp [y8,e],?_⟩
   unfold zG yQ
   rw [xE (by omega),zk ⟨by omega,by omega⟩,Int.toNat_natCast,zk (by rw [zeS,hlen]; omega),ztk hi,hx,zk ⟨ze9 x,by decide⟩,zty,xw,zk (by rw [ze9]; omega),zka,zuF L _ t acc (by omega),e,Bool.not_true,xy,e2,w0,xw]
   have e4:(g++[x]).length=g.length+1:=by simp
   rw [e4,show a.length+(g.length+1)=a.length+g.length+1 by omega] at q2
   have e5:a++(g++[x])++c=a++g++x::c:=by simp
   rw [e5] at q2
   refine q2.trans ?_
   have e6:y8 t (x::c)=y8 t c:=by simp [y8,e]
   have e7:zay t (x::c)=x.h::zay t c:=by simp [zay,e]
   rw [e6,e7]
   simp
end
end Go.Proofs.Ytpbbfpfmdckclaa
