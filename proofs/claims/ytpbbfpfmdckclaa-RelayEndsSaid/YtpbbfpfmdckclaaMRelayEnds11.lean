/- Part 11 of the proof of RelayEnds: an abstract machine over plain values, its soundness, and the functions of the program on plain values. -/
import Derived.ProofKit
import Derived.OpenShut
import Derived.ChangeOld
import Derived.Deep.Slices
import Derived.SizedLaws
import Derived.Test.YtpbbfpfmdckclaaMRelayEnds10
namespace Go.Proofs.Ytpbbfpfmdckclaa
section
open Go.ChangeShapes Go.WideShapes Go.RowKit Go.Deep
set_option linter.unusedVariables false
set_option linter.unusedSimpArgs false
inductive CT where
 | int (k:IntKind)
 | bool
 | str
 | sl (cs:List CT)
inductive HasC:CT→V→Prop
 | int (k:IntKind) (n:Int) (h:(Lit.int k n).wf=true):HasC (.int k) (.sc (.int k n))
 | bool (b:Bool):HasC .bool (.sc (.bool b))
 | str (s:ByteArray) (h:s.size≤maxLen):HasC .str (.sc (.string s))
 | sl (cs:List CT) (es:List (List V)) (hl:es.length≤maxLen) (h0:∀ e ∈ es,e.length=cs.length) (h:∀ e ∈ es,∀ (i:Nat) (c:V) (ct:CT),e[i]?=some c→cs[i]?=some ct→HasC ct c):HasC (.sl cs) (.sl cs.length es)
def HasRow (cts:List CT) (vs:List V):Prop:=vs.length=cts.length∧∀ (i:Nat) (c:V) (ct:CT),vs[i]?=some c→cts[i]?=some ct→HasC ct c
def zqc (f:TypeId→Option (List CT)) (size:TypeId→Nat):List Field→Nat→Option (List CT)
 | [],_=>some []
 | x::xs,off=>do
  let a ← f x.type
  if x.offset=off∧size x.type=a.length then
   let b ← zqc f size xs (off+a.length)
   some (a++b)
  else none
def zlv (P:Program):Nat→TypeId→Option (List CT)
 | 0,_=>none
 | d+1,t=>match P.underlying t with
  | some .bool=>some [.bool]
  | some (.int k)=>some [.int k]
  | some .string=>some [.str]
  | some (.slice e)=>do
   let c ← zlv P d e
   if P.cellsOf e=c.length∧0 < c.length then some [.sl c] else none
  | some (.array n e)=>do
   let c ← zlv P d e
   if P.cellsOf e=c.length∧P.cellsOf t=n * c.length then some (List.replicate n c).flatten else none
  | some (.struct fs)=>do
   let c ← zqc (zlv P d) P.cellsOf fs.toList 0
   if P.cellsOf t=c.length then some c else none
  | _=>none
section
variable {H:Type} {enc:TypeId × Value→H} {P:Program} {w:World} {base:Nat} {spare:Nat→Bool} {held:Bool} {ren:Rn}
def RdC (ren:Rn) (w:World) (cts:List CT) (cs:List Value) (vs:List V):Prop :=
 cs.length=cts.length∧vs.length=cts.length∧∀ (i:Nat) (u:Value) (v:V) (ct:CT),cs[i]?=some u→vs[i]?=some v→cts[i]?=some ct→u.oneCell'=true∧RepP ren w zih v u∧HasC ct v
theorem RdC.one {ct:CT} {u:Value} {v:V} (h1:u.oneCell'=true) (h2:RepP ren w zih v u) (h3:HasC ct v):RdC ren w [ct] [u] [v]:=by
 refine ⟨rfl,rfl,fun i u' v' ct' hu hv hc=>?_⟩
 cases i with
 | zero=>simp at hu hv hc; subst hu; subst hv; subst hc; exact ⟨h1,h2,h3⟩
 | succ i=>simp at hu
theorem RdC.nil:RdC ren w [] [] []:=⟨rfl,rfl,fun i u v ct h=>by simp at h⟩
theorem RdC.app {c1 c2:List CT} {a1 a2:List Value} {b1 b2:List V} (h1:RdC ren w c1 a1 b1) (h2:RdC ren w c2 a2 b2):RdC ren w (c1++c2) (a1++a2) (b1++b2):=by
 obtain ⟨l1,m1,q1⟩:=h1
 obtain ⟨l2,m2,q2⟩:=h2
 refine ⟨by simp [l1,l2],by simp [m1,m2],fun i u v ct hu hv hc=>?_⟩
 by_cases hi:i < c1.length
 ·rw [List.getElem?_append_left (by omega)] at hu hv hc
  exact q1 i u v ct hu hv hc
 ·rw [List.getElem?_append_right (by omega)] at hu hv hc
  rw [l1] at hu; rw [m1] at hv
  exact q2 _ u v ct hu hv hc
theorem RdC.row {cts:List CT} {cs:List Value} {vs:List V} (h:RdC ren w cts cs vs):HasRow cts vs:=by
 refine ⟨h.2.1,fun i c ct hc ht=>?_⟩
 have hlt:i < cs.length:=by rw [h.1,← h.2.1]; exact (List.getElem?_eq_some_iff.1 hc).1
 exact (h.2.2 i _ c ct (List.getElem?_eq_getElem hlt) hc ht).2.2
theorem zpg {f:TypeId→Option (List CT)} {size:TypeId→Nat} {cs:List Value} (rd:∀ (t:TypeId) (cts:List CT),f t=some cts→∀ x ∈ ([]:List Nat),True) :
  ∀ (fs:List Field) (off:Nat) (cts:List CT),zqc f size fs off=some cts→(∀ x ∈ fs,∀ a,f x.type=some a→∃ vs,RdC ren w a ((cs.drop x.offset).take (size x.type)) vs)→∃ vs,RdC ren w cts ((cs.drop off).take cts.length) vs
 | [],off,cts,h,_=>by
  cases h
  exact ⟨[],by simpa using RdC.nil⟩
 | x::xs,off,cts,h,H=>by
  simp only [zqc,Option.bind_eq_bind,Option.bind_eq_some_iff] at h
  obtain ⟨a,ha,h⟩:=h
  split at h
  ·rename_i hc
   simp only [Option.bind_eq_some_iff,Option.some.injEq] at h
   obtain ⟨b,hb,rfl⟩:=h
   obtain ⟨vs1,r1⟩:=H x (by simp) a ha
   obtain ⟨vs2,r2⟩:=zpg rd xs _ b hb (fun y hy=>H y (by simp [hy]))
   refine ⟨vs1++vs2,?_⟩
   have e:(cs.drop off).take (a++b).length=(cs.drop x.offset).take (size x.type)++(cs.drop (off+a.length)).take b.length:=by
    rw [hc.1,hc.2,List.length_append,List.take_add,List.drop_drop]
   rw [e]
   exact r1.app r2
  ·cases h
theorem zqU {cs:List Value} {c:List CT}:∀ (n m:Nat),(∀ i,i < n→∃ vs,RdC ren w c ((cs.drop ((m+i) * c.length)).take c.length) vs)→∃ vs,RdC ren w (List.replicate n c).flatten ((cs.drop (m * c.length)).take (n * c.length)) vs
 | 0,m,H=>⟨[],by simpa using RdC.nil⟩
 | n+1,m,H=>by
  obtain ⟨vs1,r1⟩:=H 0 (by omega)
  obtain ⟨vs2,r2⟩:=zqU n (m+1) (fun i hi=>by
   obtain ⟨vs,r⟩:=H (i+1) (by omega)
   exact ⟨vs,by rw [show m+1+i=m+(i+1) by omega]; exact r⟩)
  refine ⟨vs1++vs2,?_⟩
  have e:(cs.drop (m * c.length)).take ((n+1) * c.length)=(cs.drop ((m+0) * c.length)).take c.length++(cs.drop ((m+1) * c.length)).take (n * c.length):=by
   rw [Nat.add_zero,Nat.add_mul n,Nat.one_mul,Nat.add_comm (n * c.length),List.take_add,List.drop_drop,show (m+1) * c.length=m * c.length+c.length by rw [Nat.add_mul,Nat.one_mul]]
   rw [show m+0=m from rfl]
  rw [e,List.replicate_succ,List.flatten_cons]
  exact r1.app r2
theorem zvb {α:Type} {n:Nat}:∀ (es:List (List α)),(∀ e ∈ es,e.length=n)→0 < n→∀ (i:Nat),es.flatten[i]?=(es[i / n]?).bind (fun e=>e[i % n]?)
 | [],_,_,i=>by simp
 | e::es,h,hn,i=>by
  have he:=h e (by simp)
  rw [List.flatten_cons]
  by_cases hi:i < n
  ·rw [List.getElem?_append_left (by omega),Nat.div_eq_of_lt hi,Nat.mod_eq_of_lt hi]; simp
  ·rw [List.getElem?_append_right (by omega),zvb es (fun x hx=>h x (by simp [hx])) hn,he]
   obtain ⟨j,rfl⟩:∃ j,i=j+n:=⟨i - n,by omega⟩
   rw [Nat.add_sub_cancel,Nat.add_div_right _ hn,Nat.add_mod_right]
   simp
theorem zn1:∀ (d:Nat) (t:TypeId) (cts:List CT),zlv P d t=some cts→∀ (fuel:Nat) (cs:List Value) (x:DataW H × List MemPlace),DataW.trod enc P w base spare held fuel t cs=some x→∃ vs,RdC ren w cts cs vs
 | 0,t,cts,h,fuel,cs,x,hx=>by cases h
 | d+1,t,cts,h,fuel,cs,x,hx=>by
  unfold zlv at h
  split at h
  ·rename_i ht
   cases h
   obtain ⟨b,rfl,_⟩:=DataW.trod_bool ht hx
   exact ⟨[.sc (.bool b)],.one rfl (.sc _ rfl) (.bool b)⟩
  ·rename_i k ht
   cases h
   obtain ⟨n,rfl,_,hw⟩:=DataW.trod_int ht hx
   exact ⟨[.sc (.int k n)],.one rfl (.sc _ rfl) (.int k n hw)⟩
  ·rename_i ht
   cases h
   obtain ⟨s,rfl,_,hw⟩:=DataW.trod_string ht hx
   exact ⟨[.sc (.string s)],.one rfl (.sc _ rfl) (.str s hw)⟩
  ·rename_i e ht
   simp only [Option.bind_eq_bind,Option.bind_eq_some_iff] at h
   obtain ⟨c,hc,h⟩:=h
   split at h
   ·rename_i hsz
    obtain ⟨hsz,hpos⟩:=hsz
    cases h
    rcases open_slice ht hx with ⟨rfl,_⟩ | ⟨a,len,cap,m,n,D,Pl,rfl,_,hl,hm,hmm,_,hi⟩
    ·refine ⟨[.sl c.length []],.one rfl (.sl _ [] none 0 (fun _=>undef) (Nat.le_refl _) (by simp) 0 0 (by simp) (by simp) (by simp) (by simp)) (.sl c [] (by simp) (by simp) (by simp))⟩
    ·have hlm:len≤m:=by rw [hmm]; split <;> omega
     have each:∀ i,i < len→∃ (us:List Value) (vs:List V),RdC ren w c us vs∧∀ j,j < c.length→w.cell? ((a.add (i * c.length)).add j)=us[j]?:=by
      intro i hil
      obtain ⟨cs',h1,h2⟩:=hi i (by omega)
      rw [hsz] at h1
      obtain ⟨_,hcl,hat⟩:=World.cells?_some h1
      obtain ⟨vs,r⟩:=zn1 d e c hc _ _ _ h2
      exact ⟨cs',vs,r,hat⟩
     have hex:∃ (us:Nat→List Value) (vs:Nat→List V),∀ i,i < len→RdC ren w c (us i) (vs i)∧∀ j,j < c.length→w.cell? ((a.add (i * c.length)).add j)=(us i)[j]?:=by
      have:∀ i,∃ p:List Value × List V,i < len→RdC ren w c p.1 p.2∧∀ j,j < c.length→w.cell? ((a.add (i * c.length)).add j)=p.1[j]?:=by
       intro i
       by_cases hil:i < len
       ·obtain ⟨us,vs,q⟩:=each i hil; exact ⟨(us,vs),fun _=>q⟩
       ·exact ⟨([],[]),fun h=>absurd h hil⟩
      refine ⟨fun i=>(Classical.choose (this i)).1,fun i=>(Classical.choose (this i)).2,fun i hil=>Classical.choose_spec (this i) hil⟩
     obtain ⟨us,vs,hrow⟩:=hex
     have hget:∀ i,i < len→((List.range len).map vs)[i]?=some (vs i):=fun i hil=>by simp [hil]
     have hsz2:∀ e ∈ (List.range len).map vs,e.length=c.length:=by
      intro e he
      obtain ⟨i,hil,rfl⟩:=List.mem_map.1 he
      exact (hrow i (List.mem_range.1 hil)).1.2.1
     have cell:∀ (i:Nat) (v:V),((List.range len).map vs).flatten[i]?=some v→0 < c.length∧i / c.length < len∧(vs (i / c.length))[i % c.length]?=some v∧∃ u,(us (i / c.length))[i % c.length]?=some u∧u.oneCell'=true∧RepP ren w zih v u∧w.cell? ((a.add (i / c.length * c.length)).add (i % c.length))=some u:=by
      intro i v hv
      have hpos:0 < c.length:=by
       rcases Nat.eq_zero_or_pos c.length with h0 | h0
       ·have:((List.range len).map vs).flatten=[]:=by
         rw [List.flatten_eq_nil_iff]
         intro l hl'
         exact List.length_eq_zero_iff.1 ((hsz2 l hl').trans h0)
        rw [this] at hv; simp at hv
       ·exact h0
      rw [zvb _ hsz2 hpos] at hv
      have hlt:i / c.length < len:=by
       cases hq:((List.range len).map vs)[i / c.length]? with
       | none=>rw [hq] at hv; simp at hv
       | some e=>have:=(List.getElem?_eq_some_iff.1 hq).1; simpa using this
      rw [hget _ hlt] at hv
      have hv:(vs (i / c.length))[i % c.length]?=some v:=hv
      have hr:=hrow _ hlt
      have hm:=Nat.mod_lt i hpos
      have hu:(us (i / c.length))[i % c.length]?=some ((us (i / c.length))[i % c.length]'(by rw [hr.1.1]; exact hm)):=List.getElem?_eq_getElem _
      obtain ⟨q1,q2,q3⟩:=hr.1.2.2 _ _ _ _ hu hv (List.getElem?_eq_getElem hm)
      exact ⟨hpos,hlt,hv,_,hu,q1,q2,by rw [hr.2 _ hm]; exact hu⟩
     have spot:((List.range len).map vs).flatten≠[]→a.spot=none:=by
      intro hne
      have hl0:0 < ((List.range len).map vs).flatten.length:=List.length_pos_iff.2 hne
      obtain ⟨_,_,_,u,_,_,_,hcell⟩:=cell 0 _ (List.getElem?_eq_getElem hl0)
      have hcell:w.cell? a=some u:=by simpa [Addr.add] using hcell
      unfold World.cell? at hcell
      split at hcell
      ·split at hcell
       ·cases hcell
       ·rename_i hs; simpa using hs
      ·cases hcell
     have addr:((List.range len).map vs).flatten≠[]→a=⟨a.block,a.off,none⟩:=by
      intro hne
      have:=spot hne
      cases a; simp_all
     have addto:∀ i v,((List.range len).map vs).flatten[i]?=some v→(a.add (i / c.length * c.length)).add (i % c.length)=⟨a.block,a.off+i,none⟩:=by
      intro i v hv
      have hne:((List.range len).map vs).flatten≠[]:=by intro h0; rw [h0] at hv; simp at hv
      rw [addr hne,zdr,zdr]
      have:=Nat.div_add_mod i c.length
      rw [Nat.mul_comm] at this
      show (⟨a.block,a.off+i / c.length * c.length+i % c.length,none⟩:Addr)=⟨a.block,a.off+i,none⟩
      congr 1; omega
     have hcap:len≤maxLen:=by omega
     have hlen:((List.range len).map vs).length=len:=by simp
     have rp:RepP ren w zih (.sl c.length ((List.range len).map vs)) (.slice (some a) ((List.range len).map vs).length cap):=by
      by_cases hne:((List.range len).map vs).flatten=[]
      ·
       have:(List.range len).map vs=[]:=by
        cases hes:(List.range len).map vs with
        | nil=>rfl
        | cons e es =>
         have h1:=hsz2 e (by rw [hes]; simp)
         rw [hes,List.flatten_cons,List.append_eq_nil_iff] at hne
         rw [hne.1] at h1
         simp at h1; omega
       rw [this]
       exact .sl _ [] (some a) cap (fun _=>undef) (Nat.zero_le _) (by simp) 0 0 (by simp) (by simp) (by simp) (by simp)
      ·refine .sl _ _ (some a) cap (fun i=>(w.cell? ⟨a.block,a.off+i,none⟩).getD undef) (by rw [hlen]; exact hl) hsz2 a.block a.off (fun _=>by rw [← addr hne]) (fun i v hv=>?_) (fun i v hv=>?_) (fun i v hv=>?_) <;>
        (obtain ⟨hpos,hlt,hv',u,hu,q1,q2,hcell⟩:=cell i v hv
         rw [addto i v hv] at hcell
         simp only [hcell,Option.getD_some])
       ·exact ⟨fun h=>h,trivial⟩
       ·exact q1
       ·exact q2
     refine ⟨[.sl c.length ((List.range len).map vs)],.one rfl (by rw [hlen] at rp; exact rp) (.sl c _ (by rw [hlen]; exact hcap) hsz2 (fun e he i v ct hv hct=>?_))⟩
     obtain ⟨q,hq,rfl⟩:=List.mem_map.1 he
     exact (hrow q (List.mem_range.1 hq)).1.row.2 i v ct hv hct
   ·cases h
  ·rename_i n e ht
   simp only [Option.bind_eq_bind,Option.bind_eq_some_iff] at h
   obtain ⟨c,hc,h⟩:=h
   split at h
   ·rename_i hsz
    cases h
    obtain ⟨xs,m,_,_,hl,hxl,hi⟩:=DataW.trod_array ht hx
    have:=zqU (ren:=ren) (w:=w) (cs:=cs) (c:=c) n 0 (fun i hin=>by
     have:=hi i hin
     rw [List.getElem?_eq_getElem (by omega)] at this
     rw [hsz.1] at this
     obtain ⟨vs,r⟩:=zn1 d e c hc _ _ _ this
     exact ⟨vs,by rw [Nat.zero_add]; exact r⟩)
    rw [Nat.zero_mul,List.drop_zero,List.take_of_length_le (by omega)] at this
    exact this
   ·cases h
  ·rename_i fs ht
   simp only [Option.bind_eq_bind,Option.bind_eq_some_iff] at h
   obtain ⟨c,hc,h⟩:=h
   split at h
   ·rename_i hsz
    cases h
    obtain ⟨xs,m,_,_,hl,hxl,hi⟩:=DataW.trod_struct ht hx
    have:=zpg (ren:=ren) (w:=w) (cs:=cs) (fun _ _ _ _ h=>by cases h) fs.toList 0 cts hc (fun y hy a ha=>by
     obtain ⟨i,hil,rfl⟩:=List.getElem_of_mem hy
     have hil':i < fs.size:=by simpa using hil
     have:=hi i fs[i] (Array.getElem?_eq_getElem hil')
     rw [List.getElem?_eq_getElem (by omega)] at this
     exact zn1 d _ a ha _ _ _ (by simpa using this))
    rw [List.drop_zero,List.take_of_length_le (by omega)] at this
    exact this
   ·cases h
  ·cases h
theorem zwf {r:Reach} {b0:Nat} {t:TypeId} {v:Value} {dd:DataW H} {p:List MemPlace} {ct:CT} {d:Nat} (hv1:v.cells=#[v]) (h:DataW.Trod enc P w base spare held t v dd p) (hc:zlv P d t=some [ct]) :
  ∃ x,HasC ct x∧RepP ren w zih x v:=by
 obtain ⟨fuel,hf⟩:=h
 obtain ⟨vs,rd⟩:=zn1 (ren:=ren) d t [ct] hc _ _ _ hf
 rw [hv1] at rd
 have hl:vs.length=1:=rd.2.1
 obtain ⟨x,rfl⟩:∃ x,vs=[x]:=by
  match vs,hl with
  | [x],_=>exact ⟨x,rfl⟩
 obtain ⟨q1,q2,q3⟩:=rd.2.2 0 v x ct rfl rfl rfl
 exact ⟨x,q3,q2⟩
theorem HasC.int_inv {k:IntKind} {v:V} (h:HasC (.int k) v):∃ n,v=.sc (.int k n)∧(Lit.int k n).wf=true:=by
 cases h with | int _ n h=>exact ⟨n,rfl,h⟩
theorem HasC.sl_inv {cs:List CT} {v:V} (h:HasC (.sl cs) v):∃ es,v=.sl cs.length es∧es.length≤maxLen∧∀ e ∈ es,HasRow cs e:=by
 cases h with | sl _ es hl h0 h=>exact ⟨es,rfl,hl,fun e he=>⟨h0 e he,h e he⟩⟩
end
def zus:V→Bor→Option Bool:=fun v _=>match v with
 | .sc (.bool true)=>some true
 | _=>none
theorem zxu {v:V} {b:Bor} (h:zus v b=some true):v=.sc (.bool true):=by
 unfold zus at h
 split at h
 ·rfl
 ·cases h
end
section
set_option linter.unusedVariables false
set_option linter.unusedSimpArgs false
section
variable {β:Type}
theorem zE {α:Type} (a:α) (k:α→Option β):lt a k=k a:=Eq.trans rfl rfl
theorem yp {p:Prop} {inst:Decidable p} (h:p) (k:Option β):@chk β p inst k=k:=(zfu p k).trans (if_pos h)
theorem zqe {inst:Decidable True} (k:Option β):@chk β True inst k=k:=(zfu True k).trans (if_pos trivial)
theorem xM (a b:Option β):ifb true a b=a:=rfl
theorem yr (a b:Option β):ifb false a b=b:=rfl
theorem zny {p:Prop} {inst:Decidable p} (a b:Option β):ifb (@decide p inst) a b=if p then a else b:=by
 by_cases h:p <;> simp [ifb,h]
theorem yI {p:Prop} {inst:Decidable p} (h:p) (a b:Option β):ifb (@decide p inst) a b=a:=by rw [zny,if_pos h]
theorem zB {p:Prop} {inst:Decidable p} (h:¬ p) (a b:Option β):ifb (@decide p inst) a b=b:=by rw [zny,if_neg h]
theorem zb5 {x y:Int} (h:x=y) (a b:Option β):ifb (x == y) a b=a:=by subst h; simp [ifb]
theorem zaM {x y:Int} (h:x≠y) (a b:Option β):ifb (x == y) a b=b:=by rw [beq_eq_false_iff_ne.2 h]; rfl
theorem zdw {kd:IntKind} {cs:List V} {off:Nat} {n:Int} (h:cs[off]?=some (.sc (.int kd n))) (k:Int→Option β):cI kd cs off k=k n:=by
 simp [cI,zd2,h,aI,zqe]
theorem zzV {cs:List V} {off:Nat} {b:Bool} (h:cs[off]?=some (.sc (.bool b))) (k:Bool→Option β):cB cs off k=k b:=by
 simp [cB,zd2,h,aB]
theorem zsW {sz:Nat} {cs:List V} {off:Nat} {es:List (List V)} (h:cs[off]?=some (.sl sz es)) (k:List (List V)→Option β):cL sz cs off k=k es:=by
 simp [cL,zd2,h,aL,zqe]
theorem zqY {sz:Nat} {cs:List V} {off:Nat} {es:List (List V)} (h:cs[off]?=some (.sl sz es)) (k:List (List V)→Option β):cLd sz cs off k=k es:=by
 simp [cLd,zd2,h,aLd,zqe]
theorem zii {es:List (List V)} {j:Int} {c:List V} (h0:0≤j) (h:es[j.toNat]?=some c) (k:List V→Option β):idx es j k=k c:=by
 simp [idx,h0,h,zqe]
theorem zaK {es:List (List V)} {j:Nat} {c:List V} (h:es[j]?=some c) (k:List V→Option β):idx es (j:Int) k=k c :=
 zii (Int.natCast_nonneg j) (by simpa using h) k
end
theorem zjL {n:Int} (h1:-9223372036854775808≤n) (h2:n≤9223372036854775807):IntKind.wrap .i64 n=n:=IntWalk.i64_in _ ⟨h1,h2⟩
theorem zyb {k:IntKind} {n:Int} (hk:k.signed=false) (h1:0≤n) (h2:n < 2 ^ k.bits):IntKind.wrap k n=n:=by
 unfold IntKind.wrap
 simp only [hk,Bool.false_and,Bool.false_eq_true,if_false]
 exact Int.emod_eq_of_lt h1 h2
theorem zq3 {n:Int} (h1:0≤n) (h2:n≤18446744073709551615):IntKind.wrap .u64 n=n:=zyb rfl h1 (Int.lt_of_le_of_lt h2 (by decide))
theorem zjI {n:Int} (h1:0≤n) (h2:n≤4294967295):IntKind.wrap .u32 n=n:=zyb rfl h1 (Int.lt_of_le_of_lt h2 (by decide))
def zcC (k:IntKind) (l:List Int):List (List V):=l.map fun n=>[.sc (.int k n)]
theorem y6 (k:IntKind) (l:List Int):(zcC k l).length=l.length:=by simp [zcC]
theorem zlR (k:IntKind) {l:List Int} {i:Nat} (h:i < l.length):(zcC k l)[i]?=some [.sc (.int k l[i])]:=by simp [zcC,h]
theorem HasRow.int1 {k:IntKind} {e:List V} (h:HasRow [.int k] e):∃ n,e=[.sc (.int k n)]∧(Lit.int k n).wf=true:=by
 obtain ⟨h1,h2⟩:=h
 match e,h1 with
 | [v],_ =>
  obtain ⟨n,rfl,hn⟩:=(h2 0 v _ rfl rfl).int_inv
  exact ⟨n,rfl,hn⟩
theorem zwg {k:IntKind}:∀ {es:List (List V)},(∀ e ∈ es,HasRow [.int k] e)→∃ l:List Int,es=zcC k l∧∀ n ∈ l,(Lit.int k n).wf=true
 | [],_=>⟨[],rfl,by simp⟩
 | e::es,h=>by
  obtain ⟨n,rfl,hn⟩:=(h e (by simp)).int1
  obtain ⟨l,rfl,hl⟩:=zwg (es:=es) (fun x hx=>h x (by simp [hx]))
  exact ⟨n::l,rfl,by simpa [hn] using hl⟩
def row (k:IntKind) (l:List Int):List V:=l.map fun n=>.sc (.int k n)
theorem zft (k:IntKind) (l:List Int):(row k l).length=l.length:=by simp [row]
end
section
set_option linter.unusedVariables false
set_option linter.unusedSimpArgs false
theorem zmz {cs new:List V} (h:new.length=cs.length):ya cs 0 new=new:=by
 simp [ya,h]
theorem zmr {cs new:List V} {off:Nat} (h:off+new.length≤cs.length):(ya cs off new).length=cs.length:=by
 simp [ya]; omega
theorem zxF {cs:List V} {off:Nat} {v:V} (h:off < cs.length):ya cs off [v]=cs.set off v:=by
 simp only [ya,List.length_singleton]
 rw [List.set_eq_take_append_cons_drop,if_pos h]
 simp
theorem zeZ {sz:Nat}:∀ {es:List (List V)},(∀ e ∈ es,e.length=sz)→xb sz es.length es.flatten=es
 | [],_=>rfl
 | e::es,h=>by
  have he:=h e (by simp)
  have:=zeZ (es:=es) (fun x hx=>h x (by simp [hx]))
  simp only [List.length_cons,xb,List.flatten_cons]
  rw [List.take_append_of_le_length (by omega),List.take_of_length_le (by omega),List.drop_append_of_le_length (by omega),List.drop_of_length_le (by omega),List.nil_append,this]
theorem zuI {sz:Nat} {es:List (List V)} (h:∀ e ∈ es,e.length=sz):es.flatten.length=es.length * sz:=y9 h
theorem zpQ {sz:Nat}:∀ {es:List (List V)},(∀ e ∈ es,e.length=sz)→∀ (i:Nat),es.flatten.drop (i * sz)=(es.drop i).flatten
 | [],_,i=>by simp
 | e::es,h,0=>by simp
 | e::es,h,i+1=>by
  have he:=h e (by simp)
  have:=zpQ (es:=es) (fun x hx=>h x (by simp [hx])) i
  have e1:(e++es.flatten).drop sz=es.flatten:=by rw [List.drop_append_of_le_length (by omega),List.drop_of_length_le (by omega),List.nil_append]
  rw [List.flatten_cons,List.drop_succ_cons,← this,show (i+1) * sz=sz+i * sz by rw [Nat.add_mul]; omega,← List.drop_drop,e1]
theorem zxD {sz n:Nat} {es:List (List V)} (h:∀ e ∈ es,e.length=sz) (hn:n≤sz) {i:Nat} {e:List V} (he:es[i]?=some e):(es.flatten.drop (i * sz)).take n=e.take n:=by
 rw [zpQ h]
 obtain ⟨hi,rfl⟩:=List.getElem?_eq_some_iff.1 he
 rw [List.drop_eq_getElem_cons hi,List.flatten_cons,List.take_append_of_le_length (by rw [h _ (List.getElem_mem hi)]; exact hn)]
theorem zl0 (k:IntKind):∀ (l m:List Int),l.length=m.length→zdc (row k l) (row k m)=some (decide (l=m))
 | [],[],_=>rfl
 | x::l,y::m,h=>by
  have:=zl0 k l m (by simpa using h)
  simp only [row] at this
  simp only [row,List.map_cons,zdc,if_true,this,Option.map_some]
  congr 1
  by_cases h1:x=y <;> by_cases h2:l=m <;> simp [h1,h2]
theorem zz8 {β:Type} (k:IntKind) {n:Nat} {l m:List Int} (h1:l.length=n) (h2:m.length=n) (κ:Bool→Option β):eqC n (row k l) (row k m) κ=κ (decide (l=m)):=by
 simp only [eqC,zft,h1,h2,and_self,zqe,zl0 k l m (by omega)]
theorem zvg {β:Type} {p:Prop} {inst:Decidable p} (a b:Option β):ifb (!(@decide p inst)) a b=if p then b else a:=by
 by_cases h:p <;> simp [ifb,h]
theorem zcg {β:Type} (x y:Int) (a b:Option β):ifb (x != y) a b=if x=y then b else a:=by
 by_cases h:x=y
 ·subst h; simp [ifb]
 ·rw [bne_iff_ne.2 h,if_neg h]; rfl
end
section
set_option linter.unusedVariables false
set_option linter.unusedSimpArgs false
theorem zrR {sz:Nat}:∀ {es:List (List V)},(∀ e ∈ es,e.length=sz)→∀ (i:Nat),es.flatten.take (i * sz)=(es.take i).flatten
 | [],_,i=>by simp
 | e::es,h,0=>by simp
 | e::es,h,i+1=>by
  have he:=h e (by simp)
  have:=zrR (es:=es) (fun x hx=>h x (by simp [hx])) i
  rw [List.flatten_cons,List.take_succ_cons,List.flatten_cons,← this,show (i+1) * sz=sz+i * sz by rw [Nat.add_mul]; omega,← he,List.take_append,List.take_of_length_le (by omega)]
  congr 2; omega
theorem zuW {sz:Nat} {es:List (List V)} (h:∀ e ∈ es,e.length=sz) {w:Nat} (hw:w≤es.length):xb sz w es.flatten=es.take w:=by
 induction w generalizing es with
 | zero=>simp [xb]
 | succ w ih =>
  cases es with
  | nil=>simp at hw
  | cons e es =>
   have he:=h e (by simp)
   have:=ih (es:=es) (fun x hx=>h x (by simp [hx])) (by simpa using hw)
   simp only [xb,List.flatten_cons,List.take_succ_cons]
   rw [List.take_append_of_le_length (by omega),List.take_of_length_le (by omega),List.drop_append_of_le_length (by omega),List.drop_of_length_le (by omega),List.nil_append,this]
def zdv {α:Type} (p:α→Bool):List α→Nat→Int
 | [],_=>-1
 | x::l,i=>if p x=true then (i:Int) else zdv p l (i+1)
theorem ziu {α:Type} (p:α→Bool):∀ (l:List α) (a:Nat),(zdv p l a=-1∧∀ x ∈ l,p x=false)∨∃ (i:Nat),∃ h:i < l.length,zdv p l a=((a+i:Nat):Int)∧(∀ x ∈ l.take i,p x=false)∧p l[i]=true
 | [],a=>.inl ⟨rfl,by simp⟩
 | x::l,a=>by
  by_cases hx:p x=true
  ·exact .inr ⟨0,by simp,by simp [zdv,hx],by simp,by simpa using hx⟩
  ·have hx':p x=false:=by simpa using hx
   rcases ziu p l (a+1) with ⟨h1,h2⟩ | ⟨i,hi,h1,h2,h3⟩
   ·refine .inl ⟨by simp [zdv,hx',h1],?_⟩
    intro y hy
    rcases List.mem_cons.1 hy with rfl | hy
    ·exact hx'
    ·exact h2 y hy
   ·refine .inr ⟨i+1,by simpa using hi,?_,?_,by simpa using h3⟩
    ·simp only [zdv,hx',h1]; simp; omega
    ·intro y hy
     simp only [List.take_succ_cons,List.mem_cons] at hy
     rcases hy with rfl | hy
     ·exact hx'
     ·exact h2 y hy
theorem zsM {α:Type} (p:α→Bool) (l:List α) (a:Nat):decide (zdv p l a ≥ 0)=l.any p:=by
 rcases ziu p l a with ⟨h1,h2⟩ | ⟨i,hi,h1,h2,h3⟩
 ·rw [h1]
  have:l.any p=false:=by
   rw [List.any_eq_false]
   intro x hx; rw [h2 x hx]; simp
  rw [this]; rfl
 ·rw [h1]
  have:l.any p=true:=List.any_eq_true.2 ⟨_,List.getElem_mem hi,h3⟩
  rw [this]
  exact decide_eq_true (by omega)
theorem xR {i:Nat} (h:i≤1000000000):IntKind.wrap .i64 ((i:Int)+1)=((i+1:Nat):Int):=by
 rw [zjL (by omega) (by omega)]; omega
end
section
set_option linter.unusedVariables false
set_option linter.unusedSimpArgs false
variable {β:Type}
structure Stm where
 id:List Int
 fr:Int
 to:Int
 due:Int
 hid:id.length=32
def Stm.v (s:Stm):List V:=row .u8 s.id++[V.sc (.int .i64 s.fr),V.sc (.int .i64 s.to),V.sc (.int .u32 s.due)]
structure Hs where
 l:List Int
 hl:l.length=32
def Hs.v (h:Hs):List V:=row .u8 h.l
structure Rl where
 ep:Int
 df:Bool
 rt:List Int
 st:List Stm
 fl:List Hs
def Rl.v (r:Rl):List V:=[V.sc (.int .u32 r.ep),V.sc (.bool r.df),V.sl 1 (zcC .i64 r.rt),V.sl 35 (r.st.map Stm.v),V.sl 32 (r.fl.map Hs.v)]
structure Rl.Ok (r:Rl):Prop where
 nr:r.rt.length≤500
 ns:r.st.length≤500
 nf:r.fl.length≤500
theorem zoa (r:Rl) (k:Int→Option β):cI .u32 r.v 0 k=k r.ep:=zdw rfl k
theorem zms (r:Rl) (k:Bool→Option β):cB r.v 1 k=k r.df:=zzV rfl k
theorem zrQ (r:Rl) (k:List (List V)→Option β):cL 1 r.v 2 k=k (zcC .i64 r.rt):=zsW rfl k
theorem zsy (r:Rl) (k:List (List V)→Option β):cL 35 r.v 3 k=k (r.st.map Stm.v):=zsW rfl k
theorem zrw (r:Rl) (k:List (List V)→Option β):cL 32 r.v 4 k=k (r.fl.map Hs.v):=zsW rfl k
theorem zdH (r:Rl) (k:List (List V)→Option β):cLd 1 r.v 2 k=k (zcC .i64 r.rt):=zqY rfl k
theorem zh1 (r:Rl) (k:List (List V)→Option β):cLd 35 r.v 3 k=k (r.st.map Stm.v):=zqY rfl k
theorem zmH (r:Rl) (k:List (List V)→Option β):cLd 32 r.v 4 k=k (r.fl.map Hs.v):=zqY rfl k
theorem zkn (r:Rl):List.map V.dem (List.take 5 r.v)=r.v:=Eq.trans rfl rfl
theorem znH (r:Rl):List.take 5 r.v=r.v:=Eq.trans rfl rfl
theorem ziQ (r:Rl):ya [(V.sc (.int .u32 (0:Int))),(V.sc (.bool false)),(V.gs 1 ([]:List (List V))),(V.gs 35 ([]:List (List V))),(V.gs 32 ([]:List (List V)))] 0 r.v=r.v:=zmz rfl
theorem zpI (r:Rl) (k:Option β):chk (List.length r.v=5) k=k:=yp rfl k
theorem zdb (r:Rl) (k:Option β):chk (0+5≤List.length r.v) k=k:=yp (by show 0+5≤5; omega) k
theorem zg7 (r:Rl) (k:Option β):chk ((List.length r.v)=5∧0+5≤5) k=k:=yp ⟨rfl,by decide⟩ k
theorem zfp (s:Stm):s.v.length=35:=by rw [Stm.v,List.length_append,zft,s.hid]; rfl
theorem zko (s:Stm):List.take 35 s.v=s.v:=List.take_of_length_le (by rw [zfp]; omega)
theorem zAV (s:Stm):List.take 32 s.v=row .u8 s.id:=by
 rw [Stm.v,List.take_append_of_le_length (by rw [zft,s.hid]; omega),List.take_of_length_le (by rw [zft,s.hid]; omega)]
theorem zrG (s:Stm):ya (List.replicate 32 (V.sc (.int .u8 (0:Int)))++[(V.sc (.int .i64 (0:Int))),(V.sc (.int .i64 (0:Int))),(V.sc (.int .u32 (0:Int)))]) 0 s.v=s.v:=zmz (by rw [zfp]; rfl)
theorem zAE (s:Stm) (k:Option β):chk ((List.length (List.take 35 s.v))=35∧0+35≤35) k=k:=yp ⟨by rw [zko,zfp],by decide⟩ k
theorem zsY (s:Stm) (k:Option β):chk (0+32≤(List.length s.v)) k=k:=yp (by rw [zfp]; omega) k
theorem zd0 (h:Hs):h.v.length=32:=by rw [Hs.v,zft,h.hl]
theorem yZ (h:Hs):List.take 32 h.v=h.v:=List.take_of_length_le (by rw [zd0]; omega)
theorem zns (h:Hs):ya (List.replicate 32 (V.sc (.int .u8 (0:Int)))) 0 h.v=h.v:=zmz (by rw [zd0]; rfl)
theorem zma (h:Hs) (k:Option β):chk ((List.length (List.take 32 h.v))=32∧0+32≤32) k=k:=yp ⟨by rw [yZ,zd0],by decide⟩ k
theorem zal (h:Hs) (k:Option β):chk (0+32≤(List.length h.v)) k=k:=yp (by rw [zd0]; omega) k
theorem zqd (a b:Hs) (k:Bool→Option β):eqC 32 a.v b.v k=k (decide (a.l=b.l)):=zz8 .u8 a.hl b.hl k
def Stm.h (s:Stm):Hs:=⟨s.id,s.hid⟩
theorem zsO (s:Stm):List.take 32 s.v=s.h.v:=zAV s
theorem zir {l:List Stm} {i:Nat} (h:i < l.length):(l.map Stm.v)[i]?=some l[i].v:=by simp [h]
theorem zgb {l:List Hs} {i:Nat} (h:i < l.length):(l.map Hs.v)[i]?=some l[i].v:=by simp [h]
def isH (h:Hs) (x:Hs):Bool:=decide (x.l=h.l)
def isS (h:Hs) (x:Stm):Bool:=decide (x.id=h.l)
theorem zyS (a b:List Int):decide (a=b)=decide (b=a):=decide_eq_decide.2 ⟨Eq.symm,Eq.symm⟩
theorem zu1 {α:Type} {l:List α} {p:α→Bool} {i:Nat} (h:i < l.length):(l.drop i).any p=(p l[i] || (l.drop (i+1)).any p):=by
 rw [List.drop_eq_getElem_cons h]; rfl
theorem zix {α:Type} {l:List α} {p:α→Bool} {i:Nat} (h:i < l.length):zdv p (l.drop i) i=if p l[i]=true then (i:Int) else zdv p (l.drop (i+1)) (i+1):=by
 rw [List.drop_eq_getElem_cons h]; rfl
theorem zu2 (L:Nat) (h:Hs) (l:List Hs) (hl:l.length≤100000) (kr:Bool→Option β) (kx:Option β):∀ (n i:Nat),i≤l.length→l.length - i < n →
  zgk L kr kx n (l.map Hs.v) (i:Int) h.v=ifb ((l.drop i).any (isH h)) (kr true) kx
 | 0,i,h1,h2=>by omega
 | n+1,i,h1,h2=>by
  simp only [zgk,zmK,zE,List.length_map]
  by_cases hi:i < l.length
  ·rw [yI (by omega),zaK (zgb hi),zal,yZ,yZ,zqd,xR (by omega),zu2 L h l hl kr kx n (i+1) (by omega) (by omega),zu1 hi]
   show ifb (isH h l[i]) _ _=_
   cases isH h l[i] <;> rfl
  ·rw [zB (by omega),List.drop_of_length_le (by omega)]; rfl
theorem zvs {L:Nat} {l:List Hs} (hl:l.length≤1000) (hL:2000≤L) (h:Hs) (k:Bool→Option β):zh β L (l.map Hs.v) h.v k=k (l.any (isH h)):=by
 unfold zh zqT zqH
 refine (zu2 L h l (by omega) _ _ L 0 (by omega) (by omega)).trans ?_
 unfold zks zla
 rw [List.drop_zero]
 cases l.any (isH h) <;> rfl
theorem ztI (L:Nat) (h:Hs) (l:List Stm) (hl:l.length≤100000) (k:Int→Option β):∀ (n i:Nat),i≤l.length→l.length - i < n →
  zfR L k (k (-1)) n (l.map Stm.v) (i:Int) h.v=k (zdv (isS h) (l.drop i) i)
 | 0,i,h1,h2=>by omega
 | n+1,i,h1,h2=>by
  simp only [zfR,zl8,zE,List.length_map]
  by_cases hi:i < l.length
  ·rw [yI (by omega),zaK (zir hi),zal,zsO,yZ,zqd,xR (by omega),ztI L h l hl k n (i+1) (by omega) (by omega),zix hi]
   show ifb (isS h l[i]) _ _=_
   cases isS h l[i] <;> rfl
  ·rw [zB (by omega),List.drop_of_length_le (by omega)]; rfl
theorem zwa {L:Nat} {l:List Stm} (hl:l.length≤1000) (hL:2000≤L) (h:Hs) (k:Int→Option β):zf β L (l.map Stm.v) h.v k=k (zdv (isS h) l 0):=by
 unfold zf zpt zpL
 have:=ztI L h l (by omega) k L 0 (by omega) (by omega)
 rw [List.drop_zero] at this
 exact this
theorem zr0 (L:Nat) (h:Hs) (l:List Hs) (hl:l.length≤100000) (k:Int→Option β):∀ (n i:Nat),i≤l.length→l.length - i < n →
  zZ L k (k (-1)) n (l.map Hs.v) (l.length:Int) (i:Int) h.v=k (zdv (isH h) (l.drop i) i)
 | 0,i,h1,h2=>by omega
 | n+1,i,h1,h2=>by
  simp only [zZ,zbT,zE]
  by_cases hi:i < l.length
  ·rw [yI (by omega),zaK (zgb hi),zal,yZ,yZ,zqd,zyS,xR (by omega),zr0 L h l hl k n (i+1) (by omega) (by omega),zix hi]
   show ifb (isH h l[i]) _ _=_
   cases isH h l[i] <;> rfl
  ·rw [zB (by omega),List.drop_of_length_le (by omega)]; rfl
theorem zqL {L:Nat} {l:List Hs} (hl:l.length≤1000) (hL:2000≤L) (h:Hs) (k:Bool→Option β):yg β L (l.map Hs.v) h.v k=k (l.any (isH h)):=by
 unfold yg zb2
 rw [zal,yZ]
 unfold yo zbw zcI
 rw [List.length_map]
 have:=zr0 L h l (by omega) (fun v0=>k (decide (v0 ≥ (0:Int)))) L 0 (by omega) (by omega)
 rw [List.drop_zero,zsM] at this
 exact this
theorem zuQ (L:Nat) (s:Stm) (h:Hs) (k:Bool→List V→Option β):xd β L s.v h.v k=k (isS h s) h.v:=by
 unfold xd zjP
 rw [zsY,zal,zsO,yZ,zqd]; exact Eq.trans rfl rfl
theorem zqR (L:Nat) (h:Hs) (l:List Stm) (hl:l.length≤100000) (k:Int→List V→Option β):∀ (n i:Nat),i≤l.length→l.length - i < n →
  zR xd L k (k (-1)) n (l.map Stm.v) (l.length:Int) (i:Int) h.v=k (zdv (isS h) (l.drop i) i) h.v
 | 0,i,h1,h2=>by omega
 | n+1,i,h1,h2=>by
  simp only [zR,zby,zE]
  by_cases hi:i < l.length
  ·rw [yI (by omega),zaK (zir hi),zko]
   rw [zuQ,yp rfl,xR (by omega),zqR L h l hl k n (i+1) (by omega) (by omega),zix hi]
   cases isS h l[i] <;> rfl
  ·rw [zB (by omega),List.drop_of_length_le (by omega)]; rfl
theorem zz3 {L:Nat} {l:List Stm} (hl:l.length≤1000) (hL:2000≤L) (a:Int) (b:Bool) (c d:List (List V)) (h:Hs) (k:Int→Option β):z7 β L a b c (l.map Stm.v) d h.v k=k (zdv (isS h) l 0):=by
 unfold z7 zlM xk zaQ zbW
 rw [List.length_map]
 have:=zqR L h l (by omega) (fun v0 v1=>chk ([(List.length v1)]=[(List.length h.v)]) (k v0)) L 0 (by omega) (by omega)
 rw [List.drop_zero] at this
 exact this.trans (yp rfl _)
theorem zrH (L:Nat) (l:List Int) (hl:l.length≤100000) (kr:Bool→Option β) (kx:Option β):∀ (n i:Nat),i≤l.length→l.length - i < n →
  zcR L kr kx n (zcC .i64 l) (zcC .i64 l) (i:Int)=kx
 | 0,i,h1,h2=>by omega
 | n+1,i,h1,h2=>by
  simp only [zcR,zfk,zE,y6]
  by_cases hi:i < l.length
  ·rw [yI (by omega),zaK (zlR _ hi),zdw rfl,zaK (zlR _ hi),zdw rfl,zcg,if_pos rfl,xR (by omega)]
   exact zrH L l hl kr kx n (i+1) (by omega) (by omega)
  ·rw [zB (by omega)]
theorem zA6 {L:Nat} {l:List Int} (hl:l.length≤1000) (hL:2000≤L) (k:Bool→Option β):zp β L (zcC .i64 l) (zcC .i64 l) k=k true:=by
 unfold zp zfH zik
 rw [zcg,if_pos rfl]
 exact zrH L l (by omega) _ _ L 0 (by omega) (by omega)
theorem zsj (L:Nat) (l:List Hs) (hl:l.length≤100000) (kr:Bool→Option β) (kx:Option β):∀ (n i:Nat),i≤l.length→l.length - i < n →
  zdo L kr kx n (l.map Hs.v) (l.map Hs.v) (i:Int)=kx
 | 0,i,h1,h2=>by omega
 | n+1,i,h1,h2=>by
  simp only [zdo,zht,zE,List.length_map]
  by_cases hi:i < l.length
  ·rw [yI (by omega),zaK (zgb hi),zaK (zgb hi),yZ,zqd,decide_eq_true rfl,xR (by omega)]
   exact zsj L l hl kr kx n (i+1) (by omega) (by omega)
  ·rw [zB (by omega)]
theorem zAY {L:Nat} {l:List Hs} (hl:l.length≤1000) (hL:2000≤L) (k:Bool→Option β):yf β L (l.map Hs.v) (l.map Hs.v) k=k true:=by
 unfold yf zkB zkr
 rw [zcg,if_pos rfl]
 exact zsj L l (by omega) _ _ L 0 (by omega) (by omega)
theorem zqK {k:IntKind}:∀ (l:List Int) (t:List V),zdc t t=some true→zdc (row k l++t) (row k l++t)=some true
 | [],t,h=>h
 | x::l,t,h=>by
  have:=zqK (k:=k) l t h
  simp only [row] at this
  simp only [row,List.map_cons,List.cons_append,zdc,if_true,this,Option.map_some,BEq.rfl,Bool.and_true]
theorem zAZ (s:Stm) (k:Bool→Option β):eqC 35 s.v s.v k=k true:=by
 have:zdc s.v s.v=some true:=zqK s.id _ (by simp [zdc])
 simp only [eqC,zfp,and_self,zqe,this]
theorem ztG (L:Nat) (r:Rl) (hr:r.Ok) (kr:Bool→Option β) (kx:Option β):∀ (n i:Nat),i≤r.st.length→r.st.length - i < n →
  zfb zp yf L kr kx n (i:Int) r.v r.v=kx
 | 0,i,h1,h2=>by omega
 | n+1,i,h1,h2=>by
  have hs:=hr.ns
  simp only [zfb,zk8,zE,zh1,List.length_map]
  by_cases hi:i < r.st.length
  ·rw [yI (by omega),zaK (zir hi),zaK (zir hi),zko,zAZ,xR (by omega)]
   exact ztG L r hr kr kx n (i+1) (by omega) (by omega)
  ·rw [zB (by omega)]
theorem zz9 {L:Nat} {r:Rl} (hr:r.Ok) (hL:2000≤L) (k:Bool→Option β):xg β L r.v r.v k=k true:=by
 have h1:=hr.nr; have h2:=hr.ns; have h3:=hr.nf
 unfold xg zpF zpa
 rw [zoa,zoa,zcg,if_pos rfl,zms,zms,BEq.rfl,Bool.not_true,yr,zdH,zdH,zA6 (by omega) hL,Bool.not_true,yr,zmH,zmH,zAY (by omega) hL,Bool.not_true,yr,zh1,zh1,zcg,if_pos rfl]
 exact ztG L r hr _ _ L 0 (by omega) (by omega)
end
section
set_option linter.unusedVariables false
set_option linter.unusedSimpArgs false
variable {β:Type}
def zbI:List (List Int)→List (List Int)→Bool
 | _,[]=>true
 | N,x::l=>!(decide (x ∈ N)) && zbI (N++[x]) l
theorem zln:∀ (l N:List (List Int)),zbI N l=true↔l.Nodup∧∀ x ∈ l,x ∉ N
 | [],N=>by simp [zbI]
 | x::l,N=>by
  rw [zbI,Bool.and_eq_true,zln l (N++[x])]
  simp only [Bool.not_eq_true',decide_eq_false_iff_not,List.nodup_cons,List.mem_cons,List.mem_append,List.mem_singleton,List.not_mem_nil,or_false]
  constructor
  ·rintro ⟨h1,h2,h3⟩
   refine ⟨⟨fun hx=>h3 x hx (.inr rfl),h2⟩,?_⟩
   rintro y (rfl | hy)
   ·exact h1
   ·exact fun hn=>h3 y hy (.inl hn)
  ·rintro ⟨⟨h1,h2⟩,h3⟩
   refine ⟨h3 x (.inl rfl),h2,fun y hy hn=>?_⟩
   rcases hn with hn | rfl
   ·exact h3 y (.inr hy) hn
   ·exact h1 hy
def xV (r:Rl):List (List Int):=r.st.map (·.id)
def zdu (r:Rl):List (List Int):=r.fl.map (·.l)
def rtB (rt:List Int):Bool:=rt.all (fun x=>decide (0≤x)) && !(decide (rt.length=2) && decide (rt.getD 0 0=rt.getD 1 0))
def zfU (r:Rl):Bool:=decide (r.rt.length≤2) && (decide (r.st.length≤64) && (decide (r.fl.length≤2048) && (rtB r.rt && (zbI [] (xV r) && zbI (xV r) (zdu r)))))
def zhV (N:List (List Int)):List (V × V):=N.map fun l=>(V.agg (row .u8 l),V.sc (.bool true))
theorem zo9 (a b:List Int) (h:a.length=b.length):zgu (V.agg (row .u8 a)) (V.agg (row .u8 b))=some (decide (a=b)):=by
 simp only [zgu,zft,h,if_true,zl0 .u8 a b h]
theorem zrY (a:List Int) (ha:a.length=32):∀ N:List (List Int),(∀ x ∈ N,x.length=32)→zlk (V.agg (row .u8 a)) (zhV N)=some (if a ∈ N then some (V.sc (.bool true)) else none)
 | [],_=>rfl
 | x::N,h=>by
  have ih:=zrY a ha N (fun y hy=>h y (List.mem_cons_of_mem _ hy))
  have hx:=h x (List.mem_cons_self ..)
  simp only [zhV,List.map_cons,zlk,zo9 a x (by omega)] at ih ⊢
  by_cases e:a=x
  ·subst e; simp
  ·simp only [decide_eq_false e,List.mem_cons,e,false_or]; exact ih
theorem ztw (a:List Int) (ha:a.length=32):∀ N:List (List Int),(∀ x ∈ N,x.length=32)→∃ m,zpH (V.agg (row .u8 a)) (V.sc (.bool true)) (zhV N)=some m∧(a ∉ N→m=zhV (N++[a]))
 | [],_=>⟨_,rfl,fun _=>rfl⟩
 | x::N,h=>by
  obtain ⟨m,e1,e2⟩:=ztw a ha N (fun y hy=>h y (List.mem_cons_of_mem _ hy))
  have hx:=h x (List.mem_cons_self ..)
  by_cases e:a=x
  ·subst e
   refine ⟨(V.agg (row .u8 a),V.sc (.bool true))::zhV N,?_,fun hn=>absurd (List.mem_cons_self ..) hn⟩
   simp only [zhV,List.map_cons,zpH,zo9 a a rfl,decide_true]
  ·refine ⟨(V.agg (row .u8 x),V.sc (.bool true))::m,?_,fun hn=>?_⟩
   ·simp only [zhV,List.map_cons,zpH,zo9 a x (by omega),decide_eq_false e] at e1 ⊢
    rw [e1]; rfl
   ·rw [e2 (fun hm=>hn (List.mem_cons_of_mem _ hm))]; rfl
theorem zyg (L:Nat) (h:Hs) (N:List (List Int)) (hN:∀ x ∈ N,x.length=32) (k:Bool→List (V × V)→Option β) (R:Option β) (hk:∀ m,k false m=R):zd β L h.v (zhV N) k=ifb (!(decide (h.l ∈ N))) (k true (zhV (N++[h.l]))) R:=by
 unfold zd zi2
 have ok:zfK 34 (V.agg (row .u8 h.l))=true:=by simp [zfK,zft,h.hl]
 obtain ⟨m,e1,e2⟩:=ztw h.l h.hl N hN
 rw [zal,yZ]
 simp only [Hs.v,mAt,zww,ok,zrY h.l h.hl N hN,e1]
 by_cases hm:h.l ∈ N
 ·rw [if_pos hm,decide_eq_true hm]
  simp only [Option.getD_some,aB]
  rw [yp (by rw [zft,h.hl]; omega)]
  exact hk m
 ·rw [if_neg hm,decide_eq_false hm,e2 hm]
  simp only [Option.getD_none,aB]
  rw [yp (by rw [zft,h.hl]; omega)]
  rfl
theorem zl3 {rt:List Int} (h:rt.length≤2):rt=[]∨(∃ a,rt=[a])∨∃ a b,rt=[a,b]:=by
 match rt,h with
 | [],_=>exact .inl rfl
 | [a],_=>exact .inr (.inl ⟨a,rfl⟩)
 | [a,b],_=>exact .inr (.inr ⟨a,b,rfl⟩)
theorem zoc (l:List (List Int)) {i:Nat} (h:i < l.length):zbI (l.take i) (l.drop i)=(!(decide (l[i] ∈ l.take i)) && zbI (l.take (i+1)) (l.drop (i+1))):=by
 rw [List.drop_eq_getElem_cons h,zbI,List.take_succ_eq_append_getElem h]
theorem zwk (L:Nat) (l:List Int) (hl:l.length≤100000) (b1:List V) (kr:Bool→Option β) (kx:List V→Option β):∀ (n i:Nat),i≤l.length→l.length - i < n →
  zdF zd L kr kx n (zcC .i64 l) (l.length:Int) (i:Int) b1=ifb ((l.drop i).all (fun x=>decide (0≤x))) (kx b1) (kr false)
 | 0,i,h1,h2=>by omega
 | n+1,i,h1,h2=>by
  simp only [zdF,zg1,zE]
  by_cases hi:i < l.length
  ·rw [yI (by omega),zaK (zlR _ hi),zdw rfl,xR (by omega),zwk L l hl b1 kr kx n (i+1) (by omega) (by omega),List.drop_eq_getElem_cons hi,List.all_cons]
   by_cases hx:0≤l[i]
   ·rw [zB (by omega),decide_eq_true hx]; rfl
   ·rw [yI (by omega),decide_eq_false hx]; rfl
  ·rw [zB (by omega),List.drop_of_length_le (by omega)]; rfl
theorem zv6 (L:Nat) (l:List Stm) (hl:l.length≤100000) (b1:List V) (kr:Bool→List (V × V)→Option β) (R:Option β) (hk:∀ m,kr false m=R) (kx:List V→List (V × V)→Option β):∀ (n i:Nat),i≤l.length→l.length - i < n →
  zbM zd L kr kx n (l.map Stm.v) (l.length:Int) (i:Int) b1 (zhV ((l.map (·.id)).take i))=ifb (zbI ((l.map (·.id)).take i) ((l.map (·.id)).drop i)) (kx b1 (zhV (l.map (·.id)))) R
 | 0,i,h1,h2=>by omega
 | n+1,i,h1,h2=>by
  simp only [zbM,ze0,zE]
  by_cases hi:i < l.length
  ·have hi':i < (l.map (·.id)).length:=by simpa using hi
   have e:(l.map (·.id))[i]=l[i].h.l:=by simp [Stm.h]
   rw [yI (by omega),zaK (zir hi),zAE,zko,zrG,zsY,zsO]
   rw [zyg L l[i].h _ (fun x hx=>by obtain ⟨s,_,rfl⟩:=List.mem_map.1 (List.mem_of_mem_take hx); exact s.hid) _ R (fun m=>by rw [Bool.not_false,xM]; exact hk m)]
   rw [Bool.not_true,yr,← e,← List.take_succ_eq_append_getElem hi',xR (by omega),zv6 L l hl b1 kr R hk kx n (i+1) (by omega) (by omega),zoc _ hi']
   cases !(decide ((l.map (·.id))[i] ∈ (l.map (·.id)).take i)) <;> rfl
  ·have e1:(l.map (·.id)).take i=l.map (·.id):=List.take_of_length_le (by simp; omega)
   have e2:(l.map (·.id)).drop i=[]:=List.drop_of_length_le (by simp; omega)
   rw [zB (by omega),e1,e2]; rfl
theorem zwj (L:Nat) (N:List (List Int)) (hN:∀ x ∈ N,x.length=32) (l:List Hs) (hl:l.length≤100000) (kr:Bool→List (V × V)→Option β) (R:Option β) (hk:∀ m,kr false m=R) (kx:List (V × V)→Option β) (hx:∀ m,kx m=kx []):∀ (n i:Nat),i≤l.length→l.length - i < n →
  zcm zd L kr kx n (l.map Hs.v) (l.length:Int) (i:Int) (zhV (N++(l.map (·.l)).take i))=ifb (zbI (N++(l.map (·.l)).take i) ((l.map (·.l)).drop i)) (kx []) R
 | 0,i,h1,h2=>by omega
 | n+1,i,h1,h2=>by
  simp only [zcm,zeM,zE]
  by_cases hi:i < l.length
  ·have hi':i < (l.map (·.l)).length:=by simpa using hi
   have e:(l.map (·.l))[i]=l[i].l:=by simp
   rw [yI (by omega),zaK (zgb hi),zma,yZ,zns,zal,yZ]
   rw [zyg L l[i] _ (fun x hx=>by
    rcases List.mem_append.1 hx with hx | hx
    ·exact hN x hx
    ·obtain ⟨s,_,rfl⟩:=List.mem_map.1 (List.mem_of_mem_take hx); exact s.hl) _ R (fun m=>by rw [Bool.not_false,xM]; exact hk m)]
   rw [Bool.not_true,yr,← e,List.append_assoc,← List.take_succ_eq_append_getElem hi',xR (by omega),zwj L N hN l hl kr R hk kx hx n (i+1) (by omega) (by omega)]
   rw [List.drop_eq_getElem_cons hi',zbI,List.append_assoc,← List.take_succ_eq_append_getElem hi']
   cases !(decide ((l.map (·.l))[i] ∈ N++(l.map (·.l)).take i)) <;> rfl
  ·have e2:(l.map (·.l)).drop i=[]:=List.drop_of_length_le (by simp; omega)
   rw [zB (by omega),e2]; exact hx _
theorem zeO (a b:Bool) (x y:Option β):ifb (a && b) x y=ifb a (ifb b x y) y:=by cases a <;> cases b <;> rfl
theorem zzh (a:Bool) (k:Bool→Option β):ifb a (k true) (k false)=k a:=by cases a <;> rfl
theorem zrk {L:Nat} {r:Rl} (hr:r.Ok) (hL:2000≤L) (k:Bool→Option β):zr β L r.v k=k (zfU r):=by
 have h1:=hr.nr; have h2:=hr.ns; have h3:=hr.nf
 unfold zr zhX zk6
 rw [← zzh (zfU r) k,zfU,zeO,zeO,zeO,zeO]
 simp only [zdH,zh1,zmH,y6,List.length_map]
 by_cases q1:r.rt.length≤2
 ·rw [zB (by omega),decide_eq_true q1,xM]
  by_cases q2:r.st.length≤64
  ·rw [zB (by omega),decide_eq_true q2,xM,zB (by omega),decide_eq_true (by omega:r.fl.length≤2048),xM]
   refine (zwk L r.rt (by omega) r.v _ _ L 0 (by omega) (by omega)).trans ?_
   rw [List.drop_zero,rtB,zeO]
   cases r.rt.all (fun x=>decide (0≤x)) with
   | false=>rfl
   | true =>
    rw [xM,xM]
    have key:∀ (p:List (List V)) (m:Int),p=r.st.map Stm.v→m=(r.st.length:Int) →
      zbM zd L (fun p2 b52=>zdC zd L p2 b52 k) (fun b1 b52=>zbQ zd L b1 b52 k) L p m (0:Int) r.v []=ifb (zbI [] (xV r) && zbI (xV r) (zdu r)) (k true) (k false):=by
     rintro p m rfl rfl
     refine (zv6 L r.st (by omega) r.v _ (k false) (fun m=>rfl) _ L 0 (by omega) (by omega)).trans ?_
     rw [zeO]
     simp only [List.take_zero,List.drop_zero]
     show ifb (zbI [] (xV r)) _ _=_
     cases zbI [] (xV r) with
     | false=>rfl
     | true =>
      rw [xM,xM]
      unfold zbQ zep
      rw [zmH,List.length_map]
      have:=zwj L (xV r) (fun x hx=>by obtain ⟨s,_,rfl⟩:=List.mem_map.1 hx; exact s.hid) r.fl (by omega) (fun p2 b52=>zdt zd L p2 b52 k) (k false) (fun m=>rfl) (fun b52=>zeb zd L b52 k) (fun m=>rfl) L 0 (by omega) (by omega)
      simp only [List.take_zero,List.drop_zero,List.append_nil] at this
      exact this
    unfold zdR zfO
    rw [zdH,y6]
    rcases zl3 q1 with e | ⟨a,e⟩ | ⟨a,b,e⟩
    ·rw [zaM (by rw [e]; exact (by decide:((0:Nat):Int)≠2)),zh1,List.length_map]
     refine (key _ _ rfl rfl).trans ?_
     rw [e]; rfl
    ·rw [zaM (by rw [e]; exact (by decide:((1:Nat):Int)≠2)),zh1,List.length_map]
     refine (key _ _ rfl rfl).trans ?_
     rw [e]; rfl
    ·have e0:(zcC .i64 r.rt)[0]?=some [V.sc (.int .i64 a)]:=by rw [e]; rfl
     have e1:(zcC .i64 r.rt)[1]?=some [V.sc (.int .i64 b)]:=by rw [e]; rfl
     have g0:r.rt.getD 0 0=a:=by rw [e]; rfl
     have g1:r.rt.getD 1 0=b:=by rw [e]; rfl
     rw [zb5 (by rw [e]; rfl),zdH,zii (by decide) e0,zdw rfl,zdH,zii (by decide) e1,zdw rfl,zh1,List.length_map,decide_eq_true (by rw [e]; rfl:r.rt.length=2),Bool.true_and,g0,g1]
     by_cases hab:a=b
     ·rw [zb5 hab,decide_eq_true hab]; rfl
     ·rw [zaM hab,decide_eq_false hab,Bool.not_false,xM]
      exact key _ _ rfl rfl
  ·rw [yI (by omega),decide_eq_false q2]; rfl
 ·rw [yI (by omega),decide_eq_false q1]; rfl
end
section
set_option linter.unusedVariables false
set_option linter.unusedSimpArgs false
variable {β:Type}
theorem zvZ (h:Hs) (l:List Hs):l.any (isH h)=decide (h.l ∈ l.map (·.l)):=by
 rw [Bool.eq_iff_iff,List.any_eq_true,decide_eq_true_eq,List.mem_map]
 constructor
 ·rintro ⟨x,hx,e⟩; exact ⟨x,hx,of_decide_eq_true e⟩
 ·rintro ⟨x,hx,e⟩; exact ⟨x,hx,decide_eq_true e⟩
theorem zxv (l:List Stm) {i:Nat} (hi:i < l.length):decide (zdv (isS l[i].h) l 0=(i:Int))=!(decide ((l.map (·.id))[i]'(by simpa using hi) ∈ (l.map (·.id)).take i)):=by
 have e:(l.map (·.id))[i]'(by simpa using hi)=l[i].h.l:=by simp [Stm.h]
 rw [e,← decide_not]
 apply decide_eq_decide.2
 rcases ziu (isS l[i].h) l 0 with ⟨h1,h2⟩ | ⟨j,hj,h1,h2,h3⟩
 ·have:=h2 l[i] (List.getElem_mem hi)
  simp [isS,Stm.h] at this
 ·rw [h1,Nat.zero_add]
  constructor
  ·intro hji
   have hji:j=i:=by omega
   subst hji
   intro hm
   rw [← List.map_take] at hm
   obtain ⟨s,hs,e⟩:=List.mem_map.1 hm
   have:=h2 s hs
   simp [isS,e] at this
  ·intro hn
   by_cases hji:j=i
   ·rw [hji]
   ·exfalso
    rcases Nat.lt_or_gt_of_ne hji with q | q
    ·apply hn
     rw [← List.map_take]
     refine List.mem_map.2 ⟨l[j],?_,by simpa [isS] using h3⟩
     rw [List.mem_take_iff_getElem]
     exact ⟨j,by omega,rfl⟩
    ·have:=h2 l[i] (by
      rw [List.mem_take_iff_getElem]
      exact ⟨i,by omega,rfl⟩)
     simp [isS,Stm.h] at this
theorem zuV (L:Nat) (hL:2000≤L) (r:Rl) (hr:r.Ok) (kr:Bool→Option β) (kx:List V→Option β):∀ (n i:Nat),i≤r.fl.length→r.fl.length - i < n →
  zeB zh zf L kr kx n (i:Int) r.v=ifb (zbI ((zdu r).take i) ((zdu r).drop i)) (kx r.v) (kr false)
 | 0,i,h1,h2=>by omega
 | n+1,i,h1,h2=>by
  have h3:=hr.nf
  simp only [zeB,zjz,zE,zmH,List.length_map]
  by_cases hi:i < r.fl.length
  ·have hi':i < (zdu r).length:=by simpa [zdu] using hi
   have e:(zdu r)[i]=r.fl[i].l:=by simp [zdu]
   rw [yI (by omega),yp ⟨by omega,by omega⟩,zaK (zgb hi),List.drop_zero,Nat.sub_zero,Int.toNat_natCast,← List.map_take,yZ,zvs (by rw [List.length_take]; omega) hL,xR (by omega),zuV L hL r hr kr kx n (i+1) (by omega) (by omega),zoc _ hi',zvZ,← e]
   rw [show (r.fl.take i).map (·.l)=(zdu r).take i by rw [zdu,List.map_take]]
   cases decide ((zdu r)[i] ∈ (zdu r).take i) <;> rfl
  ·have e2:(zdu r).drop i=[]:=List.drop_of_length_le (by simp [zdu]; omega)
   rw [zB (by omega),e2]; rfl
theorem zuP (L:Nat) (hL:2000≤L) (r:Rl) (hr:r.Ok) (kr:Bool→Option β) (kx:Option β):∀ (n i:Nat),i≤r.st.length→r.st.length - i < n →
  zd6 zh zf L kr kx n (i:Int) r.v=ifb (zbI ((xV r).take i) ((xV r).drop i) && ((xV r).drop i).all (fun x=>!(decide (x ∈ zdu r)))) kx (kr false)
 | 0,i,h1,h2=>by omega
 | n+1,i,h1,h2=>by
  have h3:=hr.nf
  have h4:=hr.ns
  simp only [zd6,ziY,zE,zh1,zmH,List.length_map]
  by_cases hi:i < r.st.length
  ·have hi':i < (xV r).length:=by simpa [xV] using hi
   have e:(xV r)[i]=r.st[i].h.l:=by simp [xV,Stm.h]
   have ef:=zxv r.st hi
   rw [yI (by omega),zaK (zir hi),zsO,zwa (by omega) hL,zaK (zir hi),zsO,zvs (by omega) hL,xR (by omega),zuP L hL r hr kr kx n (i+1) (by omega) (by omega),zoc _ hi',zvZ,← e,zcg]
   have es:decide (zdv (isS r.st[i].h) r.st 0=(i:Int))=!(decide ((xV r)[i] ∈ (xV r).take i)):=ef
   have ed:((xV r).drop i).all (fun x=>!(decide (x ∈ zdu r)))=(!(decide ((xV r)[i] ∈ zdu r)) && ((xV r).drop (i+1)).all (fun x=>!(decide (x ∈ zdu r)))):=by
    rw [List.drop_eq_getElem_cons hi']; rfl
   rw [ed,show r.fl.map (·.l)=zdu r from rfl]
   by_cases hf:zdv (isS r.st[i].h) r.st 0=(i:Int)
   ·rw [if_pos hf]
    rw [decide_eq_true hf] at es
    rw [← es,Bool.true_and]
    cases decide ((xV r)[i] ∈ zdu r) with
    | true=>rw [xM,Bool.not_true,Bool.false_and,Bool.and_false,yr]
    | false=>rw [yr,Bool.not_false,Bool.true_and]
   ·rw [if_neg hf]
    rw [decide_eq_false hf] at es
    rw [← es,Bool.false_and,Bool.false_and,yr]
  ·have e2:(xV r).drop i=[]:=List.drop_of_length_le (by simp [xV]; omega)
   rw [zB (by omega),e2]; rfl
theorem zw2 (r:Rl):(zbI [] (zdu r) && (zbI [] (xV r) && (xV r).all (fun x=>!(decide (x ∈ zdu r)))))=(zbI [] (xV r) && zbI (xV r) (zdu r)):=by
 rw [Bool.eq_iff_iff]
 simp only [Bool.and_eq_true,zln,List.all_eq_true,Bool.not_eq_true',decide_eq_false_iff_not,List.not_mem_nil,not_false_eq_true,implies_true,and_true]
 constructor
 ·rintro ⟨h1,h2,h3⟩; exact ⟨h2,h1,fun x hx hs=>h3 x hs hx⟩
 ·rintro ⟨h2,h1,h3⟩; exact ⟨h1,h2,fun x hx hf=>h3 x hf hx⟩
theorem zyc {L:Nat} {r:Rl} (hr:r.Ok) (hL:2000≤L) (k:Bool→Option β):yD β L r.v k=k (zfU r):=by
 have h1:=hr.nr; have h2:=hr.ns; have h3:=hr.nf
 obtain ⟨L',rfl⟩:=Nat.exists_eq_add_of_le hL
 unfold yD zor zom
 rw [← zzh (zfU r) k,zfU,zeO,zeO,zeO,zeO]
 simp only [zdH,zh1,zmH,y6,List.length_map]
 by_cases q1:r.rt.length≤2
 ·rw [zB (by omega),decide_eq_true q1,xM]
  by_cases q2:r.st.length≤64
  ·rw [zB (by omega),decide_eq_true q2,xM,zB (by omega),decide_eq_true (by omega:r.fl.length≤2048),xM]
   have key:xG zh zf (2000+L') r.v k=ifb (zbI [] (xV r) && zbI (xV r) (zdu r)) (k true) (k false):=by
    unfold xG zjn
    refine (zuV (2000+L') hL r hr _ _ (2000+L') 0 (by omega) (by omega)).trans ?_
    simp only [List.take_zero,List.drop_zero]
    rw [← zw2 r,zeO]
    cases zbI [] (zdu r) with
    | false=>rfl
    | true =>
     rw [xM,xM]
     unfold zhT zis
     refine (zuP (2000+L') hL r hr _ _ (2000+L') 0 (by omega) (by omega)).trans ?_
     simp only [List.take_zero,List.drop_zero]
     rfl
   rw [show 2000+L'=(1997+L')+1+1+1 by omega] at key ⊢
   generalize hM:1997+L'=M at key ⊢
   rcases zl3 q1 with e | ⟨a,e⟩ | ⟨a,b,e⟩
   ·refine (show _=yQ zh zf (M+1+1+1) ((0:Nat):Int) r.v (fun p2=>xJ zh zf (M+1+1+1) p2 k) (fun p3 b1=>zbA zh zf (M+1+1+1) (fun p2=>xJ zh zf (M+1+1+1) p2 k) (fun b1=>xG zh zf (M+1+1+1) b1 k) (M+1+1) p3 b1) (fun b1=>xG zh zf (M+1+1+1) b1 k) from rfl).trans ?_
    unfold yQ
    rw [zdH,y6,zB (by rw [e]; decide)]
    refine key.trans ?_
    rw [rtB,e]; rfl
   ·have e0:(zcC .i64 r.rt)[0]?=some [V.sc (.int .i64 a)]:=by rw [e]; rfl
    refine (show _=yQ zh zf (M+1+1+1) ((0:Nat):Int) r.v (fun p2=>xJ zh zf (M+1+1+1) p2 k) (fun p3 b1=>zbA zh zf (M+1+1+1) (fun p2=>xJ zh zf (M+1+1+1) p2 k) (fun b1=>xG zh zf (M+1+1+1) b1 k) (M+1+1) p3 b1) (fun b1=>xG zh zf (M+1+1+1) b1 k) from rfl).trans ?_
    unfold yQ
    rw [zdH,y6,yI (by rw [e]; simp),zdH,zaK e0,zdw rfl,zB (by decide:¬ ((0:Nat):Int) > 0),zE,xR (by omega)]
    rw [show rtB r.rt=decide (0≤a) by rw [rtB,e]; simp]
    by_cases ha:0≤a
    ·rw [zB (by omega),decide_eq_true ha,xM]
     refine (show _=yQ zh zf (M+1+1+1) ((1:Nat):Int) r.v (fun p2=>xJ zh zf (M+1+1+1) p2 k) (fun p3 b1=>zbA zh zf (M+1+1+1) (fun p2=>xJ zh zf (M+1+1+1) p2 k) (fun b1=>xG zh zf (M+1+1+1) b1 k) (M+1) p3 b1) (fun b1=>xG zh zf (M+1+1+1) b1 k) from rfl).trans ?_
     unfold yQ
     rw [zdH,y6,zB (by rw [e]; simp)]
     exact key
    ·rw [yI (by omega),decide_eq_false ha]; rfl
   ·have e0:(zcC .i64 r.rt)[0]?=some [V.sc (.int .i64 a)]:=by rw [e]; rfl
    have e1:(zcC .i64 r.rt)[1]?=some [V.sc (.int .i64 b)]:=by rw [e]; rfl
    refine (show _=yQ zh zf (M+1+1+1) ((0:Nat):Int) r.v (fun p2=>xJ zh zf (M+1+1+1) p2 k) (fun p3 b1=>zbA zh zf (M+1+1+1) (fun p2=>xJ zh zf (M+1+1+1) p2 k) (fun b1=>xG zh zf (M+1+1+1) b1 k) (M+1+1) p3 b1) (fun b1=>xG zh zf (M+1+1+1) b1 k) from rfl).trans ?_
    unfold yQ
    rw [zdH,y6,yI (by rw [e]; simp),zdH,zaK e0,zdw rfl,zB (by decide:¬ ((0:Nat):Int) > 0),zE,xR (by omega)]
    rw [show rtB r.rt=(decide (0≤a) && (decide (0≤b) && !(decide (a=b)))) by rw [rtB,e]; simp [Bool.and_assoc]]
    by_cases ha:0≤a
    ·rw [zB (by omega),decide_eq_true ha,Bool.true_and,zeO]
     refine (show _=yQ zh zf (M+1+1+1) ((1:Nat):Int) r.v (fun p2=>xJ zh zf (M+1+1+1) p2 k) (fun p3 b1=>zbA zh zf (M+1+1+1) (fun p2=>xJ zh zf (M+1+1+1) p2 k) (fun b1=>xG zh zf (M+1+1+1) b1 k) (M+1) p3 b1) (fun b1=>xG zh zf (M+1+1+1) b1 k) from rfl).trans ?_
     unfold yQ
     rw [zdH,y6,yI (by rw [e]; simp),zdH,zaK e1,zdw rfl,yI (by decide:((1:Nat):Int) > 0),zdH,zii (by decide) e0,zdw rfl,zdH,zii (by decide) e1,zdw rfl,zE,xR (by omega)]
     by_cases hb:0≤b
     ·rw [zB (by omega),decide_eq_true hb,xM]
      by_cases hab:a=b
      ·rw [zb5 hab,decide_eq_true hab]; rfl
      ·rw [zaM hab,decide_eq_false hab,Bool.not_false,xM]
       refine (show _=yQ zh zf (M+1+1+1) ((2:Nat):Int) r.v (fun p2=>xJ zh zf (M+1+1+1) p2 k) (fun p3 b1=>zbA zh zf (M+1+1+1) (fun p2=>xJ zh zf (M+1+1+1) p2 k) (fun b1=>xG zh zf (M+1+1+1) b1 k) M p3 b1) (fun b1=>xG zh zf (M+1+1+1) b1 k) from rfl).trans ?_
       unfold yQ
       rw [zdH,y6,zB (by rw [e]; simp)]
       exact key
     ·rw [yI (by omega),decide_eq_false hb]; rfl
    ·rw [yI (by omega),decide_eq_false ha]; rfl
  ·rw [yI (by omega),decide_eq_false q2]; rfl
 ·rw [yI (by omega),decide_eq_false q1]; rfl
end
section
set_option linter.unusedVariables false
set_option linter.unusedSimpArgs false
variable {β:Type}
def sfl (l:List Stm):List V:=(l.map Stm.v).flatten
def hfl (l:List Hs):List V:=(l.map Hs.v).flatten
def ifl (l:List Int):List V:=(zcC .i64 l).flatten
theorem ztO (l:List Int):∀ e ∈ zcC .i64 l,e.length=1:=by
 intro e he
 obtain ⟨n,_,rfl⟩:=List.mem_map.1 he; rfl
theorem zh8 (l:List Stm):∀ e ∈ l.map Stm.v,e.length=35:=by
 intro e he
 obtain ⟨s,_,rfl⟩:=List.mem_map.1 he; exact zfp s
theorem zrp (l:List Hs):∀ e ∈ l.map Hs.v,e.length=32:=by
 intro e he
 obtain ⟨s,_,rfl⟩:=List.mem_map.1 he; exact zd0 s
theorem chI (l:List Int):xb 1 l.length (ifl l)=zcC .i64 l:=by
 have:=zeZ (ztO l); rwa [y6] at this
theorem chS (l:List Stm):xb 35 l.length (sfl l)=l.map Stm.v:=by
 have:=zeZ (zh8 l); rwa [List.length_map] at this
theorem chH (l:List Hs):xb 32 l.length (hfl l)=l.map Hs.v:=by
 have:=zeZ (zrp l); rwa [List.length_map] at this
theorem zfx (l:List Stm):(sfl l).length=l.length * 35:=by
 have:=zuI (zh8 l); rwa [List.length_map] at this
theorem zzC (l:List Hs):(hfl l).length=l.length * 32:=by
 have:=zuI (zrp l); rwa [List.length_map] at this
theorem zuS (a:Option β) (b:List V→List (List V)→Option β):lc [] a b=a:=Eq.trans rfl rfl
theorem zs2 (x:List V) (l:List (List V)) (a:Option β) (b:List V→List (List V)→Option β):lc (x::l) a b=b x l:=Eq.trans rfl rfl
theorem zAU (L:Nat) (l:List Int) (hl:l.length≤1000) (k:List (List V)→Option β):yz β L (zcC .i64 l) k=k (zcC .i64 l):=by
 unfold yz zeL
 cases h:zcC .i64 l with
 | nil=>rw [zuS]
 | cons x m =>
  have hlen:(x::m).length≤1000:=by rw [← h,y6]; exact hl
  rw [zs2,yp (by simp only [yi]; omega),yp (.inl (by simp)),zeZ (by rw [← h]; exact ztO l)]
theorem zAA (L:Nat) (l:List Stm) (hl:l.length≤1000) (k:List (List V)→Option β):xm β L (l.map Stm.v) k=k (l.map Stm.v):=by
 unfold xm zcJ
 cases h:l.map Stm.v with
 | nil=>rw [zuS]
 | cons x m =>
  have hlen:(x::m).length≤1000:=by rw [← h,List.length_map]; exact hl
  rw [zs2,yp (by simp only [yi]; omega),yp (.inl (by simp)),zeZ (by rw [← h]; exact zh8 l)]
theorem zAI (L:Nat) (l:List Hs) (hl:l.length≤1000) (k:List (List V)→Option β):zn β L (l.map Hs.v) k=k (l.map Hs.v):=by
 unfold zn zcF
 cases h:l.map Hs.v with
 | nil=>rw [zuS]
 | cons x m =>
  have hlen:(x::m).length≤1000:=by rw [← h,List.length_map]; exact hl
  rw [zs2,yp (by simp only [yi]; omega),yp (.inl (by simp)),zeZ (by rw [← h]; exact zrp l)]
theorem zip {L:Nat} {r:Rl} (hr:r.Ok) (k:Int→Bool→Nat→Nat→Nat→List V→List V→List V→Option β):yl β L r.v k=k r.ep r.df r.rt.length r.st.length r.fl.length (ifl r.rt) (sfl r.st) (hfl r.fl):=by
 have h1:=hr.nr; have h2:=hr.ns; have h3:=hr.nf
 unfold yl zjV
 rw [zpI,zoa,zms,zrQ,zsy,zrw,zAU L _ (by omega),zAA L _ (by omega),zAI L _ (by omega),y6,List.length_map,List.length_map]
 exact Eq.trans rfl rfl
theorem zwV {L:Nat} {r:Rl} (hr:r.Ok) (k:Int→Bool→Nat→Nat→Nat→List V→List V→List V→Option β):zu β L r.v k=k r.ep r.df r.rt.length r.st.length r.fl.length (ifl r.rt) (sfl r.st) (hfl r.fl):=by
 have h1:=hr.nr; have h2:=hr.ns; have h3:=hr.nf
 unfold zu znE
 rw [zpI,zoa,zms,zrQ,zsy,zrw,y6,List.length_map,List.length_map,yp (by simp only [yi]; omega),yp (by simp only [yi]; omega),yp (by simp only [yi]; omega)]
 exact Eq.trans rfl rfl
def zag (rt:List Int) (p:Int):Int:=match rt with
 | []=>-1
 | [a]=>if a=p then -1 else a
 | a::b::_=>if p≠-1∧Int.tmod p 2≠0 then (if b=p then a else b) else (if a=p then b else a)
theorem zwU (a:Int) (l:List Int) (k:List V→Option β):idx (zcC .i64 (a::l)) (0:Int) k=k [V.sc (.int .i64 a)]:=zii (by decide) rfl k
theorem zAN (a b:Int) (l:List Int) (k:List V→Option β):idx (zcC .i64 (a::b::l)) (1:Int) k=k [V.sc (.int .i64 b)]:=zii (by decide) rfl k
theorem cI1 (a:Int) (k:Int→Option β):cI .i64 [V.sc (.int .i64 a)] 0 k=k a:=zdw rfl k
theorem w10:IntKind.wrap .i64 ((1:Int) - (0:Int))=1:=by decide
theorem w11:IntKind.wrap .i64 ((1:Int) - (1:Int))=0:=by decide
theorem zy9 (L:Nat) (r:Rl) (h:r.rt.length≤2) (p:Int) (k:Int→Option β):yV β L r.v p k=k (zag r.rt p):=by
 obtain ⟨ep,df,rt,st,fl⟩:=r
 unfold yV zkP
 simp only [zdH,zE]
 rcases zl3 h with e | ⟨a,e⟩ | ⟨a,b,e⟩ <;> simp only at e <;> subst e
 ·simp only [y6,List.length_nil]
  rw [zb5 (by decide)]; rfl
 ·simp only [y6,List.length_cons,List.length_nil,zwU,cI1]
  rw [zaM (by decide),zB (by decide),zB (by decide),zcg]
  by_cases q:a=p <;> simp [zag,q]
 ·simp only [y6,List.length_cons,List.length_nil,zwU,zAN,cI1,w10,w11]
  rw [zaM (by decide),yI (by decide),yI (by decide)]
  simp only [zcg]
  unfold zag
  by_cases q1:p=-1
  ·subst q1; simp; split <;> rfl
  ·by_cases q2:Int.tmod p 2=0
   ·simp [q1,q2]; split <;> rfl
   ·simp [q1,q2]; split <;> rfl
theorem zx4 (L:Nat) (r:Rl) (h:r.rt.length≤2) (p:Int) (k:Int→Option β):zcN β L r.v p k=k (zag r.rt p):=by
 obtain ⟨ep,df,rt,st,fl⟩:=r
 unfold zcN zok
 simp only [zdH,zE]
 rcases zl3 h with e | ⟨a,e⟩ | ⟨a,b,e⟩ <;> simp only at e <;> subst e
 ·simp only [y6,List.length_nil]
  rw [zb5 (by decide)]; rfl
 ·simp only [y6,List.length_cons,List.length_nil,zwU,cI1]
  rw [zaM (by decide),zB (by decide),zcg,zb5 (by decide)]
  by_cases q:a=p <;> simp [zag,q]
 ·simp only [y6,List.length_cons,List.length_nil,zwU,zAN,cI1,w10,w11]
  rw [zaM (by decide),yI (by decide)]
  simp only [zcg]
  have n1:∀ x y:Option β,ifb ((((0+1+1:Nat):Int)) == 1) x y=y:=fun x y=>zaM (by decide) x y
  simp only [n1]
  unfold zag
  by_cases q1:p=-1
  ·subst q1; simp; split <;> rfl
  ·by_cases q2:Int.tmod p 2=0
   ·simp [q1,q2]; split <;> rfl
   ·simp [q1,q2]; split <;> rfl
theorem zqQ {rt:List Int} (h:rt.length≤2) (hb:rtB rt=true) (p:Int):zag rt p=-1∨0≤zag rt p:=by
 unfold rtB at hb
 simp only [Bool.and_eq_true,List.all_eq_true,decide_eq_true_eq] at hb
 rcases zl3 h with e | ⟨a,e⟩ | ⟨a,b,e⟩ <;> subst e
 ·exact .inl rfl
 ·have:=hb.1 a (by simp)
  show (if a=p then -1 else a)=-1∨0≤(if a=p then -1 else a)
  by_cases q:a=p
  ·exact .inl (if_pos q)
  ·exact .inr (by rw [if_neg q]; exact this)
 ·have h1:=hb.1 a (by simp)
  have h2:=hb.1 b (by simp)
  right
  show 0≤(if p≠-1∧Int.tmod p 2≠0 then (if b=p then a else b) else (if a=p then b else a))
  split <;> split <;> assumption
theorem zyG {a:Int} (h0:0≤a) (h1:a≤4294967295):zwH .u32 a=4294967295 - a:=by
 obtain ⟨x,rfl⟩:=Int.eq_ofNat_of_zero_le h0
 have e1:BitVec.ofInt 32 (IntKind.max .u32)=BitVec.allOnes 32:=by decide
 have key:zwH .u32 (x:Int)=IntKind.wrap .u32 (((BitVec.allOnes 32 ^^^ BitVec.ofInt 32 (x:Int)).toNat:Nat):Int):=by
  rw [← e1]; rfl
 have e2:(BitVec.ofInt 32 (x:Int)).toNat=x:=by
  rw [BitVec.toNat_ofInt]
  show ((x:Int) % ((2 ^ 32:Nat):Int)).toNat=_
  rw [← Int.natCast_emod,Int.toNat_natCast,Nat.mod_eq_of_lt (by omega)]
 rw [key,BitVec.allOnes_xor,BitVec.toNat_not,e2,zjI (by omega) (by omega)]
 omega
def zen (a b:Int):Int:=if b > 4294967295 - a then 4294967295 else a+b
theorem zy1 (L:Nat) {a b:Int} (ha:0≤a∧a≤4294967295) (hb:0≤b∧b≤4294967295) (k:Int→Option β):yM β L a b k=k (zen a b):=by
 unfold yM zkO zen
 have e:zwH .u32 a=4294967295 - a:=zyG ha.1 ha.2
 simp only [zE,e,zny]
 split
 ·rfl
 ·rw [zjI (by omega) (by omega)]
theorem zxX (L:Nat) {a b:Int} (ha:0≤a∧a≤4294967295) (hb:0≤b∧b≤4294967295) (k:Int→Option β):zb6 β L a b k=k (zen a b):=by
 unfold zb6 zoj zen
 simp only [zE]
 rw [zq3 ha.1 (by omega),zq3 hb.1 (by omega),zq3 (by omega) (by omega)]
 unfold zAF
 split <;> split <;> rw [zjI (by omega) (by omega)] <;> congr 1 <;> omega
theorem zm6 {p q:List V} {n j:Nat} {x:V} (h:p.length=n) (hj:j < q.length):ya (p++q) (n+j) [x]=p++q.set j x:=by
 rw [zxF (by rw [List.length_append]; omega),List.set_append,if_neg (by omega),h,Nat.add_sub_cancel_left]
theorem zyD (h:Hs) (fr to due:Int):ya (ya (ya (ya (List.replicate 32 (V.sc (.int .u8 (0:Int)))++[(V.sc (.int .i64 (0:Int))),(V.sc (.int .i64 (0:Int))),(V.sc (.int .u32 (0:Int)))]) 0 h.v) 32 [(V.sc (.int .i64 fr))]) 33 [(V.sc (.int .i64 to))]) 34 [(V.sc (.int .u32 due))]=(Stm.mk h.l fr to due h.hl).v:=by
 have e0:ya (List.replicate 32 (V.sc (.int .u8 (0:Int)))++[(V.sc (.int .i64 (0:Int))),(V.sc (.int .i64 (0:Int))),(V.sc (.int .u32 (0:Int)))]) 0 h.v=h.v++[(V.sc (.int .i64 (0:Int))),(V.sc (.int .i64 (0:Int))),(V.sc (.int .u32 (0:Int)))]:=by
  have:=zd0 h
  unfold ya
  rw [List.take_zero,List.nil_append,Nat.zero_add,this]
  congr 1
 rw [e0,zm6 (n:=32) (j:=0) (zd0 h) (by decide),zm6 (n:=32) (j:=1) (zd0 h) (by simp),zm6 (n:=32) (j:=2) (zd0 h) (by simp)]
 exact Eq.trans rfl rfl
theorem zyx (s:Stm):xb 35 1 (ya (List.replicate 32 (V.sc (.int .u8 (0:Int)))++[(V.sc (.int .i64 (0:Int))),(V.sc (.int .i64 (0:Int))),(V.sc (.int .u32 (0:Int)))]) 0 s.v)=[s.v]:=by
 rw [zrG,xb,zko]; exact Eq.trans rfl rfl
theorem zzG (l:List Stm) (s:Stm):List.take (l.length * 35) (sfl l)++List.flatten [s.v]=sfl (l++[s]):=by
 rw [List.take_of_length_le (by rw [zfx]; omega),sfl,sfl,List.map_append,List.flatten_append]; exact Eq.trans rfl rfl
theorem zBm (l:List Stm) (s:Stm):xb 35 (l.length+List.length [s.v]) (sfl (l++[s]))=(l++[s]).map Stm.v:=by
 have:=chS (l++[s]); rwa [List.length_append] at this
theorem z0 (h:Hs):(List.length (ya (List.replicate 32 (V.sc (.int .u8 (0:Int)))++[(V.sc (.int .i64 (0:Int))),(V.sc (.int .i64 (0:Int))),(V.sc (.int .u32 (0:Int)))]) 0 h.v))=35:=by
 rw [zmr (by rw [zd0]; decide)]; rfl
theorem z1 (h:Hs) (a:V):(List.length (ya (ya (List.replicate 32 (V.sc (.int .u8 (0:Int)))++[(V.sc (.int .i64 (0:Int))),(V.sc (.int .i64 (0:Int))),(V.sc (.int .u32 (0:Int)))]) 0 h.v) 32 [a]))=35:=by
 rw [zmr (by rw [z0,List.length_singleton]; omega),z0]
theorem z2 (h:Hs) (a b:V):(List.length (ya (ya (ya (List.replicate 32 (V.sc (.int .u8 (0:Int)))++[(V.sc (.int .i64 (0:Int))),(V.sc (.int .i64 (0:Int))),(V.sc (.int .u32 (0:Int)))]) 0 h.v) 32 [a]) 33 [b]))=35:=by
 rw [zmr (by rw [z1,List.length_singleton]; omega),z1]
end
section
set_option linter.unusedVariables false
set_option linter.unusedSimpArgs false
variable {β:Type}
def zha:List V:=[(V.sc (.int .u32 (0:Int))),(V.sc (.bool false)),(V.sl 1 ([]:List (List V))),(V.sl 35 ([]:List (List V))),(V.sl 32 ([]:List (List V)))]
def Rl.more (r:Rl) (s:Stm):Rl:={ r with st:=r.st++[s] }
theorem zta (r:Rl):[(V.sc (.int .u32 r.ep)),(V.sc (.bool r.df)),(V.sl 1 (zcC .i64 r.rt)),(V.sl 35 (r.st.map Stm.v)),(V.sl 32 (r.fl.map Hs.v))]=r.v:=Eq.trans rfl rfl
theorem zqa (r:Rl):[(V.sc (.int .u32 r.ep)),(V.sc (.bool r.df)),(V.sl 1 (xb 1 r.rt.length (ifl r.rt))),(V.sl 35 (xb 35 r.st.length (sfl r.st))),(V.sl 32 (xb 32 r.fl.length (hfl r.fl)))]=r.v:=by
 rw [chI,chS,chH]; exact Eq.trans rfl rfl
theorem zzL (r:Rl) (s:Stm):[(V.sc (.int .u32 r.ep)),(V.sc (.bool r.df)),(V.sl 1 (xb 1 r.rt.length (ifl r.rt))),(V.sl 35 (xb 35 (r.st.length+List.length [s.v]) (sfl (r.st++[s])))),(V.sl 32 (xb 32 r.fl.length (hfl r.fl)))]=(r.more s).v:=by
 rw [chI,zBm,chH]; exact Eq.trans rfl rfl
def zeC (r:Rl) (p:Int) (h:Hs) (now wait:Int) (k:List V→Int→Int→Option β):Option β :=
 ifb (!zfU r) (k zha 0 6) (ifb (decide (p < -1)) (k zha 0 6) (ifb (r.st.any (isS h)) (k zha 0 150) (ifb (r.fl.any (isH h)) (k zha 0 150)
  (if r.df=true∧p≠-1 then k r.v (-1) 0 else if zag r.rt p=-1 then k r.v (-1) 0 else if 64≤r.st.length then k zha 0 380 else k (r.more ⟨h.l,p,zag r.rt p,zen now wait,h.hl⟩).v (zag r.rt p) 0))))
theorem zwm {r:Rl} (h:zfU r=true):r.rt.length≤2∧rtB r.rt=true:=by
 unfold zfU at h
 simp only [Bool.and_eq_true,decide_eq_true_eq] at h
 exact ⟨h.1,h.2.2.2.1⟩
theorem zAn {r:Rl} (hr:r.Ok) (p:Int) (h:Hs) (to due:Int) (k:List V→Int→Int→Option β) :
  chk ((List.length h.v)=32∧0+32≤35) (
  chk (1=1∧32+1≤(List.length (ya (List.replicate 32 (V.sc (.int .u8 (0:Int)))++[(V.sc (.int .i64 (0:Int))),(V.sc (.int .i64 (0:Int))),(V.sc (.int .u32 (0:Int)))]) 0 h.v))) (
  chk (1=1∧33+1≤(List.length (ya (ya (List.replicate 32 (V.sc (.int .u8 (0:Int)))++[(V.sc (.int .i64 (0:Int))),(V.sc (.int .i64 (0:Int))),(V.sc (.int .u32 (0:Int)))]) 0 h.v) 32 [(V.sc (.int .i64 p))]))) (
  chk (1=1∧34+1≤(List.length (ya (ya (ya (List.replicate 32 (V.sc (.int .u8 (0:Int)))++[(V.sc (.int .i64 (0:Int))),(V.sc (.int .i64 (0:Int))),(V.sc (.int .u32 (0:Int)))]) 0 h.v) 32 [(V.sc (.int .i64 p))]) 33 [(V.sc (.int .i64 to))]))) (
  chk ((List.length (ya (ya (ya (ya (List.replicate 32 (V.sc (.int .u8 (0:Int)))++[(V.sc (.int .i64 (0:Int))),(V.sc (.int .i64 (0:Int))),(V.sc (.int .u32 (0:Int)))]) 0 h.v) 32 [(V.sc (.int .i64 p))]) 33 [(V.sc (.int .i64 to))]) 34 [(V.sc (.int .u32 due))]))=35∧0+35≤35) (
  chk ((r.st.length+List.length (xb 35 1 (ya (List.replicate 32 (V.sc (.int .u8 (0:Int)))++[(V.sc (.int .i64 (0:Int))),(V.sc (.int .i64 (0:Int))),(V.sc (.int .u32 (0:Int)))]) 0 (ya (ya (ya (ya (List.replicate 32 (V.sc (.int .u8 (0:Int)))++[(V.sc (.int .i64 (0:Int))),(V.sc (.int .i64 (0:Int))),(V.sc (.int .u32 (0:Int)))]) 0 h.v) 32 [(V.sc (.int .i64 p))]) 33 [(V.sc (.int .i64 to))]) 34 [(V.sc (.int .u32 due))])))) * 56≤yi∧(r.st.length+List.length (xb 35 1 (ya (List.replicate 32 (V.sc (.int .u8 (0:Int)))++[(V.sc (.int .i64 (0:Int))),(V.sc (.int .i64 (0:Int))),(V.sc (.int .u32 (0:Int)))]) 0 (ya (ya (ya (ya (List.replicate 32 (V.sc (.int .u8 (0:Int)))++[(V.sc (.int .i64 (0:Int))),(V.sc (.int .i64 (0:Int))),(V.sc (.int .u32 (0:Int)))]) 0 h.v) 32 [(V.sc (.int .i64 p))]) 33 [(V.sc (.int .i64 to))]) 34 [(V.sc (.int .u32 due))]))))≤yi∧((r.st.length+List.length (xb 35 1 (ya (List.replicate 32 (V.sc (.int .u8 (0:Int)))++[(V.sc (.int .i64 (0:Int))),(V.sc (.int .i64 (0:Int))),(V.sc (.int .u32 (0:Int)))]) 0 (ya (ya (ya (ya (List.replicate 32 (V.sc (.int .u8 (0:Int)))++[(V.sc (.int .i64 (0:Int))),(V.sc (.int .i64 (0:Int))),(V.sc (.int .u32 (0:Int)))]) 0 h.v) 32 [(V.sc (.int .i64 p))]) 33 [(V.sc (.int .i64 to))]) 34 [(V.sc (.int .u32 due))]))))≠0∨(List.length (sfl r.st))=0)) (
  lt (List.take (r.st.length * 35) (sfl r.st)++List.flatten (xb 35 1 (ya (List.replicate 32 (V.sc (.int .u8 (0:Int)))++[(V.sc (.int .i64 (0:Int))),(V.sc (.int .i64 (0:Int))),(V.sc (.int .u32 (0:Int)))]) 0 (ya (ya (ya (ya (List.replicate 32 (V.sc (.int .u8 (0:Int)))++[(V.sc (.int .i64 (0:Int))),(V.sc (.int .i64 (0:Int))),(V.sc (.int .u32 (0:Int)))]) 0 h.v) 32 [(V.sc (.int .i64 p))]) 33 [(V.sc (.int .i64 to))]) 34 [(V.sc (.int .u32 due))])))) fun r26 =>
  k [(V.sc (.int .u32 r.ep)),(V.sc (.bool r.df)),(V.sl 1 (xb 1 r.rt.length (ifl r.rt))),(V.sl 35 (xb 35 (r.st.length+List.length (xb 35 1 (ya (List.replicate 32 (V.sc (.int .u8 (0:Int)))++[(V.sc (.int .i64 (0:Int))),(V.sc (.int .i64 (0:Int))),(V.sc (.int .u32 (0:Int)))]) 0 (ya (ya (ya (ya (List.replicate 32 (V.sc (.int .u8 (0:Int)))++[(V.sc (.int .i64 (0:Int))),(V.sc (.int .i64 (0:Int))),(V.sc (.int .u32 (0:Int)))]) 0 h.v) 32 [(V.sc (.int .i64 p))]) 33 [(V.sc (.int .i64 to))]) 34 [(V.sc (.int .u32 due))])))) r26)),(V.sl 32 (xb 32 r.fl.length (hfl r.fl)))] to 0))))))
  = k (r.more ⟨h.l,p,to,due,h.hl⟩).v to 0:=by
 have h2:=hr.ns
 rw [yp ⟨zd0 h,by decide⟩,yp ⟨rfl,by rw [z0]; omega⟩,yp ⟨rfl,by rw [z1]; omega⟩,yp ⟨rfl,by rw [z2]; omega⟩]
 rw [zyD,zyx,yp ⟨zfp _,by decide⟩,yp (by simp only [List.length_singleton,yi]; omega),zE,zzG,zzL]
theorem zwe {L:Nat} {r:Rl} (hr:r.Ok) (hL:2000≤L) (p:Int) (h:Hs) {now wait:Int} (hn:0≤now∧now≤4294967295) (hw:0≤wait∧wait≤4294967295) (k:List V→Int→Int→Option β):yc β L r.v p h.v now wait k=zeC r p h now wait k:=by
 have h1:=hr.nr; have h2:=hr.ns; have h3:=hr.nf
 unfold yc zmb
 rw [zpI,zoa,zms,zrQ,zsy,zrw,zta r,zrk hr hL]
 unfold zeC
 cases hs:zfU r with
 | false=>rfl
 | true =>
  obtain ⟨q1,q2⟩:=zwm hs
  rw [Bool.not_true,yr,yr,zal,yZ,zz3 (by omega) hL,zsM,zal,zqL (by omega) hL,zy9 L r q1]
  congr 1
  congr 1
  congr 1
  rcases zqQ q1 q2 p with e | e
  ·rw [e]
   have n1:∀ x y:Option β,ifb ((-1:Int) != -1) x y=y:=fun x y=>by rw [zcg,if_pos rfl]
   rw [n1,zip hr,zip hr,n1,zqa]
   cases r.df with
   | false=>rw [yr,if_neg (by simp),if_pos rfl]
   | true =>
    rw [xM,zcg]
    by_cases hp:p=-1
    ·rw [if_pos hp,if_neg (by simp [hp]),if_pos rfl]
    ·rw [if_neg hp,if_pos ⟨rfl,hp⟩]
  ·have ne:zag r.rt p≠-1:=by omega
   have n1:∀ x y:Option β,ifb (zag r.rt p != -1) x y=x:=fun x y=>by rw [zcg,if_neg ne]
   rw [n1,zip hr,zip hr,n1,zal,zy1 L hn hw,List.length_map]
   have main:ifb (decide (((r.st.length:Nat):Int) ≥ (64:Int))) (k zha 0 380) (k (r.more ⟨h.l,p,zag r.rt p,zen now wait,h.hl⟩).v (zag r.rt p) 0)=(if zag r.rt p=-1 then k r.v (-1) 0 else if 64≤r.st.length then k zha 0 380 else k (r.more ⟨h.l,p,zag r.rt p,zen now wait,h.hl⟩).v (zag r.rt p) 0):=by
    rw [if_neg ne,zny]
    by_cases hq:64≤r.st.length
    ·rw [if_pos (by omega),if_pos hq]
    ·rw [if_neg (by omega),if_neg hq]
   have ad:=zAn hr p h (zag r.rt p) (zen now wait) k
   rw [ad,zqa]
   cases r.df with
   | false=>rw [yr,if_neg (by simp)]; exact main
   | true =>
    rw [xM,zcg]
    by_cases hp:p=-1
    ·rw [if_pos hp,if_neg (by simp [hp])]; exact main
    ·rw [if_neg hp,if_pos ⟨rfl,hp⟩]
theorem zyQ {L:Nat} {r:Rl} (hr:r.Ok) (hL:2000≤L) (p:Int) (h:Hs) {now wait:Int} (hn:0≤now∧now≤4294967295) (hw:0≤wait∧wait≤4294967295) (k:List V→Int→Int→Option β):zo β L r.v p h.v now wait k=zeC r p h now wait k:=by
 have h1:=hr.nr; have h2:=hr.ns; have h3:=hr.nf
 unfold zo zps
 rw [zdb,zkn,zyc hr hL]
 unfold zeC
 cases hs:zfU r with
 | false=>rfl
 | true =>
  obtain ⟨q1,q2⟩:=zwm hs
  rw [Bool.not_true,yr,yr,zh1,zal,yZ,zwa (by omega) hL,zsM,zmH,zal,zvs (by omega) hL,zdb,zwV hr,zdb,zx4 L r q1,zms]
  congr 1
  congr 1
  congr 1
  rw [zqa]
  rcases zqQ q1 q2 p with e | e
  ·rw [e]
   have n1:∀ x y:Option β,ifb (decide ((-1:Int) < 0)) x y=x:=fun x y=>yI (by decide) x y
   rw [n1]
   cases r.df with
   | false=>rw [yr,if_neg (by simp),if_pos rfl]
   | true =>
    rw [xM,zcg]
    by_cases hp:p=-1
    ·rw [if_pos hp,if_neg (by simp [hp]),if_pos rfl]
    ·rw [if_neg hp,if_pos ⟨rfl,hp⟩]
  ·have ne:zag r.rt p≠-1:=by omega
   have n1:∀ x y:Option β,ifb (decide (zag r.rt p < 0)) x y=y:=fun x y=>zB (by omega) x y
   rw [n1,zh1,List.length_map,zal,zxX L hn hw]
   have main:ifb (decide (((r.st.length:Nat):Int) ≥ (64:Int))) (k zha 0 380) (k (r.more ⟨h.l,p,zag r.rt p,zen now wait,h.hl⟩).v (zag r.rt p) 0)=(if zag r.rt p=-1 then k r.v (-1) 0 else if 64≤r.st.length then k zha 0 380 else k (r.more ⟨h.l,p,zag r.rt p,zen now wait,h.hl⟩).v (zag r.rt p) 0):=by
    rw [if_neg ne,zny]
    by_cases hq:64≤r.st.length
    ·rw [if_pos (by omega),if_pos hq]
    ·rw [if_neg (by omega),if_neg hq]
   have ad:=zAn hr p h (zag r.rt p) (zen now wait) k
   rw [ad]
   cases r.df with
   | false=>rw [yr,if_neg (by simp)]; exact main
   | true =>
    rw [xM,zcg]
    by_cases hp:p=-1
    ·rw [if_pos hp,if_neg (by simp [hp])]; exact main
    ·rw [if_neg hp,if_pos ⟨rfl,hp⟩]
end
section
set_option linter.unusedVariables false
set_option linter.unusedSimpArgs false
theorem zuJ (L:Nat) (v n:Int) (hn:1≤n) (hn2:n≤1000000000000):∃ r,0≤r∧r < n∧∀ (β:Type) (k:Int→Option β),xf β L v n k=k r:=by
 by_cases h:Int.tmod v n < 0
 ·have h1:=Int.lt_tmod_of_pos v (show 0 < n by omega)
  refine ⟨Int.tmod v n+n,by omega,by omega,fun β k=>?_⟩
  simp only [xf,zlp,zE]
  rw [yp (by omega),yI h,zjL (by omega) (by omega)]
 ·have h1:=Int.tmod_lt_of_pos v (show 0 < n by omega)
  refine ⟨Int.tmod v n,by omega,h1,fun β k=>?_⟩
  simp only [xf,zlp,zE]
  rw [yp (by omega),zB h]
structure Dk where
 l:List Int
 a:Int
 h0:0≤a
 h1:a≤l.length
 hl:l.length≤9223372036854775807
def Dk.es (d:Dk):List (List V):=zcC .i64 d.l
def kid (x:Int):Hs:=⟨x::List.replicate 31 0,by simp⟩
theorem zzi (x:Int):[(V.sc (.int .u8 x))]++List.replicate 31 (V.sc (.int .u8 (0:Int)))=(kid x).v:=by simp [Hs.v,kid,row]
theorem zvt (h:Hs):xb 32 1 (ya (List.replicate 32 (V.sc (.int .u8 (0:Int)))) 0 h.v)=[h.v]:=by
 rw [zns,xb,yZ]; exact Eq.trans rfl rfl
theorem zvq {l:List Hs} (s:Hs):l.map Hs.v++[s.v]=(l++[s]).map Hs.v:=by simp
structure Rl.Few (r:Rl):Prop where
 nr:r.rt.length≤20
 ns:r.st.length≤20
 nf:r.fl.length≤20
theorem Rl.Few.ok {r:Rl} (h:r.Few):r.Ok:=⟨by have:=h.nr; omega,by have:=h.ns; omega,by have:=h.nf; omega⟩
end
section
set_option linter.unusedVariables false
set_option linter.unusedSimpArgs false
theorem zup {l:List Stm} {j:Nat} (h:j < l.length):List.take 35 (List.drop (0+j * 35) (sfl l))=l[j].v:=by
 rw [Nat.zero_add,sfl,zxD (zh8 l) (by decide) (zir h),zko]
theorem zzs (l:List Hs) (s:Hs):List.take (l.length * 32) (hfl l)++List.flatten [s.v]=hfl (l++[s]):=by
 rw [List.take_of_length_le (by rw [zzC]; omega),hfl,hfl,List.map_append,List.flatten_append]; exact Eq.trans rfl rfl
theorem zAy (l:List Hs) (s:Hs):xb 32 (l.length+List.length [s.v]) (hfl (l++[s]))=(l++[s]).map Hs.v:=by
 have:=chH (l++[s]); rwa [List.length_append] at this
end
section
set_option linter.unusedVariables false
set_option linter.unusedSimpArgs false
variable {β:Type}
theorem zAD (L:Nat) (k:Bool→Option β):xa β (L+100) k=k true:=by kernel_rfl
theorem zAm (a b:Hs):xb 32 2 (ya (ya (List.replicate 64 (V.sc (.int .u8 (0:Int)))) 0 a.v) 32 b.v)=[a.v,b.v]:=by
 have ha:=zd0 a
 have hb:=zd0 b
 have e0:ya (List.replicate 64 (V.sc (.int .u8 (0:Int)))) 0 a.v=a.v++List.replicate 32 (V.sc (.int .u8 (0:Int))):=by
  unfold ya
  rw [List.take_zero,List.nil_append,Nat.zero_add,ha]; congr 1
 have e1:ya (a.v++List.replicate 32 (V.sc (.int .u8 (0:Int)))) 32 b.v=a.v++b.v:=by
  unfold ya
  rw [List.take_append_of_le_length (by omega),List.take_of_length_le (by omega),List.drop_of_length_le (by rw [List.length_append,ha,hb]; simp),List.append_nil]
 rw [e0,e1,xb,xb,xb,List.take_append_of_le_length (by omega),List.take_of_length_le (by omega),List.drop_append_of_le_length (by omega),List.drop_of_length_le (by omega),List.nil_append,yZ]
def zeroR:Rl:=⟨0,false,[],[],[]⟩
theorem ziy:zeroR.v=zha:=Eq.trans rfl rfl
theorem znS:zeroR.Ok:=⟨by decide,by decide,by decide⟩
theorem zzo {L:Nat} {r:Rl} (hr:r.Few) (hL:2000≤L) (p:Int) (h:Hs) {now wait:Int} (hn:0≤now∧now≤4294967295) (hw:0≤wait∧wait≤4294967295):∃ (q:Rl) (to e:Int),q.Ok∧(∀ (β:Type) (k:List V→Int→Int→Option β),yc β L r.v p h.v now wait k=k q.v to e)∧(∀ (β:Type) (k:List V→Int→Int→Option β),zo β L r.v p h.v now wait k=k q.v to e):=by
 have h1:=hr.nr; have h2:=hr.ns; have h3:=hr.nf
 have key:∃ (q:Rl) (to e:Int),q.Ok∧∀ (β:Type) (k:List V→Int→Int→Option β),zeC r p h now wait k=k q.v to e:=by
  by_cases q1:zfU r=true
  ·by_cases q2:p < -1
   ·exact ⟨zeroR,0,6,znS,fun β k=>by unfold zeC; rw [q1,Bool.not_true,yr,yI q2,ziy]⟩
   ·by_cases q3:r.st.any (isS h)=true
    ·exact ⟨zeroR,0,150,znS,fun β k=>by unfold zeC; rw [q1,Bool.not_true,yr,zB q2,q3,xM,ziy]⟩
    ·have q3':r.st.any (isS h)=false:=by simpa using q3
     by_cases q4:r.fl.any (isH h)=true
     ·exact ⟨zeroR,0,150,znS,fun β k=>by unfold zeC; rw [q1,Bool.not_true,yr,zB q2,q3',yr,q4,xM,ziy]⟩
     ·have q4':r.fl.any (isH h)=false:=by simpa using q4
      by_cases q5:r.df=true∧p≠-1
      ·exact ⟨r,-1,0,hr.ok,fun β k=>by unfold zeC; rw [q1,Bool.not_true,yr,zB q2,q3',yr,q4',yr,if_pos q5]⟩
      ·by_cases q6:zag r.rt p=-1
       ·exact ⟨r,-1,0,hr.ok,fun β k=>by unfold zeC; rw [q1,Bool.not_true,yr,zB q2,q3',yr,q4',yr,if_neg q5,if_pos q6]⟩
       ·exact ⟨r.more ⟨h.l,p,zag r.rt p,zen now wait,h.hl⟩,zag r.rt p,0,⟨by simp [Rl.more]; omega,by simp [Rl.more]; omega,by simp [Rl.more]; omega⟩,fun β k=>by unfold zeC; rw [q1,Bool.not_true,yr,zB q2,q3',yr,q4',yr,if_neg q5,if_neg q6,if_neg (by omega)]⟩
  ·have q1':zfU r=false:=by simpa using q1
   exact ⟨zeroR,0,6,znS,fun β k=>by unfold zeC; rw [q1',Bool.not_false,xM,ziy]⟩
 obtain ⟨q,to,e,hq,H⟩:=key
 exact ⟨q,to,e,hq,fun β k=>(zwe hr.ok hL p h hn hw k).trans (H β k),fun β k=>(zyQ hr.ok hL p h hn hw k).trans (H β k)⟩
theorem zzO (h:Hs) (k:Option β):chk ((List.length (List.take 32 h.v))=32∧0+32≤64) k=k:=yp ⟨by rw [yZ,zd0],by decide⟩ k
theorem hin {L:Nat} (hL:2000≤L) {r:Rl} (hr:r.Few) {now wait:Int} (hn:0≤now∧now≤4294967295) (hw:0≤wait∧wait≤4294967295) (ids:List Hs) (hi:ids.length≤100) (kr:Bool→List (List V)→Int→Option β) (kx:zfF β) (p1 p6 p19:Int) (p38:List (List V)) (p39 p40:Int) (p48:List (List V)) (p49 p50:Int) (b9:List V) (b0:List (List V)) (b1:Int):∀ (n i:Nat),i≤ids.length→ids.length - i < n →
  zaq xa zc yh zg xf yc zo xg L kr kx n p1 now wait p6 p19 p38 p39 p40 p48 p49 p50 (ids.map Hs.v) (ids.length:Int) (i:Int) b9 r.v b0 b1=kx p1 now wait p6 p38 p39 p40 p48 p49 p50 b9 r.v b0 b1
 | 0,i,h1,h2=>by omega
 | n+1,i,h1,h2=>by
  unfold zaq zc9
  by_cases h:i < ids.length
  ·obtain ⟨q,to,e,hq,H1,H2⟩:=zzo hr hL p19 ids[i] hn hw
   rw [yI (by omega),zaK (zgb h),zma,zE,yZ,zns,zdb,zal,zkn,yZ,H1,zg7,zE,ziQ,zdb,zal,H2,zg7,zE,ziQ,zcg,if_pos rfl,zcg,if_pos rfl,zdb,zdb,zkn,zz9 hq hL,Bool.not_true,yr,zE,xR (by omega)]
   exact hin hL hr hn hw ids hi kr kx p1 p6 p19 p38 p39 p40 p48 p49 p50 b9 b0 b1 n (i+1) (by omega) (by omega)
  ·rw [zB (by omega)]
theorem zAv {L:Nat} (hL:2000≤L) {r:Rl} (hr:r.Few) {now wait:Int} (hn:0≤now∧now≤4294967295) (hw:0≤wait∧wait≤4294967295) (fs:List Int) (hf:fs.length≤100) (kr:Bool→List (List V)→Int→Option β) (kx:zd9 β) (p1 p6:Int) (p38:List (List V)) (p39 p40:Int) (b9:Hs) (b0:List (List V)) (b1:Int):∀ (n i:Nat),i≤fs.length→fs.length - i < n →
  zbB xa zc yh zg xf yc zo xg L kx kr n p1 now wait p6 p38 p39 p40 (zcC .i64 fs) (fs.length:Int) (i:Int) b9.v r.v b0 b1=kx p1 now wait p6 p38 p39 p40 b9.v b0 b1
 | 0,i,h1,h2=>by omega
 | n+1,i,h1,h2=>by
  unfold zbB zed zew
  by_cases h:i < fs.length
  ·obtain ⟨x,x0,x1,hx⟩:=zuJ L p6 10 (by decide) (by decide)
   rw [yI (by omega),zaK (zlR _ h),zdw rfl,zal,hx,zE,zzO b9,yZ,zzi,zAm]
   rw [yp ⟨rfl,by rw [zmr (by rw [zd0]; decide)]; decide⟩]
   refine (hin hL hr hn hw [b9,kid (IntKind.wrap .u8 x)] (by simp) _ _ p1 p6 fs[i] p38 p39 p40 (zcC .i64 fs) _ _ b9.v b0 b1 L 0 (by simp) (by simp; omega)).trans ?_
   unfold zcS
   rw [zE,xR (by omega)]
   exact zAv hL hr hn hw fs hf kr kx p1 p6 p38 p39 p40 b9 b0 b1 n (i+1) (by omega) (by omega)
  ·rw [zB (by omega)]
theorem hout {L:Nat} (hL:2000≤L) (rs:List Rl) (hrs:∀ r ∈ rs,r.Few) (hl:rs.length≤100) {now wait:Int} (hn:0≤now∧now≤4294967295) (hw:0≤wait∧wait≤4294967295) (kr:Bool→List (List V)→Int→Option β) (kx:List (List V)→Int→Option β) (p1 p6:Int) (b9:Hs) (b0:List (List V)) (b1:Int):∀ (n i:Nat),i≤rs.length→rs.length - i < n →
  zc1 xa zc yh zg xf yc zo xg L kx kr n p1 now wait p6 (rs.map Rl.v) (rs.length:Int) (i:Int) b9.v b0 b1=kx b0 b1
 | 0,i,h1,h2=>by omega
 | n+1,i,h1,h2=>by
  unfold zc1 zgt zgL
  by_cases h:i < rs.length
  ·obtain ⟨x,x0,x1,hx⟩:=zuJ L p1 8 (by decide) (by decide)
   have hg:(rs.map Rl.v)[i]?=some rs[i].v:=by simp [h]
   rw [yI (by omega),zaK hg,znH,zg7,zE,ziQ,hx,zE]
   have e2:xb 1 2 [(V.sc (.int .i64 p1)),(V.sc (.int .i64 (IntKind.wrap .i64 (x - 2))))]=zcC .i64 [p1,IntKind.wrap .i64 (x - 2)]:=rfl
   rw [e2,y6]
   refine (zAv hL (hrs _ (List.getElem_mem h)) hn hw [p1,IntKind.wrap .i64 (x - 2)] (by simp) _ _ p1 p6 (rs.map Rl.v) _ _ b9 b0 b1 L 0 (by simp) (by simp; omega)).trans ?_
   unfold zd4
   rw [zE,xR (by omega)]
   exact hout hL rs hrs hl hn hw kr kx p1 p6 b9 b0 b1 n (i+1) (by omega) (by omega)
  ·rw [zB (by omega)]
theorem zAq (L:Nat) (es:List (List V)) (k:List (List V)→Int→Option β):zc β L es k=k es 0:=by
 unfold zc zn2; exact Eq.trans rfl rfl
end
section
set_option linter.unusedVariables false
set_option linter.unusedSimpArgs false
variable {β:Type}
theorem zv3 (a b:List Stm):sfl (a++b)=sfl a++sfl b:=by simp [sfl]
theorem zyT (l:List Stm) (n:Nat):List.take (n * 35) (sfl l)=sfl (l.take n):=by
 rw [sfl,sfl,zrR (zh8 l),List.map_take]
theorem zvw (l:List Stm) (n:Nat):List.drop (n * 35) (sfl l)=sfl (l.drop n):=by
 rw [sfl,sfl,zpQ (zh8 l),List.map_drop]
theorem zqi (l m:List Stm) (i:Nat):ya (sfl l) (i * 35) (sfl m)=sfl (l.take i++m++l.drop (i+m.length)):=by
 unfold ya
 rw [zyT,show i * 35+(sfl m).length=(i+m.length) * 35 by rw [zfx]; omega,zvw,zv3,zv3]
theorem zoh (l:List Stm) {n:Nat} (h:n≤l.length):xb 35 n (sfl l)=(l.take n).map Stm.v:=by
 rw [sfl,zuW (zh8 l) (by rw [List.length_map]; exact h),List.map_take]
def zS:Stm:=⟨List.replicate 32 0,0,0,0,by simp⟩
theorem zAO:List.replicate 32 (V.sc (.int .u8 (0:Int)))++[(V.sc (.int .i64 (0:Int))),(V.sc (.int .i64 (0:Int))),(V.sc (.int .u32 (0:Int)))]=zS.v:=by
 simp [Stm.v,zS,row]
theorem zwi (n:Nat):List.flatten (List.replicate n zS.v)=sfl (List.replicate n zS):=by
 rw [sfl,List.map_replicate]
theorem zpk (L:Nat) (h:Hs) (l:List Stm) (hl:l.length≤100000) (k:Int→List V→List V→Option β):∀ (n i:Nat),i≤l.length→l.length - i < n →
  xO xd L k (k (-1)) n l.length (l.length:Int) (i:Int) (sfl l) h.v=k (zdv (isS h) (l.drop i) i) (sfl l) h.v
 | 0,i,h1,h2=>by omega
 | n+1,i,h1,h2=>by
  simp only [xO,za7,zE]
  by_cases hi:i < l.length
  ·rw [yI (by omega),yp ⟨by omega,by omega⟩,Int.toNat_natCast,yp (by rw [zfx]; omega),zup hi]
   rw [zuQ,yp rfl,xR (by omega),zpk L h l hl k n (i+1) (by omega) (by omega),zix hi]
   cases isS h l[i] <;> rfl
  ·rw [zB (by omega),List.drop_of_length_le (by omega)]; rfl
theorem zyA {L:Nat} {l:List Stm} (hl:l.length≤1000) (hL:2000≤L) (a:Int) (b:Bool) (n1 n3:Nat) (b0 b2:List V) (h:Hs) (k:Int→List V→List V→List V→Option β):zN β L a b n1 l.length n3 h.v b0 (sfl l) b2 k=k (zdv (isS h) l 0) b0 (sfl l) b2:=by
 unfold zN zjm zk zao zbE
 have:=zpk L h l (by omega) (fun v0 v1 v2=>chk ([(List.length v1),(List.length v2)]=[(List.length (sfl l)),(List.length h.v)]) (k v0 b0 v1 b2)) L 0 (by omega) (by omega)
 rw [List.drop_zero] at this
 exact this.trans (yp rfl _)
def zpB (l:List Stm) (j:Nat):List Stm:=l.take j++l.drop (j+1)
theorem znY {l:List Stm} {j:Nat} (h:j < l.length):(zpB l j).length=l.length - 1:=by simp [zpB]; omega
theorem zye (L:Nat) {l:List Stm} {j:Nat} (hj:j < l.length) (k:Nat→List V→Option β):xl β L l.length (j:Int) ((j+1:Nat):Int) (sfl l) k=k (l.length - 1) (sfl (zpB l j++[zS])):=by
 unfold xl zcq
 rw [yp ⟨by omega,by omega⟩,Int.toNat_natCast,yp ⟨by omega,by omega⟩,Int.toNat_natCast,Int.toNat_natCast,yp ⟨by omega,by omega⟩,zB (by omega),zaM (by omega),yp ⟨by omega,by omega⟩,yp ⟨by omega,by omega⟩]
 have e1:xb 35 (l.length - (j+1)) (List.drop (0+(j+1) * 35) (sfl l))=(l.drop (j+1)).map Stm.v:=by
  rw [Nat.zero_add,zvw,zoh _ (by rw [List.length_drop]; omega),List.take_of_length_le (by rw [List.length_drop]; omega)]
 have e2:j+(l.drop (j+1)).length=l.length - 1:=by rw [List.length_drop]; omega
 rw [e1,List.length_map,e2,yp (by omega),zE,yp ⟨by omega,by omega⟩,yp ⟨by omega,by omega⟩,zE,Int.toNat_natCast,zAO,zwi,show l.length - (l.length - 1)=1 by omega]
 congr 1
 have e3:List.flatten ((l.drop (j+1)).map Stm.v)=sfl (l.drop (j+1)):=rfl
 rw [e3,zqi,Nat.zero_add,zqi]
 congr 1
 unfold zpB
 rw [List.take_append_of_le_length (by simp; omega),List.take_of_length_le (by simp; omega),List.drop_append]
 simp
 omega
def Rl.gone (r:Rl) (h:Hs):Rl:={ r with st:=if 0≤zdv (isS h) r.st 0 then zpB r.st (zdv (isS h) r.st 0).toNat else r.st,fl:=r.fl++[h] }
def zuX (r:Rl) (h:Hs) (k:List V→Int→Option β):Option β :=
 ifb (!zfU r) (k zha 6) (ifb (r.fl.any (isH h)) (k zha 150) (if 2048≤r.fl.length then k zha 380 else k (r.gone h).v 0))
theorem zAx {r:Rl} (hr:r.Ok) (h:Hs) (es:Nat→List V→List V) (k:List V→Option β) :
 chk (0+32≤(List.length h.v)) (
 chk ((List.length (List.take 32 h.v))=32∧0+32≤32) (
 chk ((r.fl.length+List.length (xb 32 1 (ya (List.replicate 32 (V.sc (.int .u8 (0:Int)))) 0 (List.take 32 h.v)))) * 32≤yi∧(r.fl.length+List.length (xb 32 1 (ya (List.replicate 32 (V.sc (.int .u8 (0:Int)))) 0 (List.take 32 h.v))))≤yi∧((r.fl.length+List.length (xb 32 1 (ya (List.replicate 32 (V.sc (.int .u8 (0:Int)))) 0 (List.take 32 h.v))))≠0∨(List.length (hfl r.fl))=0)) (
 lt (List.take (r.fl.length * 32) (hfl r.fl)++List.flatten (xb 32 1 (ya (List.replicate 32 (V.sc (.int .u8 (0:Int)))) 0 (List.take 32 h.v)))) fun r22 =>
 k (es (r.fl.length+List.length (xb 32 1 (ya (List.replicate 32 (V.sc (.int .u8 (0:Int)))) 0 (List.take 32 h.v)))) r22))))=k (es (r.fl.length+List.length [h.v]) (hfl (r.fl++[h]))):=by
 have h3:=hr.nf
 rw [zal,zma,yZ,zvt,yp (by simp only [List.length_singleton,yi]; omega),zE,zzs]
theorem zwy (r:Rl) (h:Hs):zdv (isS h) r.st 0=-1∨∃ j:Nat,j < r.st.length∧zdv (isS h) r.st 0=(j:Int):=by
 rcases ziu (isS h) r.st 0 with ⟨e,_⟩ | ⟨i,hi,e,_,_⟩
 ·exact .inl e
 ·exact .inr ⟨i,hi,by rw [e,Nat.zero_add]⟩
theorem zy3 {L:Nat} {r:Rl} (hr:r.Ok) (hL:2000≤L) (h:Hs) (k:List V→Int→Option β):yb β L r.v h.v k=zuX r h k:=by
 have h1:=hr.nr; have h2:=hr.ns; have h3:=hr.nf
 unfold yb zkX
 rw [zpI,zoa,zms,zrQ,zsy,zrw,zta r,zrk hr hL]
 unfold zuX
 cases hs:zfU r with
 | false=>rfl
 | true =>
  rw [Bool.not_true,yr,yr,zal,yZ,zqL (by omega) hL,zip hr,List.length_map,if_neg (by omega)]
  congr 1
  rw [zB (by omega),zal,zyA (by omega) hL,yp rfl]
  rcases zwy r h with e | ⟨j,hj,e⟩
  ·rw [e,zB (by decide)]
   have:=zAx hr h (fun a b=>[(V.sc (.int .u32 r.ep)),(V.sc (.bool r.df)),(V.sl 1 (xb 1 r.rt.length (ifl r.rt))),(V.sl 35 (xb 35 r.st.length (sfl r.st))),(V.sl 32 (xb 32 a b))]) (fun x=>k x 0)
   simp only [yZ] at this
   refine this.trans ?_
   rw [zAy,chI,chS]
   unfold Rl.gone
   rw [e,if_neg (by decide)]
   exact Eq.trans rfl rfl
  ·have w1:IntKind.wrap .i64 ((j:Int)+1)=((j+1:Nat):Int):=by rw [zjL (by omega) (by omega)]; omega
   rw [e,yI (by omega),w1,zE,zye L hj,yp (by rw [zfx,zfx,List.length_append,znY hj,List.length_singleton]; congr 1; omega)]
   have:=zAx hr h (fun a b=>[(V.sc (.int .u32 r.ep)),(V.sc (.bool r.df)),(V.sl 1 (xb 1 r.rt.length (ifl r.rt))),(V.sl 35 (xb 35 (r.st.length - 1) (sfl (zpB r.st j++[zS])))),(V.sl 32 (xb 32 a b))]) (fun x=>k x 0)
   simp only [yZ] at this
   refine this.trans ?_
   rw [zAy,chI,zoh _ (by rw [List.length_append,znY hj]; omega),List.take_append_of_le_length (by rw [znY hj]; omega),List.take_of_length_le (by rw [znY hj]; omega)]
   unfold Rl.gone
   rw [e,if_pos (by omega),Int.toNat_natCast]
   exact Eq.trans rfl rfl
end
section
set_option linter.unusedVariables false
set_option linter.unusedSimpArgs false
variable {β:Type}
def isD (t:Int) (s:Stm):Bool:=decide (s.due≤t)
def zac (t:Int) (l:List Stm):List Stm:=l.filter (fun s=>!isD t s)
def zar (t:Int) (l:List Stm):List Hs:=(l.filter (isD t)).map Stm.h
theorem zAk (s:Stm) (k:Int→Option β):cI .u32 s.v 34 k=k s.due:=by
 apply zdw
 rw [Stm.v,List.getElem?_append_right (by rw [zft,s.hid]; omega),zft,s.hid]
 rfl
theorem zBf (l:List Hs) (hl:l.length≤1000) (h:Hs) (k:List (List V)→Option β) :
  chk ((List.length (List.take 32 h.v))=32∧0+32≤32) (
  chk ((List.length (l.map Hs.v)+List.length (xb 32 1 (ya (List.replicate 32 (V.sc (.int .u8 (0:Int)))) 0 (List.take 32 h.v)))) * 32≤yi∧List.length (l.map Hs.v)+List.length (xb 32 1 (ya (List.replicate 32 (V.sc (.int .u8 (0:Int)))) 0 (List.take 32 h.v)))≤yi) (
  lt ((l.map Hs.v)++(xb 32 1 (ya (List.replicate 32 (V.sc (.int .u8 (0:Int)))) 0 (List.take 32 h.v)))) k))=k ((l++[h]).map Hs.v):=by
 rw [zma,yZ,zvt,yp (by simp only [List.length_singleton,List.length_map,yi]; omega),zE,zvq]
theorem zs3 (L:Nat) (s:Stm) (t:Int) (acc:List Hs) (ha:acc.length≤1000) (k:Bool→Int→List (List V)→Option β):xe β L s.v t (acc.map Hs.v) k=k (isD t s) t ((acc++zar t [s]).map Hs.v):=by
 unfold xe zkM
 rw [zAk]
 by_cases h:s.due≤t
 ·have e:isD t s=true:=decide_eq_true h
  rw [zB (by omega),zsY,zsO]
  have:=zBf acc ha s.h (fun l1=>k true t l1)
  simp only [yZ] at this
  refine this.trans ?_
  rw [e]
  simp [zar,e]
 ·have e:isD t s=false:=decide_eq_false h
  rw [yI (by omega),e]
  simp [zar,e]
theorem zza (t:Int) (a b:List Stm):zar t (a++b)=zar t a++zar t b:=by simp [zar]
theorem zx7 (t:Int) (a b:List Stm):zac t (a++b)=zac t a++zac t b:=by simp [zac]
theorem zrq (t:Int) (l:List Stm):(zar t l).length≤l.length:=by rw [zar,List.length_map]; exact List.length_filter_le _ _
theorem zmJ (t:Int) (l:List Stm):(zac t l).length≤l.length:=List.length_filter_le _ _
theorem zp3 (L:Nat) (t:Int) (l:List Stm) (hl:l.length≤1000) (k:Int→List V→Int→List (List V)→Option β):∀ (n i:Nat),i≤l.length→l.length - i < n→(∀ s ∈ l.take i,isD t s=false) →
  yO xe L k (k (-1)) n l.length (l.length:Int) (i:Int) (sfl l) t (([]:List Hs).map Hs.v) =
   if (∀ s ∈ l,isD t s=false) then k (-1) (sfl l) t (([]:List Hs).map Hs.v)
   else k (zdv (isD t) (l.drop i) i) (sfl l) t ((zar t ((l.drop i).find? (isD t)).toList).map Hs.v)
 | 0,i,h1,h2,h3=>by omega
 | n+1,i,h1,h2,h3=>by
  simp only [yO,za6,zE]
  by_cases hi:i < l.length
  ·rw [yI (by omega),yp ⟨by omega,by omega⟩,Int.toNat_natCast,yp (by rw [zfx]; omega),zup hi,zs3 L _ t [] (by simp)]
   cases e:isD t l[i] with
   | false =>
    have e2:zar t [l[i]]=[]:=by simp [zar,e]
    rw [yr,e2,List.append_nil,xR (by omega),zp3 L t l hl k n (i+1) (by omega) (by omega) (by
     intro s hs
     rw [List.take_succ_eq_append_getElem hi,List.mem_append] at hs
     rcases hs with hs | hs
     ·exact h3 s hs
     ·rw [List.mem_singleton] at hs; rw [hs]; exact e)]
    have e9:(l.drop i).find? (isD t)=(l.drop (i+1)).find? (isD t):=by rw [List.drop_eq_getElem_cons hi,List.find?_cons,e]
    rw [zix hi,e9,e]
    rfl
   | true =>
    rw [xM,if_neg (fun h=>by rw [h _ (List.getElem_mem hi)] at e; cases e)]
    have e9:(l.drop i).find? (isD t)=some l[i]:=by rw [List.drop_eq_getElem_cons hi,List.find?_cons,e]
    rw [zix hi,e9,e]
    rfl
  ·rw [zB (by omega),if_pos (fun s hs=>h3 s (by rw [List.take_of_length_le (by omega)]; exact hs))]
theorem znT (L:Nat) (t:Int) (kx:Nat→Int→List V→Int→List (List V)→Option β) (N:Nat) (hN:N≤1000):∀ (n:Nat) (c a g:List Stm) (acc:List Hs),c.length < n→g≠[]→a.length+g.length+c.length=N→acc.length+c.length≤1000→∃ g',g'.length=N - (a.length+(zac t c).length) ∧
  xE xc xe L kx n N (a.length:Int) ((a.length+g.length:Nat):Int) (sfl (a++g++c)) t (acc.map Hs.v) =
   kx N ((a.length+(zac t c).length:Nat):Int) (sfl (a++zac t c++g')) t ((acc++zar t c).map Hs.v)
 | 0,c,a,g,acc,h,_,_,_=>by omega
 | n+1,[],a,g,acc,h,hg,hn,hc=>by
  refine ⟨g,by simp [zac] at hn ⊢; omega,?_⟩
  simp only [List.length_nil] at hn
  unfold xE zO
  rw [zB (by omega)]
  simp [zac,zar]
 | n+1,x::c,a,g,acc,h,hg,hn,hc=>by
  simp only [List.length_cons] at h hn hc
  have hi:a.length+g.length < (a++g++x::c).length:=by simp
  have hx:(a++g++x::c)[a.length+g.length]=x:=by
   rw [List.getElem_append_right (by simp)]; simp
  have hlen:(a++g++x::c).length=N:=by simp; omega
  have w0:IntKind.wrap .i64 ((((a.length+g.length:Nat)):Int)+1)=((a.length+g.length+1:Nat):Int):=xR (by omega)
  cases e:isD t x with
  | false =>
   have e2:zar t [x]=[]:=by simp [zar,e]
   obtain ⟨y,g,rfl⟩:∃ y g',g=y::g':=by cases g with | nil=>exact absurd rfl hg | cons y g'=>exact ⟨y,g',rfl⟩
   have hgl:(y::g).length=g.length+1:=rfl
   obtain ⟨g',q1,q2⟩:=znT L t kx N hN n c (a++[x]) (g++[x]) acc (by omega) (by simp) (by simp; omega) (by omega)
   refine ⟨g',by rw [q1]; simp [zac,e]; omega,?_⟩
   unfold xE zO
   rw [yI (by omega),yp ⟨by omega,by omega⟩,Int.toNat_natCast,yp (by rw [zfx,hlen]; omega),zup hi,hx,yp ⟨zfp x,by decide⟩,zrG,zE,yp (by rw [zfp]; omega),zko,zs3 L _ t acc (by omega),e,Bool.not_false,xM,yp (by rw [zfp]; omega),yp ⟨by omega,by omega⟩,Int.toNat_natCast,yp ⟨by rw [zfp],by rw [zfx,hlen]; omega⟩,e2,List.append_nil,w0,zE,zE,zE,Nat.zero_add]
   have s1:x.v=sfl [x]:=by simp [sfl]
   have s2:ya (sfl (a++y::g++x::c)) (a.length * 35) x.v=sfl ((a++[x])++(g++[x])++c):=by
    rw [s1,zqi]
    congr 1
    have:(a++y::g++x::c).drop (a.length+[x].length)=g++x::c:=by
     rw [List.append_assoc,List.drop_append]; simp
    have t1:(a++y::g++x::c).take a.length=a:=by rw [List.append_assoc]; exact List.take_left
    rw [this,t1]
    simp
   have w1:IntKind.wrap .i64 ((a.length:Int)+1)=((a.length+1:Nat):Int):=xR (by omega)
   rw [s2,w1]
   have e3:(a++[x]).length=a.length+1:=by simp
   have e4:(g++[x]).length=g.length+1:=by simp
   rw [e3,e4] at q2
   have e5:a.length+1+(g.length+1)=a.length+(y::g).length+1:=by omega
   rw [e5] at q2
   refine q2.trans ?_
   have e6:zac t (x::c)=x::zac t c:=by simp [zac,e]
   have e7:zar t (x::c)=zar t c:=by simp [zar,e]
   rw [e6,e7,List.length_cons]
   congr 1
   ·congr 1; omega
   ·congr 1; simp
  | true =>
   have e2:zar t [x]=[x.h]:=by simp [zar,e]
   obtain ⟨g',q1,q2⟩:=znT L t kx N hN n c a (g++[x]) (acc++[x.h]) (by omega) (by simp) (by simp; omega) (by simp; omega)
   refine ⟨g',by rw [q1]; simp [zac,e],?_⟩
   unfold xE zO
   rw [yI (by omega),yp ⟨by omega,by omega⟩,Int.toNat_natCast,yp (by rw [zfx,hlen]; omega),zup hi,hx,yp ⟨zfp x,by decide⟩,zrG,zE,yp (by rw [zfp]; omega),zko,zs3 L _ t acc (by omega),e,Bool.not_true,yr,e2,w0,zE]
   have e4:(g++[x]).length=g.length+1:=by simp
   rw [e4,show a.length+(g.length+1)=a.length+g.length+1 by omega] at q2
   have e5:a++(g++[x])++c=a++g++x::c:=by simp
   rw [e5] at q2
   refine q2.trans ?_
   have e6:zac t (x::c)=zac t c:=by simp [zac,e]
   have e7:zar t (x::c)=x.h::zar t c:=by simp [zar,e]
   rw [e6,e7]
   simp
end
section
set_option linter.unusedVariables false
set_option linter.unusedSimpArgs false
variable {β:Type}
theorem zAo {t:Int} {l:List Stm} {i:Nat} (hi:i < l.length) (h1:∀ s ∈ l.take i,isD t s=false) (h2:isD t l[i]=true):(l.find? (isD t))=some l[i]∧zac t l=l.take i++zac t (l.drop (i+1))∧zar t l=l[i].h::zar t (l.drop (i+1)):=by
 have e:l=l.take i++l[i]::l.drop (i+1):=by rw [← List.drop_eq_getElem_cons hi,List.take_append_drop]
 have k1:zac t (l.take i)=l.take i:=by rw [zac,List.filter_eq_self]; intro s hs; rw [h1 s hs]; rfl
 have k2:zar t (l.take i)=[]:=by
  rw [zar,List.map_eq_nil_iff,List.filter_eq_nil_iff]; intro s hs; rw [h1 s hs]; simp
 have k3:(l.take i).find? (isD t)=none:=by rw [List.find?_eq_none]; intro s hs; rw [h1 s hs]; simp
 refine ⟨?_,?_,?_⟩
 ·have:=congrArg (List.find? (isD t)) e
  rw [List.find?_append,k3,List.find?_cons,h2] at this
  simpa using this
 ·have:=congrArg (zac t) e
  rw [zx7,k1] at this
  have e1:∀ m,zac t (l[i]::m)=zac t m:=by intro m; simp [zac,h2]
  rw [this,e1]
 ·have:=congrArg (zar t) e
  rw [zza,k2] at this
  have e1:∀ m,zar t (l[i]::m)=l[i].h::zar t m:=by intro m; simp [zar,h2]
  rw [this,e1,List.nil_append]
theorem zse {L:Nat} {l:List Stm} (hl:l.length≤1000) (hL:2000≤L) (t:Int) (k:Int→List V→Int→List (List V)→Option β):xc β L l.length (sfl l) t ([]:List (List V)) k=if (∀ s ∈ l,isD t s=false) then k (-1) (sfl l) t [] else k (zdv (isD t) l 0) (sfl l) t ((zar t (l.find? (isD t)).toList).map Hs.v):=by
 unfold xc zax zbC
 have:=zp3 L t l (by omega) k L 0 (by omega) (by omega) (by simp)
 rw [List.drop_zero] at this
 exact this
theorem zxf {L:Nat} {l:List Stm} (hl:l.length≤500) (hL:2000≤L) (t:Int):∃ g',(zac t l++g').length=l.length∧∀ (k:Nat→List V→Int→List (List V)→Option β),xi β L l.length (sfl l) t ([]:List (List V)) k=k (zac t l).length (sfl (zac t l++g')) t ((zar t l).map Hs.v):=by
 have e0:([]:List (List V))=([]:List Hs).map Hs.v:=rfl
 rcases ziu (isD t) l 0 with ⟨e,hn⟩ | ⟨i,hi,e,h1,h2⟩
 ·have k1:zac t l=l:=by rw [zac,List.filter_eq_self]; intro s hs; rw [hn s hs]; rfl
  have k2:zar t l=[]:=by
   rw [zar,List.map_eq_nil_iff,List.filter_eq_nil_iff]; intro s hs; rw [hn s hs]; simp
  refine ⟨[],by rw [List.append_nil,k1],fun k=>?_⟩
  unfold xi yX zaJ
  rw [zse (by omega) hL]
  rw [if_pos hn,k1,k2,List.append_nil]
  rw [yp rfl,zb5 rfl,List.map_nil]
 ·obtain ⟨f1,f2,f3⟩:=zAo hi h1 h2
  have hk:=zmJ t (l.drop (i+1))
  rw [List.length_drop] at hk
  have hd:=zrq t (l.drop (i+1))
  rw [List.length_drop] at hd
  obtain ⟨g',q1,q2⟩:=znT (β:=β) L t (fun a b c d e=>none) l.length (by omega) L (l.drop (i+1)) (l.take i) [l[i]] [l[i].h] (by rw [List.length_drop]; omega) (by simp) (by simp; omega) (by simp; omega)
  have hli:(l.take i).length=i:=by rw [List.length_take]; omega
  refine ⟨List.replicate (l.length - (zac t l).length) zS,by rw [List.length_append,List.length_replicate,f2,List.length_append,hli]; omega,fun k=>?_⟩
  unfold xi yX zaJ
  rw [zse (by omega) hL]
  rw [if_neg (fun h=>by rw [h _ (List.getElem_mem hi)] at h2; cases h2),e,Nat.zero_add]
  rw [yp rfl,zaM (by omega),f1]
  have w1:IntKind.wrap .i64 ((i:Int)+1)=((i+1:Nat):Int):=xR (by omega)
  have e3:zar t (some l[i]).toList=[l[i].h]:=by simp [zar,h2]
  rw [w1,zE,e3]
  obtain ⟨g',q1,q2⟩:=znT (β:=β) L t (fun p0l p5 b0 zBG zBH=>yW xc xe L p0l p5 b0 zBG zBH k) l.length (by omega) L (l.drop (i+1)) (l.take i) [l[i]] [l[i].h] (by rw [List.length_drop]; omega) (by simp) (by simp; omega) (by simp; omega)
  have e4:l.take i++[l[i]]++l.drop (i+1)=l:=by rw [List.append_assoc,List.singleton_append,← List.drop_eq_getElem_cons hi,List.take_append_drop]
  have e5:(l.take i++zac t (l.drop (i+1))).length=i+(zac t (l.drop (i+1))).length:=by rw [List.length_append,hli]
  rw [hli,List.length_singleton,e4,← f2,← e5,← f2,List.singleton_append,← f3] at q2
  refine q2.trans ?_
  unfold yW
  have hkl:=zmJ t l
  rw [yp ⟨by omega,by omega⟩,Int.toNat_natCast,zAO,zwi,Nat.zero_add,zqi,zE,yp ⟨by omega,by omega⟩,Nat.sub_zero]
  congr 2
  rw [List.take_append_of_le_length (Nat.le_refl _),List.take_length,List.drop_of_length_le (by rw [List.length_append,List.length_replicate,q1,hli,f2,e5]; omega),List.append_nil]
def Rl.keep (r:Rl) (t:Int):Rl:={ r with st:=zac t r.st }
theorem zxT {L:Nat} {r:Rl} (hr:r.Ok) (hL:2000≤L) (t:Int) (k k1:List V→List (List V)→Option β):yd β L r.v t k k1=if zfU r=true then k1 (r.keep t).v ((zar t r.st).map Hs.v) else k r.v []:=by
 have h1:=hr.nr; have h2:=hr.ns; have h3:=hr.nf
 obtain ⟨g',q1,q2⟩:=zxf (β:=β) h2 hL t
 unfold yd zmV
 rw [zpI,zoa,zms,zrQ,zsy,zrw,zta r,zrk hr hL,zip hr]
 cases hs:zfU r with
 | false =>
  rw [Bool.not_false,xM,if_neg (by simp),zqa]
 | true =>
  rw [Bool.not_true,yr,if_pos rfl,q2,yp (by rw [zfx,zfx,q1])]
  have hk:=zmJ t r.st
  rw [zoh _ (by rw [List.length_append]; omega),List.take_append_of_le_length (Nat.le_refl _),List.take_length,chI,chH]
  exact Eq.trans rfl rfl
end
section
set_option linter.unusedVariables false
set_option linter.unusedSimpArgs false
end
section
set_option linter.unusedVariables false
set_option linter.unusedSimpArgs false
variable {β:Type}
end
section
set_option linter.unusedVariables false
set_option linter.unusedSimpArgs false
variable {β:Type}
def hl (l:List Hs):List (List Int):=l.map (·.l)
structure Inv (t:Int) (S G:List Hs) (r:Rl) (D:List Hs) (a:Int):Prop where
 rt:r.rt=[4,7]
 df:r.df=false
 st64:r.st.length≤64
 nd:(xV r++(hl D++hl G)).Nodup
 fl:r.fl=G
 cnt:((G.length+r.st.length+D.length:Nat):Int)≤a
 cs:((S.length:Nat):Int)≤a
 a2:a≤200
 inS:∀ x ∈ xV r++hl D,x ∈ hl S
 due:∀ s ∈ r.st,s.due≤t+10
 cov:∀ x ∈ hl S,x ∈ xV r++(hl D++hl G)
 t0:0≤t
 t1:t≤4 * a
variable {t:Int} {S G D:List Hs} {r:Rl} {a:Int}
theorem Inv.snd (h:Inv t S G r D a):zfU r=true:=by
 have h1:=h.cnt; have h2:=h.a2; have h3:=h.st64
 have nd:=h.nd
 rw [List.nodup_append] at nd
 obtain ⟨n1,n2,n3⟩:=nd
 rw [List.nodup_append] at n2
 have efl:zdu r=hl G:=by unfold zdu hl; rw [h.fl]
 unfold zfU
 rw [h.rt,h.fl,efl]
 simp only [Bool.and_eq_true,decide_eq_true_eq]
 refine ⟨by simp,h3,by omega,by decide,(zln _ _).2 ⟨n1,by simp⟩,(zln _ _).2 ⟨n2.2.1,?_⟩⟩
 intro x hx hs
 exact n3 x hs x (List.mem_append_right _ hx) rfl
theorem Inv.few (h:Inv t S G r D a):r.Ok:=by
 have h1:=h.cnt; have h2:=h.a2; have h3:=h.st64
 exact ⟨by rw [h.rt]; simp,by omega,by rw [h.fl]; omega⟩
theorem Inv.mono (h:Inv t S G r D a) {t' a':Int} (ht:t≤t') (ha:a≤a') (h2:a'≤200) (h3:t'≤4 * a'):Inv t' S G r D a' :=
 { h with cnt:=by have:=h.cnt; omega,cs:=by have:=h.cs; omega,a2:=h2,due:=fun s hs=>by have:=h.due s hs; omega,t0:=by have:=h.t0; omega,t1:=h3 }
theorem zwv (h:Hs) (l:List Stm):(if 0≤zdv (isS h) l 0 then zpB l (zdv (isS h) l 0).toNat else l)=l.eraseP (isS h):=by
 rcases ziu (isS h) l 0 with ⟨e,hn⟩ | ⟨i,hi,e,h1,h2⟩
 ·rw [e,if_neg (by decide),List.eraseP_of_forall_not (fun x hx=>by rw [hn x hx]; decide)]
 ·rw [e,if_pos (by omega),Nat.zero_add,Int.toNat_natCast]
  unfold zpB
  have e1:l=l.take i++l[i]::l.drop (i+1):=by rw [← List.drop_eq_getElem_cons hi,List.take_append_drop]
  have e2:=congrArg (List.eraseP (isS h)) e1
  rw [List.eraseP_append_right _ (fun x hx=>by rw [h1 x hx]; decide),List.eraseP_cons_of_pos h2] at e2
  exact e2.symm
theorem zqb (r:Rl) (h:Hs):(r.gone h).st=r.st.eraseP (isS h):=zwv h r.st
theorem znN (r:Rl) (h:Hs):xV (r.gone h)=(xV r).erase h.l:=by
 unfold xV
 rw [zqb,List.erase_eq_eraseP,List.eraseP_map]
 congr 1
 congr 1
 funext x
 show isS h x=(h.l == x.id)
 unfold isS
 rw [Bool.eq_iff_iff,decide_eq_true_eq,beq_iff_eq]
 exact ⟨Eq.symm,Eq.symm⟩
theorem Inv.gone (hI:Inv t S G r D a) (h:Hs) (hn:h.l ∉ hl D++hl G) (hc:((G.length+1+(r.gone h).st.length+D.length:Nat):Int)≤a):Inv t S (G++[h]) (r.gone h) D a:=by
 have hh:hl (G++[h])=hl G++[h.l]:=by simp [hl]
 have sub:(r.gone h).st.Sublist r.st:=by rw [zqb]; exact List.eraseP_sublist
 refine { rt:=hI.rt,df:=hI.df,st64:=Nat.le_trans sub.length_le hI.st64,fl:=by show r.fl++[h]=_; rw [hI.fl],cs:=hI.cs,a2:=hI.a2,t0:=hI.t0,t1:=hI.t1,nd:=?_,cnt:=by rw [List.length_append,List.length_singleton]; exact hc,inS:=?_,due:=fun s hs=>hI.due s (sub.subset hs),cov:=?_ }
 ·rw [hh,znN]
  by_cases hm:h.l ∈ xV r
  ·have p1:(xV r).Perm (h.l::(xV r).erase h.l):=List.perm_cons_erase hm
   have p2:(xV r++(hl D++hl G)).Perm ((xV r).erase h.l++(hl D++(hl G++[h.l]))):=by
    refine (p1.append_right _).trans ?_
    have e:(xV r).erase h.l++(hl D++(hl G++[h.l]))=(xV r).erase h.l++(hl D++hl G)++[h.l]:=by rw [List.append_assoc,List.append_assoc (hl D)]
    rw [List.cons_append,e]
    exact (List.perm_append_singleton _ _).symm
   exact p2.nodup_iff.1 hI.nd
  ·rw [List.erase_of_not_mem hm,← List.append_assoc (hl D),← List.append_assoc,List.nodup_append]
   refine ⟨hI.nd,by simp,?_⟩
   intro x hx y hy e
   rw [List.mem_singleton] at hy
   subst hy; subst e
   rcases List.mem_append.1 hx with hx | hx
   ·exact hm hx
   ·exact hn hx
 ·intro x hx
  refine hI.inS x ?_
  rw [znN] at hx
  rcases List.mem_append.1 hx with hx | hx
  ·exact List.mem_append_left _ (List.mem_of_mem_erase hx)
  ·exact List.mem_append_right _ hx
 ·intro x hx
  rw [hh,znN]
  have:=hI.cov x hx
  by_cases e:x=h.l
  ·subst e; simp
  ·rcases List.mem_append.1 this with q | q
   ·exact List.mem_append_left _ ((List.mem_erase_of_ne e).2 q)
   ·rcases List.mem_append.1 q with q | q
    ·exact List.mem_append_right _ (List.mem_append_left _ q)
    ·exact List.mem_append_right _ (List.mem_append_right _ (List.mem_append_left _ q))
theorem zuB (r:Rl) (h:Hs):(r.gone h).st.length≤r.st.length:=by rw [zqb]; exact List.eraseP_sublist.length_le
theorem Inv.take (hI:Inv t S G r [] a):Inv t S G (r.keep t) (zar t r.st) a:=by
 have hk:=zmJ t r.st
 have p0:(zac t r.st++r.st.filter (isD t)).Perm r.st:=(List.perm_append_comm).trans (List.filter_append_perm (isD t) r.st)
 have hd:hl (zar t r.st)=(r.st.filter (isD t)).map (·.id):=by simp only [hl,zar,List.map_map]; rfl
 have p1:(xV (r.keep t)++hl (zar t r.st)).Perm (xV r):=by
  rw [hd]
  have:=p0.map (·.id)
  rw [List.map_append] at this
  exact this
 have e0:hl ([]:List Hs)=[]:=rfl
 have len:=p0.length_eq
 rw [List.length_append] at len
 have hdl:(zar t r.st).length=(r.st.filter (isD t)).length:=by rw [zar,List.length_map]
 refine { rt:=hI.rt,df:=hI.df,st64:=Nat.le_trans hk hI.st64,fl:=hI.fl,cs:=hI.cs,a2:=hI.a2,t0:=hI.t0,t1:=hI.t1,nd:=?_,cnt:=?_,inS:=?_,due:=?_,cov:=?_ }
 ·have:=hI.nd
  rw [e0,List.nil_append] at this
  rw [← List.append_assoc]
  exact (p1.append_right _).nodup_iff.2 this
 ·have:=hI.cnt
  simp only [List.length_nil] at this
  rw [hdl]
  show ((G.length+(zac t r.st).length+_:Nat):Int)≤a
  omega
 ·intro x hx
  refine hI.inS x ?_
  rw [e0,List.append_nil]
  exact p1.mem_iff.1 hx
 ·intro s hs
  exact hI.due s (List.mem_filter.1 hs).1
 ·intro x hx
  have:=hI.cov x hx
  rw [e0,List.nil_append] at this
  rw [← List.append_assoc]
  rcases List.mem_append.1 this with q | q
  ·exact List.mem_append_left _ (p1.mem_iff.2 q)
  ·exact List.mem_append_right _ q
theorem Inv.more (hI:Inv t S G r [] a) (h:Hs) (fr to:Int) (h1:r.st.any (isS h)=false) (h2:r.fl.any (isH h)=false) (h3:r.st.length < 64) {a':Int} (ha:a≤a') (hc1:((S.length:Nat):Int)+1≤a') (hc2:((G.length+r.st.length:Nat):Int)+1≤a') (h4:a'≤200):Inv t (S++[h]) G (r.more ⟨h.l,fr,to,t+10,h.hl⟩) [] a':=by
 have e0:hl ([]:List Hs)=[]:=rfl
 have es:xV (r.more ⟨h.l,fr,to,t+10,h.hl⟩)=xV r++[h.l]:=by simp [xV,Rl.more]
 have hh:hl (S++[h])=hl S++[h.l]:=by simp [hl]
 have n1:h.l ∉ xV r:=by
  intro hm
  obtain ⟨s,hs,e⟩:=List.mem_map.1 hm
  have:=List.any_eq_false.1 h1 s hs
  exact this (decide_eq_true e)
 have n2:h.l ∉ hl G:=by
  intro hm
  obtain ⟨s,hs,e⟩:=List.mem_map.1 hm
  rw [hI.fl] at h2
  have:=List.any_eq_false.1 h2 s hs
  exact this (decide_eq_true e)
 have hnd:=hI.nd
 have hcov:=hI.cov
 have hin:=hI.inS
 have hcnt:=hI.cnt
 have hcs:=hI.cs
 have ht1:=hI.t1
 rw [e0,List.nil_append] at hnd
 rw [e0] at hcov hin
 refine { rt:=hI.rt,df:=hI.df,st64:=by simp [Rl.more]; omega,fl:=hI.fl,cs:=by simp; omega,a2:=h4,t0:=hI.t0,t1:=by omega,nd:=?_,cnt:=by simp [Rl.more] at hcnt ⊢; omega,inS:=?_,due:=?_,cov:=?_ }
 ·rw [es,e0,List.nil_append]
  have p:(h.l::(xV r++hl G)).Perm (xV r++[h.l]++hl G):=by
   rw [List.append_assoc,List.singleton_append]
   exact List.perm_middle.symm
  refine p.nodup_iff.1 (List.nodup_cons.2 ⟨?_,hnd⟩)
  intro hm
  rcases List.mem_append.1 hm with q | q
  ·exact n1 q
  ·exact n2 q
 ·intro x hx
  rw [es,e0,List.append_nil] at hx
  rw [hh]
  rcases List.mem_append.1 hx with q | q
  ·exact List.mem_append_left _ (hin x (by rw [List.append_nil]; exact q))
  ·exact List.mem_append_right _ q
 ·intro s hs
  rcases List.mem_append.1 (show s ∈ r.st++[_] from hs) with q | q
  ·exact hI.due s q
  ·rw [List.mem_singleton] at q; subst q; exact Int.le_refl _
 ·intro x hx
  rw [es,e0,List.nil_append]
  rw [hh] at hx
  rcases List.mem_append.1 hx with q | q
  ·have:=hcov x q
   rw [List.nil_append] at this
   rcases List.mem_append.1 this with w | w
   ·exact List.mem_append_left _ (List.mem_append_left _ w)
   ·exact List.mem_append_right _ w
  ·exact List.mem_append_left _ (List.mem_append_right _ q)
end
end Go.Proofs.Ytpbbfpfmdckclaa
