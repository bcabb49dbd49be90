/- Part 2 of the proof of BlockBack: an abstract machine over plain values, its soundness, and the functions of the program on plain values. -/
import Derived.Laws.Externs
import Derived.Laws.StructEq
import Derived.ChangeKeysEq
import Derived.Test.YtgmhijonllockaaGreatDoorMBlockBack1
namespace Go.Proofs.YtgmhijonllockaaGreatDoor
set_option maxRecDepth 100000
set_option linter.unusedVariables false
set_option linter.unusedSimpArgs false
open Option renaming bind_eq_some_iff->Wa,bind_eq_bind->Wb,map_eq_some_iff->Wj,isNone_iff_eq_none->WH,pure_def->Wl,isSome_iff_exists->WR
open Option.some renaming injEq->Wg
open List renaming getElem?_eq_some_iff->Wi,getElem?_set_ne->WE,getElem?_set_self->WF,getElem?_eq_getElem->Wc,getElem?_drop->Wp,getElem?_map->WJ,getElem?_take->Wn,drop_of_length_le->WK,getD_eq_getElem?_getD->Ws,flatten_cons->WL,getElem?_modify->WN,drop_drop->WO,drop_eq_getElem_cons->WQ,mem_of_mem_drop->WU,mem_of_mem_take->WV,mem_of_getElem?->WW,length_pos_iff->WY
open Result renaming andThen_ok->WD
open Nat renaming le_refl->Wq,add_mul->WG,mul_le_mul_right->WI,add_assoc->WM,sub_self->WS
open Bool renaming and_eq_true->Wh,false_eq_true->WP
open _root_.Array renaming getElem?_eq_none->WT,ext'->WX
section
variable {ren:Rn} {we:World} {ωe:Nat→Ow} {U:Nat→Nat→Prop} {O:Nat→Prop} {σ:St} {a:Act} {w:World} {ω:Nat→Ow} {μ:Nat→Nat} {P:Program}
def zaT(P:Program)(ren:Rn)(E:En)(a:Act)(o:Oper)(v:V):Prop:=
 ∃ u,(execOp a.eval o).run P E.w=.ok (.value u) E.w∧∀ l,Rep ren E l v u
theorem zRc{Wr:Nat→Nat→Prop}{v:V}{u:Value}(h:zNo v u=true):u.oneCell'=true∧RepP ren w Wr v u:=by
 unfold zNo at h
 split at h
 ·simp at h; subst h; exact ⟨rfl,.sc _ rfl⟩
 ·simp at h; obtain ⟨rfl,rfl⟩:=h; exact ⟨rfl,.sc _ rfl⟩
 ·rename_i x y
  simp only [Wh,beq_iff_eq] at h
  have:x=y:=by
   apply ByteArray.ext
   apply Array.ext
   ·rw [ByteArray.size_data,ByteArray.size_data]; omega
   ·intro i h1 h2; rw [ByteArray.size_data] at h1; omega
  subst this
  exact ⟨rfl,.sc _ rfl⟩
 ·exact ⟨rfl,.sc _ rfl⟩
 ·exact ⟨rfl,.sc _ rfl⟩
 ·exact ⟨rfl,.sc _ rfl⟩
 ·exact ⟨rfl,.nil _ _⟩
 ·cases h
theorem zAv{Wr:Nat→Nat→Prop}:∀ {vs:List V} {us:List Value},zoD vs us=true→CellsP ren w Wr vs us
 | [],[],h=>⟨rfl,by simp⟩
 | v::vs,u::us,h=>by
  simp only [zoD,Wh] at h
  obtain ⟨e,ih⟩:=zAv h.2
  refine ⟨by simp [e],fun i c hc=>?_⟩
  cases i with
  | zero=>simp at hc; subst hc; obtain ⟨h1,h2⟩:=zRc (ren:=ren) (w:=w) (Wr:=Wr) h.1; exact ⟨u,by simp,h1,h2⟩
  | succ i=>simp at hc; obtain ⟨x,hx⟩:=ih i c hc; exact ⟨x,by simpa using hx⟩
 | [],u::us,h=>by simp [zoD] at h
 | v::vs,[],h=>by simp [zoD] at h
theorem zg5{Wr:Nat→Nat→Prop}{t:TypeId}{cs:List V}(h:zgE P t=some cs):∃ i z,P.info? t=some i∧i.zero=some z∧CellsP ren w Wr cs z.cells.toList:=by
 unfold zgE at h
 simp only [Wb,Wa] at h
 obtain ⟨cs',h1,z,⟨i,hi,hz⟩,h3⟩:=h
 split at h3
 ·rename_i hm; cases h3; exact ⟨i,z,hi,hz,zAv hm⟩
 ·cases h3
theorem zez{t:TypeId}{n:Nat}(h:xy P t=some n):∃ i,P.info? t=some i∧i.size=n:=by
 unfold xy at h
 cases hi:P.info? t with
 | none=>simp [hi] at h
 | some i=>simp [hi] at h; exact ⟨i,rfl,h⟩
theorem y7{t:TypeId}{n:Nat}(h:xy P t=some n)(w:World):(sizeOf t).run P w=.ok n w:=by
 obtain ⟨i,hi,e⟩:=zez h
 simp [sizeOf,typeInfo,hi,e]
theorem zDs{t:TypeId}{b:Bool}(h:z9 P t=some b)(w:World):(isAgg t).run P w=.ok b w:=by
 unfold z9 at h
 cases hu:P.underlying t with
 | none=>simp [hu] at h
 | some d=>
  simp [hu] at h
  subst h
  unfold isAgg
  rw [Sem.run_bind,run_underlying hu w]
  cases d <;> simp
theorem zWU(R:Rel ren we ωe U O σ a w ω μ){o:Oper}{c x y:Operand}(hop:o.op=.pick c x y){sc sx sy:Src}{t1 t2 t3:TypeId}(h1:xj P ren t1 c=some sc)(h2:xj P ren t2 x=some sx)(h3:xj P ren t3 y=some sy)
  {v:V} (hp:zk σ (.pick sc sx sy)=some v):zaT P ren (env U σ w ω μ) a o v:=by
 simp only [zk,Wb,Wa,Wl,Wg] at hp
 obtain ⟨t,ht,rfl⟩:=hp
 have hc:=(R.opnd h1).bool ht
 refine ⟨if t then a.eval x else a.eval y,?_,fun l=>?_⟩
 ·simp [execOp,hop,hc,asBool]
 ·cases t
  ·exact (R.opnd h3).dem R.hU l
  ·exact (R.opnd h2).dem R.hU l
theorem zkX{Wr:Nat→Nat→Prop}{cs:List V}{us:List Value}(h:CellsP ren w Wr cs us):CellsP ren w Wr (cs.map V.dem) us:=by
 refine ⟨by simpa using h.1,fun i c hc=>?_⟩
 rw [WJ] at hc
 cases hci:cs[i]? with
 | none=>simp [hci] at hc
 | some c'=>
  simp [hci] at hc; subst hc
  obtain ⟨u,g1,g2,g3⟩:=h.2 i c' hci
  refine ⟨u,g1,g2,?_⟩
  cases g3 with
  | sc _ h=>exact .sc _ h
  | agg cs us hl h h1=>exact .agg cs us hl h h1
  | sl sz es A c f hc hsz k o hA hcell h1 h=>exact .sl sz es A c f hc hsz k o hA hcell h1 h
  | ful sz es A f hsz k o hA hcell h1 h hon=>exact .sl sz es A es.length f (Wq _) hsz k o hA hcell h1 h
  | fn f g h=>exact .fn f g h
theorem zUU(R:Rel ren we ωe U O σ a w ω μ){o:Oper}{take:Bool}{xs:List Nat}{t:TypeId}{parts:Array (Nat × Operand)}(hop:o.op=.build t parts){k:K}(hk:cK P ren o take xs=some k){v:V}(hp:zk σ k=some v):zaT P ren (env U σ w ω μ) a o v:=by
 unfold cK at hk
 rw [hop] at hk
 simp only [Wb,Wa] at hk
 obtain ⟨z,hz,d,hd,hk⟩:=hk
 obtain ⟨it,zv,hit,hzv,hcp⟩:=zg5 (ren:=ren) (w:=w) (Wr:=wr U ω) hz
 have keyS:∀ (place:Nat→Option (Nat × TypeId)) (placeR:Nat→Option (Nat × Nat)) (ps:List (Nat × Nat × Src)),(∀ i off ty n,place i=some (off,ty)→xy P ty=some n→placeR i=some (off,n)) →
   zk9 P ren place parts.toList=some ps→zk σ (.buildSt z ps)=some v→(∀ arr',Instr.fill placeR zv.cells (parts.toList.map fun p=>(p.1,a.eval p.2))=some arr'→P.built t (parts.map fun (i,x)=>(i,a.eval x)).toList=some arr')→zaT P ren (env U σ w ω μ) a o v:=by
  intro place placeR ps h1 h2 h3 h4
  simp only [zk,Wb,Wa,Wl,Wg] at h3
  obtain ⟨cs',hf,rfl⟩:=h3
  obtain ⟨arr',g1,g2⟩:=zKN R place placeR h1 parts.toList ps z cs' zv.cells h2 hf hcp.toQ
  refine ⟨.agg arr',?_,fun l=>?_⟩
  ·simp only [execOp,hop,Sem.run_bind,run_build _ t _ arr' (h4 arr' g1),WD,Sem.run_pure]
  ·have:Rep ren (env U σ w ω μ) l (.st cs') (.agg (List.toArray arr'.toList)):=by
    refine .st cs' arr'.toList g2.1 (fun i c u hc hu=>?_) (fun u hu=>?_)
    ·obtain ⟨u',q1,_,q3⟩:=g2.2 i c hc
     rw [hu] at q1; cases q1; exact q3
    ·obtain ⟨i,hi,e⟩:=List.getElem_of_mem hu
     obtain ⟨u',q1,q2,_⟩:=g2.2 i _ (Wc (by rw [g2.1]; exact hi))
     rw [Wc hi,e] at q1; cases q1; exact q2
   simpa using this
 have hcz:CellsP ren w (wr U ω) (if xs.isEmpty then z.map V.dem else z) zv.cells.toList:=by
  cases xs with
  | nil=>exact zkX hcp
  | cons x xs=>exact hcp
 have key:∀ (place:Nat→Option (Nat × TypeId)) (placeR:Nat→Option (Nat × Nat)) (ps:List (Nat × Nat × Src)),(∀ i off ty n,place i=some (off,ty)→xy P ty=some n→placeR i=some (off,n)) →
   zk9 P ren place parts.toList=some ps→zk σ (.build (if xs.isEmpty then z.map V.dem else z) ps)=some v→(∀ arr',Instr.fill placeR zv.cells (parts.toList.map fun p=>(p.1,a.eval p.2))=some arr'→P.built t (parts.map fun (i,x)=>(i,a.eval x)).toList=some arr')→zaT P ren (env U σ w ω μ) a o v:=by
  intro place placeR ps h1 h2 h3 h4
  simp only [zk,Wb,Wa,Wl,Wg] at h3
  obtain ⟨cs',hf,rfl⟩:=h3
  obtain ⟨arr',g1,g2⟩:=zGw R place placeR h1 parts.toList ps _ cs' zv.cells h2 hf hcz
  refine ⟨.agg arr',?_,fun l=>.pure ?_⟩
  ·simp only [execOp,hop,Sem.run_bind,run_build _ t _ arr' (h4 arr' g1),WD,Sem.run_pure]
  ·have:RepP ren w (wr U ω) (.agg cs') (.agg arr'):=by simpa using g2.agg
   exact this
 split at hk
 ·simp only [Wa,Wg] at hk
  obtain ⟨places,hpl,ps,hps,rfl⟩:=hk
  rename_i fs
  have hA:∀ i off ty n,zwP fs i=some (off,ty)→xy P ty=some n→places.toArray[i]?=some (off,n):=by
   intro i off ty n hpi hn
   unfold zwP at hpi
   cases hf:fs[i]? with
   | none=>simp [hf] at hpi
   | some f=>
    simp [hf] at hpi
    obtain ⟨rfl,rfl⟩:=hpi
    obtain ⟨inf,hinf,e⟩:=zez hn
    have hf':fs.toList[i]?=some f:=by simpa using hf
    obtain ⟨b,hb,hb'⟩:=zhK hpl i f hf'
    simp [hinf,e] at hb'
    simp [hb,← hb']
  have hB:∀ arr',Instr.fill (fun i=>places.toArray[i]?) zv.cells (parts.toList.map fun p=>(p.1,a.eval p.2))=some arr'→P.built t (parts.map fun (i,x)=>(i,a.eval x)).toList=some arr':=by
   intro arr' g
   unfold Program.built
   simp only [hit,hd,hzv,hpl]
   simpa using g
  cases take with
  | true=>exact keyS _ (fun i=>places.toArray[i]?) ps hA hps hp hB
  | false=>exact key _ (fun i=>places.toArray[i]?) ps hA hps hp hB
 ·rename_i n e
  simp only [Wa,Wg] at hk
  obtain ⟨sz,hsz,ps,hps,rfl⟩:=hk
  obtain ⟨ie,hie,e1⟩:=zez hsz
  have hA:∀ i off ty n,(fun i=>some (i*sz,e)) i=some (off,ty)→xy P ty=some n→(fun i=>some (i*ie.size,ie.size)) i=some (off,n):=by
   intro i off ty n hpi hn
   simp at hpi
   obtain ⟨rfl,rfl⟩:=hpi
   rw [hsz] at hn; cases hn
   simp [e1]
  have hB:∀ arr',Instr.fill (fun i=>some (i*ie.size,ie.size)) zv.cells (parts.toList.map fun p=>(p.1,a.eval p.2))=some arr'→P.built t (parts.map fun (i,x)=>(i,a.eval x)).toList=some arr':=by
   intro arr' g
   unfold Program.built
   simp only [hit,hd,hzv,hie]
   simpa using g
  cases take with
  | true=>exact keyS _ (fun i=>some (i*ie.size,ie.size)) ps hA hps hp hB
  | false=>exact key _ (fun i=>some (i*ie.size,ie.size)) ps hA hps hp hB
 ·cases hk
theorem zOM(R:Rel ren we ωe U O σ a w ω μ){o:Oper}{x:Operand}(hop:o.op=.nilCheck x){s:Src}{t1:TypeId}(h1:xj P ren t1 x=some s)
  {v:V} (hp:zk σ (.nilCheck s)=some v):zaT P ren (env U σ w ω μ) a o v:=by
 have hr:=R.opnd h1
 simp only [zk] at hp
 split at hp
 ·rename_i id off hg
  cases hp
  rw [hg] at hr
  obtain ⟨L,hL,e⟩:=hr.ptr_inv
  exact ⟨a.eval x,by simp only [execOp,hop,e]; rfl,fun l=>by rw [e]; exact .ptr id off L hL⟩
 ·rename_i n cs hg
  cases hp
  rw [hg] at hr
  obtain ⟨k,o',f,e,hl,hcell,h1,h⟩:=hr.fp_inv
  exact ⟨a.eval x,by simp only [execOp,hop,e]; rfl,fun l=>by rw [e]; exact .fp n cs k o' f hl hcell h1 h⟩
 ·rename_i f caps hg
  cases hp
  rw [hg] at hr
  obtain ⟨f',us,e,hr',hl,h⟩:=hr.fn_inv
  exact ⟨a.eval x,by simp only [execOp,hop,e]; rfl,fun l=>by rw [e]; exact .fn f' f caps us hr' hl h⟩
 ·cases hp
end
section
variable {ren:Rn} {we:World} {ωe:Nat→Ow} {U:Nat→Nat→Prop} {O:Nat→Prop} {σ:St} {a:Act} {w:World} {ω:Nat→Ow} {μ:Nat→Nat} {P:Program}
theorem zLU{es:Ls}{sz:Nat}(h:∀ e∈es,e.length=sz)(l:Nat):(es.drop l).flatten=es.flatten.drop (l*sz):=by
 induction es generalizing l with
 | nil=>simp
 | cons e es ih=>
  cases l with
  | zero=>simp
  | succ l=>
   have h1:=h e (by simp)
   have hm:(l+1)*sz=e.length+l*sz:=by rw [h1,WG]; omega
   rw [List.drop_succ_cons,ih (fun x hx=>h x (by simp [hx])),WL,hm,List.drop_append]
   simp
theorem zAT{es:Ls}{sz:Nat}(h:∀ e∈es,e.length=sz)(n:Nat):(es.take n).flatten=es.flatten.take (n*sz):=by
 induction es generalizing n with
 | nil=>simp
 | cons e es ih=>
  cases n with
  | zero=>simp
  | succ n=>
   have h1:=h e (by simp)
   have hm:(n+1)*sz=e.length+n*sz:=by rw [h1,WG]; omega
   rw [List.take_succ_cons,WL,WL,ih (fun x hx=>h x (by simp [hx])),hm,List.take_append]
   rw [List.take_of_length_le (by omega:e.length≤e.length+n*sz)]
   simp
theorem zzr{es:Ls}{sz:Nat}(h:∀ e∈es,e.length=sz)(l n i:Nat){v:V}(hv:((es.drop l).take n).flatten[i]?=some v):es.flatten[l*sz+i]?=some v:=by
 have h':∀ e∈es.drop l,e.length=sz:=fun e he=>h e (WU he)
 rw [zAT h',zLU h] at hv
 rw [Wn] at hv
 split at hv
 ·rwa [Wp] at hv
 ·cases hv
theorem zJH{es:Ls}{sz:Nat}(h:∀ e∈es,e.length=sz){j:Nat}{c:List V}(hj:es[j]?=some c)(i:Nat){v:V}(hv:c[i]?=some v):es.flatten[j*sz+i]?=some v:=by
 apply zzr h j 1
 have hlt:j<es.length:=(Wi.1 hj).1
 have e:(es.drop j).take 1=[c]:=by
  rw [WQ hlt]
  rw [Wc hlt] at hj
  cases hj
  rfl
 rw [e]; simpa using hv
theorem xx(sz:Nat):∀ (n:Nat) (cs:List V),(zf sz n cs).length=n
 | 0,_=>rfl
 | n+1,cs=>by simp [zf,xx sz n]
theorem zaR(sz:Nat):∀ (n:Nat) (cs:List V),n*sz≤cs.length→∀ e∈zf sz n cs,e.length=sz
 | 0,_,_,e,he=>by simp [zf] at he
 | n+1,cs,h,e,he=>by
  rw [WG] at h
  simp only [zf,List.mem_cons] at he
  rcases he with rfl | he
  ·simp; omega
  ·exact zaR sz n _ (by simp; omega) e he
theorem xZ(sz:Nat):∀ (n:Nat) (cs:List V),(zf sz n cs).flatten=cs.take (n*sz)
 | 0,_=>by simp [zf]
 | n+1,cs=>by
  have hm:(n+1)*sz=sz+n*sz:=by rw [WG]; omega
  rw [zf,WL,xZ sz n,hm,List.take_add]
def zU9(ren:Rn)(w:World)(Wr:Nat→Nat→Prop)(sz:Nat)(es:Ls)(u:Value):Prop:=
 ∃ (A:Option Addr) (c:Nat) (f:Nat→Value) (k o:Nat),u=.slice A es.length c∧es.length≤c∧(∀ e∈es,e.length=sz)∧(es≠[]→A=some ⟨k,o,none⟩) ∧
  (∀ (i:Nat) (v:V),es.flatten[i]?=some v→w.cell? ⟨k,o+i,none⟩=some (f i)∧(f i).oneCell'=true∧RepP ren w Wr v (f i))
theorem RepP.reads{Wr:Nat→Nat→Prop}{sz:Nat}{es:Ls}{u:Value}(h:RepP ren w Wr (.sl sz es) u):zU9 ren w Wr sz es u:=by
 obtain ⟨A,c,f,k,o,e,hc,hsz,hA,hcell,h1,h⟩:=h.sl_inv
 exact ⟨A,c,f,k,o,e,hc,hsz,hA,fun i v hv=>⟨(hcell i v hv).2,h1 i v hv,h i v hv⟩⟩
theorem Rel.blk(R:Rel ren we ωe U O σ a w ω μ){id:Nat}{cs:List V}(h:((σ.b[id]?).getD .gone).cs?=some cs):yq σ.b id=some cs.length∧∃ arr:Array Value,(cs≠[]→∃ T fr,w.heap[μ id]?=some (.cells arr T fr))∧cs.length≤arr.size ∧
  ∀ (j:Nat) (c:V),cs[j]?=some c→∃ u,arr[j]?=some u∧u.oneCell'=true∧RepP ren w (wr U ω) c u:=by
 cases hb:σ.b[id]? with
 | none=>simp [hb,B.cs?] at h
 | some x=>
  cases x with
  | gone=>simp [hb,B.cs?] at h
  | live p cs'=>
   cases p with
   | false=>simp [hb,B.cs?] at h
   | true=>
    simp [hb,B.cs?] at h; subst h
    rcases R.bs id true _ hb with h0 | ⟨_,arr,T,g1,g2,g3⟩
    ·subst h0
     exact ⟨by simp [yq,hb],#[],fun h=>absurd rfl h,by simp,fun j c hc=>by simp at hc⟩
    refine ⟨by simp [yq,hb],arr,fun _=>⟨T,_,g1⟩,g2,fun j c hc=>?_⟩
    obtain ⟨u,e1,e2,e3,_⟩:=g3 j c hc
    exact ⟨u,e1,e2,e3 rfl⟩
  | fz cs'=>
   simp [hb,B.cs?] at h; subst h
   obtain ⟨_,arr,T,fr,g1,g2,g3⟩:=R.fs id _ hb
   exact ⟨by simp [yq,hb],arr,fun _=>⟨T,fr,g1⟩,g2,g3⟩
  | mp es=>simp [hb,B.cs?] at h
  | dead n=>simp [hb,B.cs?] at h
theorem Rel.view(R:Rel ren we ωe U O σ a w ω μ){l:Loc}{v:V}{u:Value}{sz:Nat}{es:Ls}(h:Rep ren (env U σ w ω μ) l v u)(hv:za0 σ.b v=some (.sl sz es)):zU9 ren w (wr U ω) sz es u:=by
 cases v with
 | sl sz' es'=>cases hv; exact RepP.reads h.sl_pure
 | gs sz' es'=>
  cases hv
  exact RepP.reads (Rep.sl_pure (h.dem R.hU l))
 | own id off len sz'=>
  simp only [za0,Wb,Wa,Wl,Wg,V.sl.injEq] at hv
  obtain ⟨cs,hcs,rfl,rfl⟩:=hv
  obtain ⟨hbl,arr,g1,g2,g3⟩:=R.blk hcs
  obtain ⟨c,L,A,e,hL,hl,hc,hA⟩:=h.own_inv
  have hL':yq σ.b id=some L:=hL
  rw [hbl] at hL'; cases hL'
  refine ⟨A,c,fun i=>arr.toList.getD (off+i) undef,μ id,off,by rw [xx]; exact e,by rw [xx]; exact hc.1,zaR _ _ _ (by simp; omega),?_,?_⟩
  ·intro hne
   rcases hA with ⟨h1,_⟩ | ⟨h1,_⟩
   ·exact h1
   ·subst h1; simp [zf] at hne
  ·intro i v hv
   rw [xZ,Wn] at hv
   split at hv
   ·rw [Wp] at hv
    obtain ⟨x,hx,h1,h2⟩:=g3 _ _ hv
    have hx':arr.toList[off+i]?=some x:=by simpa using hx
    have hd:arr.toList.getD (off+i) undef=x:=by rw [Ws,hx']; rfl
    show _=some (arr.toList.getD (off+i) undef)∧(arr.toList.getD (off+i) undef).oneCell'=true∧RepP ren w (wr U ω) v (arr.toList.getD (off+i) undef)
    rw [hd]
    obtain ⟨T,fr,g1⟩:=g1 (by rintro rfl; simp at hv)
    exact ⟨by rw [cell_of_row _ _ _ _ _ _ g1]; exact hx,h1,h2⟩
   ·cases hv
 | _=>simp [za0] at hv
theorem zR8(R:Rel ren we ωe U O σ a w ω μ){o:Oper}{op:BinOp}{t t':TypeId}{x y:Operand}(hop:o.op=.binOp op t x y t'){sx sy:Src}{t1 t2:TypeId}(h1:xj P ren t1 x=some sx)(h2:xj P ren t2 y=some sy)
  {v:V} (hp:zk σ (.bin op sx sy)=some v):zaT P ren (env U σ w ω μ) a o v:=by
 simp only [zk] at hp
 split at hp
 ·rename_i p q hx hy
  have ex:=R.opnd h1; rw [hx] at ex
  have ey:=R.opnd h2; rw [hy] at ey
  simp only [Wj] at hp
  obtain ⟨r,hr,rfl⟩:=hp
  obtain ⟨g1,g2,g3⟩:=zSx (P:=P) (w:=w) t x y hr
  refine ⟨r,?_,fun l=>.pure (.sc r g3)⟩
  show (execOp a.eval o).run P w=_
  simp [execOp,hop,ex.sc_eq.1,ey.sc_eq.1,g1,g2]
  rfl
 ·cases hp
theorem zG4(w:World)(n:Nat)(t e:TypeId)(A:Option Addr)(b c:Nat)(ht:P.underlying t=some (.slice e)):(Op.equalIn (n+1) t (.slice A b c) (.slice none 0 0)).run P w=.ok A.isNone w:=by
 unfold Op.equalIn
 cases A <;> simp [run_underlying ht]
theorem zWo(R:Rel ren we ωe U O σ a w ω μ){o:Oper}{op:BinOp}{t t' e:TypeId}{x:Operand}(hop:o.op=.binOp op t x (.const (.slice none 0 0)) t')(ht:P.underlying t=some (.slice e))(ho:op=.eql∨op=.neq){sx:Src}{t1:TypeId}(h1:xj P ren t1 x=some sx)
  {v:V} (hp:zk σ (.nilT (op==.neq) sx)=some v):zaT P ren (env U σ w ω μ) a o v:=by
 simp only [zk] at hp
 split at hp
 ·rename_i sz es hx
  cases hp
  have hr:=(R.opnd h1).dem R.hU (.slot 0 0)
  rw [hx] at hr
  obtain ⟨A,c,f,k,q,ex,hc,hsz,hA,hcell⟩:=(hr.sl_pure).sl_inv
  have hq:=zG4 (P:=P) w 9999 t e A es.length c ht
  have hy:a.eval (.const (.slice none 0 0))=.slice none 0 0:=rfl
  refine ⟨.bool (if (op==.neq) then !A.isNone else A.isNone),?_,fun l=>?_⟩
  ·show (execOp a.eval o).run P w=_
   rcases ho with rfl | rfl
   ·simp [execOp,hop,ex,hy,eqGuard,binOp,Op.equal,Op.maxDepth,hq]; rfl
   ·simp [execOp,hop,ex,hy,eqGuard,binOp,Op.equal,Op.maxDepth,hq]; rfl
  ·by_cases he:es=[]
   ·subst he
    exact .ub _
   ·have hA':=hA he
    have:es.isEmpty=false:=by cases es with | nil=>exact absurd rfl he | cons x l=>rfl
    rw [this,hA']
    rcases ho with rfl | rfl <;> exact .pure (.sc _ rfl)
 ·cases hp
theorem zXb(R:Rel ren we ωe U O σ a w ω μ){o:Oper}{op:BinOp}{t t':TypeId}{x y:Operand}(hop:o.op=.binOp op t x y t')(ht:P.underlying t=some .bool)(ho:op=.eql∨op=.neq){sx sy:Src}{t1 t2:TypeId}(h1:xj P ren t1 x=some sx)(h2:xj P ren t2 y=some sy)
  {v:V} (hp:zk σ (.eqB (op==.neq) sx sy)=some v):zaT P ren (env U σ w ω μ) a o v:=by
 simp only [zk] at hp
 split at hp
 ·rename_i p q hx hy
  cases hp
  have ex:=(R.opnd h1).bool hx
  have ey:=(R.opnd h2).bool hy
  have hq:=run_equalIn_bool' (P:=P) w 9999 t p q ht
  rcases ho with rfl | rfl
  ·refine ⟨.bool (p==q),?_,fun l=>.pure (.sc _ rfl)⟩
   show (execOp a.eval o).run P w=_
   simp [execOp,hop,ex,ey,eqGuard,binOp,Op.equal,Op.maxDepth,hq]
   rfl
  ·refine ⟨.bool (!(p==q)),?_,fun l=>.pure (.sc _ rfl)⟩
   show (execOp a.eval o).run P w=_
   simp [execOp,hop,ex,ey,eqGuard,binOp,Op.equal,Op.maxDepth,hq]
   rfl
 ·cases hp
theorem zZp(R:Rel ren we ωe U O σ a w ω μ){o:Oper}{op:UnOp}{t:TypeId}{x:Operand}(hop:o.op=.unOp op t x){sx:Src}{t1:TypeId}(h1:xj P ren t1 x=some sx)
  {v:V} (hp:zk σ (.un op sx)=some v):zaT P ren (env U σ w ω μ) a o v:=by
 simp only [zk] at hp
 split at hp
 ·rename_i p hx
  have ex:=R.opnd h1; rw [hx] at ex
  simp only [Wj] at hp
  obtain ⟨r,hr,rfl⟩:=hp
  obtain ⟨g2,g3⟩:=zUj (P:=P) (w:=w) hr
  refine ⟨r,?_,fun l=>.pure (.sc r g3)⟩
  show (execOp a.eval o).run P w=_
  simp [execOp,hop,ex.sc_eq.1,g2]
  rfl
 ·cases hp
theorem zWQ(R:Rel ren we ωe U O σ a w ω μ){o:Oper}{s d:TypeId}{x:Operand}(hop:o.op=.convert s d x){k' k:IntKind}(hs:P.underlying s=some (.int k'))(hd:P.underlying d=some (.int k)){sx:Src}{t1:TypeId}(h1:xj P ren t1 x=some sx)
  {v:V} (hp:zk σ (.conv k sx)=some v):zaT P ren (env U σ w ω μ) a o v:=by
 simp only [zk] at hp
 split at hp
 ·rename_i n hx
  cases hp
  obtain ⟨k2,ex⟩:=(R.opnd h1).int hx
  refine ⟨.int k (k.wrap n),?_,fun l=>.pure (.sc _ rfl)⟩
  show (execOp a.eval o).run P w=_
  simp [execOp,hop,ex,convert,run_underlying hs,run_underlying hd,Conv.intToInt]
  rfl
 ·cases hp
theorem zRo(ns:List Int)(s:ByteArray):ns.foldl (fun r n=>r.push (UInt8.ofNat n.toNat)) s=⟨s.data++(ns.map fun n=>UInt8.ofNat n.toNat).toArray⟩:=by
 induction ns generalizing s with
 | nil=>simp
 | cons n ns ih=>
  rw [List.foldl_cons,ih]
  congr 1
  apply WX
  simp [ByteArray.push]
theorem zu2:∀ {es:Ls} {l:List UInt8},zf6 es=some l→∃ ns:List Int,es.flatten=ns.map (fun n=>V.sc (.int .u8 n))∧l=ns.map (fun n=>UInt8.ofNat n.toNat)∧es.length=ns.length
 | [],l,h=>by cases h; exact ⟨[],rfl,rfl,rfl⟩
 | e::es,l,h=>by
  unfold zf6 at h
  split at h
  ·rename_i heq; cases heq
  ·rename_i n es' heq
   cases heq
   simp only [Wj] at h
   obtain ⟨l',h1,rfl⟩:=h
   obtain ⟨ns,e1,e2,e3⟩:=zu2 h1
   exact ⟨n::ns,by simp [e1],by simp [e2],by simp [e3]⟩
  ·cases h
theorem zUq(R:Rel ren we ωe U O σ a w ω μ){o:Oper}{s d e:TypeId}{x:Operand}(hop:o.op=.convert s d x)(hs:P.underlying s=some (.slice e))(hd:P.underlying d=some .string)(he:P.underlying e=some (.int .u8)){sx:Src}{t1:TypeId}(h1:xj P ren t1 x=some sx)
  {v:V} (hp:zk σ (.toStr sx)=some v):zaT P ren (env U σ w ω μ) a o v:=by
 simp only [zk] at hp
 split at hp
 ·rename_i es hv
  simp only [Wj] at hp
  obtain ⟨bs,hb,rfl⟩:=hp
  obtain ⟨ns,e1,e2,e3⟩:=zu2 hb
  obtain ⟨A,c,f,k,o',eu,hc,hsz,hA,hcell⟩:=R.view (R.opnd h1) hv
  refine ⟨.string ⟨bs.toArray⟩,?_,fun l=>.pure (.sc _ rfl)⟩
  show (execOp a.eval o).run P w=_
  have hr:(Conv.bytesToString (.slice A es.length c)).run P w=.ok (.string ⟨bs.toArray⟩) w:=by
   have key:∀ ad:Addr,A=some ad→(loadCells ad es.length).run P w=.ok (ns.map (Value.int .u8)).toArray w→(Conv.bytesToString (.slice A es.length c)).run P w=.ok (.string ⟨bs.toArray⟩) w:=by
    intro ad e h
    subst e
    rw [run_bytesToString w ad es.length c ns h,zRo]
    simp [e2]
   have hz:es=[]→∀ ad,(loadCells ad es.length).run P w=.ok (ns.map (Value.int .u8)).toArray w:=by
    intro he0 ad
    subst he0
    have:ns=[]:=by cases ns with | nil=>rfl | cons x xs=>simp at e3
    subst this
    rfl
   by_cases hne:es=[]
   ·cases A with
    | none=>
     subst hne
     have:ns=[]:=by cases ns with | nil=>rfl | cons x xs=>simp at e3
     subst this
     simp [e2,Conv.bytesToString]
     rfl
    | some ad=>exact key ad rfl (hz hne ad)
   ·refine key _ (hA hne) ?_
    have hl:=run_loadCells_list (P:=P) w ⟨k,o',none⟩ (ns.map (Value.int .u8)) (fun j u hu=>by
     rw [zcV]
     rw [WJ] at hu
     cases hn:ns[j]? with
     | none=>simp [hn] at hu
     | some n=>
      simp [hn] at hu
      obtain ⟨g1,g2,g3⟩:=hcell j (.sc (.int .u8 n)) (by rw [e1,WJ,hn]; rfl)
      have:=(Rep.pure (E:=env U σ w ω μ) (l:=.slot 0 0) g3).sc_eq.1
      rw [g1,this,← hu])
    simpa [e3] using hl
  simp [execOp,hop,eu,run_convert_bytes_string w s d e _ _ _ hs he hd,hr]
  rfl
 ·cases hp
theorem zIL(R:Rel ren we ωe U O σ a w ω μ){x:Operand}{sx:Src}{t1:TypeId}(h1:xj P ren t1 x=some sx){es:Ls}(hv:za0 σ.b (sx.get σ)=some (.sl 1 es)){bs:List UInt8}(hb:zf6 es=some bs):(Extern.Bytes.bytesOf (a.eval x)).run P w=.ok ⟨bs.toArray⟩ w:=by
 obtain ⟨ns,e1,e2,e3⟩:=zu2 hb
 obtain ⟨A,c,f,k,o',eu,hc,hsz,hA,hcell⟩:=R.view (R.opnd h1) hv
 rw [eu]
 by_cases hne:es=[]
 ·have:ns=[]:=by subst hne; cases ns with | nil=>rfl | cons x xs=>simp at e3
  subst this
  subst hne
  cases A with
  | none=>simp [e2,Extern.Bytes.bytesOf]; rfl
  | some ad=>simp [e2,Extern.Bytes.bytesOf,Extern.Bytes.loadBytes]; rfl
 ·rw [hA hne]
  have hl:=Lib.run_loadBytesX (P:=P) w ns ⟨k,o',none⟩ .empty (fun j n hn=>by
   rw [zcV]
   obtain ⟨g1,g2,g3⟩:=hcell j (.sc (.int .u8 n)) (by rw [e1,WJ,hn]; rfl)
   have:=(Rep.pure (E:=env U σ w ω μ) (l:=.slot 0 0) g3).sc_eq.1
   rw [g1,this])
  show (Extern.Bytes.loadBytes _ es.length .empty).run P w=_
  rw [e3,hl,e2]
  have:Lib.bytesOf ns=ns.map fun n=>UInt8.ofNat n.toNat:=rfl
  rw [this]
  congr 2
  simp
theorem zTv{fn:Func}(h:fn.name="internal/bytealg.Compare"):Extern.find fn=some Extern.BytealgCompare.compare:=by
 have e1:(Extern.allGenericRows.lookup "internal/bytealg.Compare").isNone=true:=by kernel_rfl
 have e2:(Extern.allTypedRows.lookup "internal/bytealg.Compare").isNone=true:=by kernel_rfl
 have e3:Extern.allRows.lookup "internal/bytealg.Compare"=some Extern.BytealgCompare.compare:=by kernel_rfl
 rw [WH] at e1 e2
 simp [Extern.find,h,e1,e2,e3]
theorem zWR(R:Rel ren we ωe U O σ a w ω μ){o:Oper}{f:FuncId}{args:Array Operand}{ats:Array TypeId}(hop:o.op=.call { callee:=.value (.func f),args:=args,argTypes:=ats })(hf:zRl P f=true){x y:Operand}(hargs:args.toList=[x,y]){sx sy:Src}{t1 t2:TypeId}(h1:xj P ren t1 x=some sx)(h2:xj P ren t2 y=some sy)
  {v:V} (hp:zk σ (.cmpB sx sy)=some v):zaT P ren (env U σ w ω μ) a o v:=by
 simp only [zk] at hp
 split at hp
 ·rename_i es fs hv1 hv2
  split at hp
  ·rename_i b1 b2 hb1 hb2
   cases hp
   refine ⟨.int .i64 (Lib.compareBytes b1 b2),?_,fun l=>.pure (.sc _ rfl)⟩
   show (execOp a.eval o).run P w=.ok _ w
   unfold zRl at hf
   cases hfn:P.funcs[f]? with
   | none=>simp [hfn] at hf
   | some fn=>
    simp only [hfn,Wh,beq_iff_eq] at hf
    obtain ⟨⟨hb,hname⟩,hnx⟩:=hf
    have ef:a.eval (.func f)=.func (.func f) #[] #[]:=rfl
    simp only [execOp,hop,resolve,ef,Deferred.ofValue,Sem.run_bind,Sem.run_pure,WD,invoke]
    rw [show #[]++args.map a.eval++#[]=#[a.eval x,a.eval y] by apply WX; simp [hargs]]
    rw [run_callFunc_extern hfn (by rw [hname]; rfl) hb (WH.1 hnx) (zTv hname)]
    rw [show Extern.BytealgCompare.compare #[a.eval x,a.eval y]=(do pure (goInt (Extern.BytealgCompare.cmp (← Extern.Bytes.bytesOf (a.eval x)) (← Extern.Bytes.bytesOf (a.eval y)))):Sem Value) from rfl]
    simp only [Sem.run_bind,zIL R h1 hv1 hb1,zIL R h2 hv2 hb2,WD,Sem.run_pure,Lib.cmp_eq,goInt]
  ·cases hp
 ·cases hp
def zIZ:Array Value→Sem Value:=fun args=>do
 let (x,y,b) ← Extern.MathBitsCarry.three "Sub64" args
 pure (Extern.MathBitsCarry.pair ((x+Extern.MathBitsCarry.m64-y-b) % Extern.MathBitsCarry.m64) (if x<y+b then 1 else 0))
def zUH(s:Bool):Array Value→Sem Value:=if s then zIZ else add64Entry
theorem zUe{fn:Func}{s:Bool}(h:fn.name=if s then "math/bits.Sub64" else "math/bits.Add64"):Extern.find fn=some (zUH s):=by
 have e1:(Extern.allGenericRows.lookup "math/bits.Add64").isNone=true:=by kernel_rfl
 have e2:(Extern.allTypedRows.lookup "math/bits.Add64").isNone=true:=by kernel_rfl
 have e3:Extern.allRows.lookup "math/bits.Add64"=some add64Entry:=by kernel_rfl
 have f1:(Extern.allGenericRows.lookup "math/bits.Sub64").isNone=true:=by kernel_rfl
 have f2:(Extern.allTypedRows.lookup "math/bits.Sub64").isNone=true:=by kernel_rfl
 have f3:Extern.allRows.lookup "math/bits.Sub64"=some zIZ:=by kernel_rfl
 rw [WH] at e1 e2 f1 f2
 cases s <;> simp [Extern.find,h,e1,e2,e3,f1,f2,f3,zUH]
theorem zVR{w:World}(s:Bool)(x y c:Int)(hc:c=0∨c=1):(zUH s #[.int .u64 x,.int .u64 y,.int .u64 c]).run P w=.ok (.tuple #[.int .u64 (zJB s x y c),.int .u64 (zKd s x y c)]) w:=by
 rcases hc with rfl | rfl <;> cases s <;> rfl
theorem zYb(R:Rel ren we ωe U O σ a w ω μ){o:Oper}{f:FuncId}{args:Array Operand}{ats:Array TypeId}(hop:o.op=.call { callee:=.value (.func f),args:=args,argTypes:=ats }){s:Bool}(hf:zMf P f=some s){x y z:Operand}(hargs:args.toList=[x,y,z]){sx sy sz:Src}{t1 t2 t3:TypeId}(h1:xj P ren t1 x=some sx)(h2:xj P ren t2 y=some sy)(h3:xj P ren t3 z=some sz)
  {v:V} (hp:zk σ (.adc s sx sy sz)=some v):zaT P ren (env U σ w ω μ) a o v:=by
 simp only [zk] at hp
 split at hp
 ·rename_i x0 y0 z0 hx hy hz
  split at hp
  ·rename_i hc
   cases hp
   have ex:=R.opnd h1; rw [hx] at ex; have ex:=ex.sc_eq.1
   have ey:=R.opnd h2; rw [hy] at ey; have ey:=ey.sc_eq.1
   have ez:=R.opnd h3; rw [hz] at ez; have ez:=ez.sc_eq.1
   refine ⟨.tuple #[.int .u64 (zJB s x0 y0 z0),.int .u64 (zKd s x0 y0 z0)],?_,fun l=>.tup _ [.int .u64 (zJB s x0 y0 z0),.int .u64 (zKd s x0 y0 z0)] rfl (fun j v u hv hu=>?_)⟩
   ·show (execOp a.eval o).run P w=.ok _ w
    unfold zMf at hf
    cases hfn:P.funcs[f]? with
    | none=>simp [hfn] at hf
    | some fn=>
     simp only [hfn] at hf
     split at hf
     ·rename_i hb
      simp only [Wh] at hb
      obtain ⟨hb,hnx⟩:=hb
      have hname:fn.name=if s then "math/bits.Sub64" else "math/bits.Add64":=by
       split at hf
       ·rename_i hn; cases hf; simpa using hn
       ·split at hf
        ·rename_i hn; cases hf; simpa using hn
        ·cases hf
      have ef:a.eval (.func f)=.func (.func f) #[] #[]:=rfl
      simp only [execOp,hop,resolve,ef,Deferred.ofValue,Sem.run_bind,Sem.run_pure,WD,invoke]
      rw [show #[]++args.map a.eval++#[]=#[a.eval x,a.eval y,a.eval z] by apply WX; simp [hargs]]
      rw [run_callFunc_extern hfn (by rw [hname]; cases s <;> rfl) hb (WH.1 hnx) (zUe hname)]
      simp only [ex,ey,ez,zVR s _ _ _ hc,WD,Sem.run_pure]
     ·cases hf
   ·match j,hv,hu with
    | 0,hv,hu=>cases hv; cases hu; exact .pure (.sc _ rfl)
    | 1,hv,hu=>cases hv; cases hu; exact .pure (.sc _ rfl)
    | j+2,hv,hu=>simp at hv
  ·cases hp
 ·cases hp
theorem zN4(R:Rel ren we ωe U O σ a w ω μ){o:Oper}{t:TypeId}{x:Operand}{i:Nat}(hop:o.op=.fieldAddr t x i){fs:Array Field}{f:Field}{n:Nat}(ht:P.underlying t=some (.struct fs))(hf:fs[i]?=some f)(hn:xy P f.type=some n)(hn0:n≠0)
  {sx:Src} {t1:TypeId} (h1:xj P ren t1 x=some sx) {v:V} (hp:zk σ (.fieldAddr f.offset sx)=some v):zaT P ren (env U σ w ω μ) a o v:=by
 have hr:=R.opnd h1
 have run:∀ k q,a.eval x=.pointer (some ⟨k,q,none⟩)→(execOp a.eval o).run P w=.ok (.value (.pointer (some ⟨k,q+f.offset,none⟩))) w:=by
  intro k q e
  simp [execOp,hop,e,Instr.fieldAt,run_underlying ht,hf,Instr.sureAddr,fieldPlace,y7 hn,hn0,zcV]
 simp only [zk] at hp
 split at hp
 ·rename_i id off hg
  cases hp
  rw [hg] at hr
  obtain ⟨L,hL,e⟩:=hr.ptr_inv
  exact ⟨_,run _ _ e,fun l=>.ptr id _ L hL⟩
 ·rename_i m cs hg
  split at hp
  ·cases hp
   rw [hg] at hr
   obtain ⟨k,q,g,e,hl,hcell,h1,h⟩:=hr.fp_inv
   refine ⟨_,run _ _ e,fun l=>.fp _ _ k (q+f.offset) (fun i=>g (f.offset+i)) (by simp [hl]) (fun i v hv=>?_) (fun i v hv=>?_) (fun i v hv=>?_)⟩ <;> rw [Wp] at hv
   ·have:=hcell _ _ hv; rw [WM]; exact this
   ·exact h1 _ _ hv
   ·exact h _ _ hv
  ·cases hp
 ·cases hp
theorem zqA{t:TypeId}{b:Bool}{n:Nat}(h1:z9 P t=some b)(h2:xy P t=some n)(us:List Value)(off:Nat)(w:World):(part t us.toArray off).run P w=if b then .ok (.agg ((us.drop off).take n).toArray) w else match us[off]? with | some v=>.ok v w | none=>(stuck "part: no such cell":Sem Value).run P w:=by
 unfold part
 rw [Sem.run_bind,zDs h1]
 cases b
 ·simp only [WD,WP,if_false]
  have:us.toArray[off]?=us[off]?:=by simp
  rw [this]
  cases us[off]? <;> rfl
 ·simp [y7 h2,List.drop_take]
theorem zUm(R:Rel ren we ωe U O σ a w ω μ){o:Oper}{t:TypeId}{x:Operand}{i:Nat}(hop:o.op=.field t x i){fs:Array Field}{f:Field}{n:Nat}{b:Bool}(ht:P.underlying t=some (.struct fs))(hf:fs[i]?=some f)(hb:z9 P f.type=some b)(hn:xy P f.type=some n)
  {sx:Src} {t1:TypeId} (h1:xj P ren t1 x=some sx) {v:V} (hp:zk σ (.field b f.offset n sx)=some v):zaT P ren (env U σ w ω μ) a o v:=by
 have hr:=R.opnd h1
 simp only [zk] at hp
 split at hp
 ·rename_i cs hg
  rw [hg] at hr
  obtain ⟨us,eu,hc⟩:=CellsP.of_agg hr.agg_eq
  cases b with
  | true=>
   simp at hp; subst hp
   refine ⟨.agg ((us.drop f.offset).take n).toArray,?_,fun l=>.pure (hc.dropTake f.offset n).agg⟩
   show (execOp a.eval o).run P w=_
   simp [execOp,hop,eu,Instr.field,run_underlying ht,hf,asAgg,zqA hb hn]
   rfl
  | false=>
   simp at hp
   obtain ⟨u,g1,g2,g3⟩:=hc.2 _ _ hp
   refine ⟨u,?_,fun l=>.pure g3⟩
   show (execOp a.eval o).run P w=_
   simp [execOp,hop,eu,Instr.field,run_underlying ht,hf,asAgg,zqA hb hn,g1]
   rfl
 ·rename_i cs hg
  rw [hg] at hr
  obtain ⟨us,eu,hl,hc,h1⟩:=hr.st_inv
  cases b with
  | true=>simp at hp
  | false=>
   simp at hp
   have hlt:f.offset<us.length:=by rw [← hl]; exact (Wi.1 hp).1
   have g1:us[f.offset]?=some us[f.offset]:=Wc hlt
   refine ⟨us[f.offset],?_,fun l=>?_⟩
   ·show (execOp a.eval o).run P w=_
    simp [execOp,hop,eu,Instr.field,run_underlying ht,hf,asAgg,zqA hb hn,g1]
    rfl
   ·rcases hc _ _ _ hp g1 with h | h
    ·exact .pure h
    ·exact h.rep l
 ·cases hp
theorem zSX(R:Rel ren we ωe U O σ a w ω μ){o:Oper}{t:TypeId}{x i:Operand}(hop:o.op=.index t x i){len:Nat}{e:TypeId}{n:Nat}{b:Bool}(ht:P.underlying t=some (.array len e))(hb:z9 P e=some b)(hn:xy P e=some n)
  {sx si:Src} {t1 t2:TypeId} (h1:xj P ren t1 x=some sx) (h2:xj P ren t2 i=some si) {v:V} (hp:zk σ (.indexA b len n sx si)=some v):zaT P ren (env U σ w ω μ) a o v:=by
 have hr:=R.opnd h1
 simp only [zk] at hp
 split at hp
 ·rename_i j hj
  obtain ⟨k,ei⟩:=(R.opnd h2).int hj
  split at hp
  ·rename_i hb'
   split at hp
   ·rename_i cs hg
    rw [hg] at hr
    obtain ⟨us,eu,hc⟩:=CellsP.of_agg hr.agg_eq
    cases b with
    | true=>
     simp at hp; subst hp
     refine ⟨.agg ((us.drop (j.toNat*n)).take n).toArray,?_,fun l=>.pure (hc.dropTake _ n).agg⟩
     show (execOp a.eval o).run P w=_
     simp [execOp,hop,eu,ei,Instr.index,asIntOf,run_underlying ht,hb',y7 hn,zqA hb hn]
     rfl
    | false=>
     simp at hp
     obtain ⟨u,g1,g2,g3⟩:=hc.2 _ _ hp
     refine ⟨u,?_,fun l=>.pure g3⟩
     show (execOp a.eval o).run P w=_
     simp [execOp,hop,eu,ei,Instr.index,asIntOf,run_underlying ht,hb',y7 hn,zqA hb hn,g1]
     rfl
   ·cases hp
  ·cases hp
 ·cases hp
end
section
variable {ren:Rn} {we:World} {ωe:Nat→Ow} {U:Nat→Nat→Prop} {O:Nat→Prop} {σ:St} {a:Act} {w:World} {ω:Nat→Ow} {μ:Nat→Nat} {P:Program}
theorem zoj(R:Rel ren we ωe U O σ a w ω μ){ty:TypeId}{x:Option Operand}{s:Option Src}(h:zds P ren ty x=some s){d most n:Nat}(hb:zpq σ s d most=some n)(code:BoundsCode)(most':Nat)(hm:most≤most') :
  (x=none∧s=none∧n=d)∨(∃ y v,x=some y∧s.isSome=true∧a.eval y=v∧n≤most∧(Instr.sliceBound v most' code).run P w=.ok n w):=by
 cases x with
 | none=>cases h; cases hb; exact .inl ⟨rfl,rfl,rfl⟩
 | some y=>
  cases hc:xj P ren ty y with
  | none=>simp [zds,hc] at h
  | some s'=>
   simp [zds,hc] at h; subst h
   simp only [zpq] at hb
   split at hb
   ·rename_i i hi
    split at hb
    ·rename_i hr
     cases hb
     obtain ⟨k,e⟩:=(R.opnd hc).int hi
     refine .inr ⟨y,_,rfl,rfl,rfl,by omega,?_⟩
     rw [e]
     exact run_sliceBound w k i most' code hr.1 (by omega)
    ·cases hb
   ·cases hb
theorem zpg(R:Rel ren we ωe U O σ a w ω μ){ty:TypeId}{lo hi mx:Option Operand}{slo shi smx:Option Src}(h1:zds P ren ty lo=some slo)(h2:zds P ren ty hi=some shi)(h3:zds P ren ty mx=some smx)(hmx:(mx.isSome&&hi.isNone)=false)
  {len l h m:Nat} (hb:zic σ len slo shi smx=some (l,h,m)) (isS:Bool) (cap:Nat) (hc:len≤cap) :
  ∃ m',(Instr.sliceBounds isS len cap (lo.map a.eval) (hi.map a.eval) (mx.map a.eval)).run P w=.ok (l,h,m') w∧l≤h∧h≤m∧m≤len∧h≤m'∧m'≤cap∧(smx.isSome=true→m'=m)∧(smx.isSome=false→m'=cap∧m=len):=by
 simp only [zic,Wb,Wa,Wl,Wg,Prod.mk.injEq] at hb
 obtain ⟨m0,hm,h0,hh,l0,hl,rfl,rfl,rfl⟩:=hb
 rcases zoj R h3 hm (if isS then .slice3Acap else .slice3Alen) cap hc with ⟨rfl,rfl,rfl⟩ | ⟨my,mv,rfl,hms,rfl,hml,hmr⟩
 ·rcases zoj R h2 hh (if isS then .sliceAcap else .sliceAlen) cap hc with ⟨rfl,rfl,rfl⟩ | ⟨hy,hv,rfl,hhs,rfl,hhl,hhr⟩
  ·rcases zoj R h1 hl .sliceB _ (Wq _) with ⟨rfl,rfl,rfl⟩ | ⟨ly,lv,rfl,hls,rfl,hll,hlr⟩
   ·exact ⟨cap,by simp [Instr.sliceBounds],by omega,by omega,by omega,by omega,by omega,by simp,by simp⟩
   ·exact ⟨cap,by simp [Instr.sliceBounds,hlr],by omega,by omega,by omega,by omega,by omega,by simp,by simp⟩
  ·rcases zoj R h1 hl .sliceB h0 (Wq _) with ⟨rfl,rfl,rfl⟩ | ⟨ly,lv,rfl,hls,rfl,hll,hlr⟩
   ·exact ⟨cap,by simp [Instr.sliceBounds,hhr],by omega,by omega,by omega,by omega,by omega,by simp,by simp⟩
   ·exact ⟨cap,by simp [Instr.sliceBounds,hhr,hlr],by omega,by omega,by omega,by omega,by omega,by simp,by simp⟩
 ·rcases zoj R h2 hh .slice3B m0 (Wq _) with ⟨rfl,rfl,rfl⟩ | ⟨hy,hv,rfl,hhs,rfl,hhl,hhr⟩
  ·simp at hmx
  ·rcases zoj R h1 hl .slice3C h0 (Wq _) with ⟨rfl,rfl,rfl⟩ | ⟨ly,lv,rfl,hls,rfl,hll,hlr⟩
   ·exact ⟨m0,by simp [Instr.sliceBounds,hmr,hhr],by omega,by omega,by omega,by omega,by omega,by simp,by simp [hms]⟩
   ·exact ⟨m0,by simp [Instr.sliceBounds,hmr,hhr,hlr],by omega,by omega,by omega,by omega,by omega,by simp,by simp [hms]⟩
theorem zSR(R:Rel ren we ωe U O σ a w ω μ){o:Oper}{t:TypeId}{x:Operand}{lo hi mx:Option Operand}(hop:o.op=.slice t x lo hi mx)(hmx:(mx.isSome&&hi.isNone)=false){e:TypeId}{sz:Nat}(ht:P.underlying t=some (.slice e))(hn:xy P e=some sz)
  {sx:Src} {slo shi smx:Option Src} {t1 t2:TypeId} (h0:xj P ren t1 x=some sx) (h1:zds P ren t2 lo=some slo) (h2:zds P ren t2 hi=some shi) (h3:zds P ren t2 mx=some smx)
  {v:V} (hp:zk σ (.sliceS sz sx slo shi smx)=some v):zaT P ren (env U σ w ω μ) a o v:=by
 have hr:=(R.opnd h0).dem R.hU (.slot 0 0)
 have run:∀ A len c l h m',a.eval x=.slice A len c→(Instr.sliceBounds true len c (lo.map a.eval) (hi.map a.eval) (mx.map a.eval)).run P w=.ok (l,h,m') w →
   (execOp a.eval o).run P w=.ok (.value (.slice (if m'=l then A else A.map (·.add (l*sz))) (h-l) (m'-l))) w:=by
  intro A len c l h m' e1 e2
  simp [execOp,hop,e1,Instr.sliceAt,Instr.slice,run_underlying ht,y7 hn,e2]
 simp only [zk] at hp
 split at hp
 ·rename_i sz' es hg
  rw [hg] at hr
  simp only [Wb,Wa] at hp
  obtain ⟨⟨l,h,m⟩,hb,hp⟩:=hp
  simp only at hp
  split at hp
  ·rename_i hs
   cases hp
   subst hs
   obtain ⟨A,c,f,k,q,eu,hc,hsz,hA,hcell,g1,g2⟩:=hr.sl_pure.sl_inv
   obtain ⟨m',hrun,b1,b2,b3,b4,b5,b6,b7⟩:=zpg R h1 h2 h3 hmx hb true c hc
   refine ⟨_,run A es.length c l h m' eu hrun,fun lo'=>?_⟩
   split
   ·rename_i hm
    have:=b6 hm.1
    obtain rfl:m'=l:=by omega
    obtain rfl:h=m':=by omega
    simp only [if_pos,WS]
    exact .fr0 _ _
   ·have hlen:((es.drop l).take (h-l)).length=h-l:=by simp; omega
    have key:=RepP.sl (ren:=ren) (w:=w) (Wr:=wr U ω) sz ((es.drop l).take (h-l)) (if m'=l then A else A.map (·.add (l*sz))) (m'-l) (fun i=>f (l*sz+i)) (by omega)
     (fun e he=>hsz e (WU (WV he))) k (q+l*sz)
     (fun hne=>by
      have h1:0<h-l:=by rw [← hlen]; exact WY.2 hne
      have h2:es≠[]:=by rintro rfl; simp at hne
      rw [if_neg (by omega),hA h2]
      simp [zcV])
     (fun i v hv=>by have:=hcell _ _ (zzr hsz _ _ _ hv); rw [WM]; exact this)
     (fun i v hv=>g1 _ _ (zzr hsz _ _ _ hv)) (fun i v hv=>g2 _ _ (zzr hsz _ _ _ hv))
    rw [hlen] at key
    exact .pure key
  ·cases hp
 ·rename_i id off len sz' hg
  rw [hg] at hr
  simp only [Wb,Wa] at hp
  obtain ⟨⟨l,h,m⟩,hb,hp⟩:=hp
  simp only at hp
  split at hp
  ·rename_i hs
   cases hp
   subst hs
   obtain ⟨c,L,A,eu,hL,hl,hc,hA⟩:=hr.own_inv
   obtain ⟨hc,hz⟩:=hc
   obtain ⟨m',hrun,b1,b2,b3,b4,b5,b6,b7⟩:=zpg R h1 h2 h3 hmx hb true c hc
   refine ⟨_,run A len c l h m' eu hrun,fun lo'=>?_⟩
   cases hsm:smx.isSome with
   | true=>
    have hmm:=b6 hsm
    simp only [if_true]
    by_cases hml:m=l
    ·rw [if_pos hml]
     obtain rfl:m'=l:=by omega
     obtain rfl:h=m':=by omega
     simp only [if_pos,WS]
     exact .fr0 _ _
    ·rw [if_neg hml]; exact .junk
   | false=>
   simp only [WP,if_false]
   have hmul:l*sz+(h-l)*sz=h*sz:=by rw [← WG]; congr 1; omega
   have hle:h*sz≤len*sz:=WI sz (by omega)
   refine .own id (off+l*sz) (h-l) sz (m'-l) L _ hL (by omega) ⟨by omega,fun h0=>by rcases hz h0 with q | q; exact .inl q; exact .inr (by omega)⟩ ?_
   rcases hA with ⟨e1,e2⟩ | ⟨e1,e2⟩
   ·by_cases hml:m'=l
    ·exact .inr ⟨by omega,by omega⟩
    ·refine .inl ⟨by rw [if_neg hml,e1]; simp [zcV],?_⟩
     have hmul2:l*sz+(m'-l)*sz=m'*sz:=by rw [← WG]; congr 1; omega
     have hle2:m'*sz≤c*sz:=WI sz (by omega)
     omega
   ·exact .inr ⟨by omega,by omega⟩
  ·cases hp
 ·rename_i id off len cap sz' hg
  rw [hg] at hr
  split at hp
  ·rename_i hcd
   obtain ⟨hhi,hmn⟩:=hcd
   obtain rfl:smx=none:=by cases smx <;> simp_all
   simp only [Wb,Wa] at hp
   obtain ⟨⟨l,h,m⟩,hb,hp⟩:=hp
   simp only at hp
   split at hp
   ·rename_i hs
    cases hp
    subst hs
    obtain ⟨c,L,A,eu,hL,hl,hc,hA⟩:=hr.cut_inv
    obtain ⟨hlc,hc,hz⟩:=hc
    obtain ⟨m',hrun,b1,b2,b3,b4,b5,b6,b7⟩:=zpg R h1 h2 h3 hmx hb true c hc
    have hrun':(Instr.sliceBounds true len c (lo.map a.eval) (hi.map a.eval) (mx.map a.eval)).run P w=.ok (l,h,m') w:=by
     cases hi with
     | none=>cases h2; simp at hhi
     | some y=>
      cases mx with
      | none=>exact hrun
      | some y=>cases hq:xj P ren t2 y <;> simp [zds,hq] at h3
    refine ⟨_,run A len c l h m' eu hrun',fun lo'=>?_⟩
    have hmul:l*sz+(h-l)*sz=h*sz:=by rw [← WG]; congr 1; omega
    have hle:h*sz≤cap*sz:=WI sz (by omega)
    refine .own id (off+l*sz) (h-l) sz (m'-l) L _ hL (by omega) ⟨by omega,fun h0=>by rcases hz h0 with q | q; exact .inl q; exact .inr (by omega)⟩ ?_
    rcases hA with ⟨e1,e2⟩ | ⟨e1,e2⟩
    ·by_cases hml:m'=l
     ·exact .inr ⟨by omega,by omega⟩
     ·refine .inl ⟨by rw [if_neg hml,e1]; simp [zcV],?_⟩
      have hmul2:l*sz+(m'-l)*sz=m'*sz:=by rw [← WG]; congr 1; omega
      have hle2:m'*sz≤c*sz:=WI sz (by omega)
      omega
    ·exact .inr ⟨by omega,by omega⟩
   ·cases hp
  ·cases hp
 ·cases hp
theorem zTp(R:Rel ren we ωe U O σ a w ω μ){o:Oper}{t:TypeId}{x:Operand}{hi:Option Operand}(hop:o.op=.slice t x none hi none){e:TypeId}{sz:Nat}(ht:P.underlying t=some (.slice e))(hn:xy P e=some sz)
  {sx:Src} {shi:Option Src} {t1 t2:TypeId} (h0:xj P ren t1 x=some sx) (h2:zds P ren t2 hi=some shi)
  {v:V} (hp:zk σ (.sliceC sz sx shi)=some v):zaT P ren (env U σ w ω μ) a o v:=by
 have hr:=R.opnd h0
 simp only [zk] at hp
 split at hp
 ·rename_i id off len sz' hg
  rw [hg] at hr
  simp only [Wb,Wa] at hp
  obtain ⟨⟨l,h,m⟩,hb,hp⟩:=hp
  simp only at hp
  split at hp
  ·rename_i hs
   obtain ⟨rfl,_⟩:=hs
   cases hp
   obtain ⟨c,L,A,eu,hL,hl,hc,hA⟩:=hr.own_inv
   obtain ⟨hc,hz⟩:=hc
   obtain ⟨m',hrun,b1,b2,b3,b4,b5,b6,b7⟩:=zpg (P:=P) (lo:=none) (mx:=none) R (show zds P ren t2 none=some none from rfl) h2 (show zds P ren t2 none=some none from rfl) rfl hb true c hc
   have hm':=(b7 rfl).1
   have hl0:l=0:=by
    simp only [zic,zpq,Wb,Wa,Wl,Wg,Prod.mk.injEq] at hb
    obtain ⟨_,_,_,_,_,e,rfl,_⟩:=hb
    exact e.symm
   subst hl0
   have run:(execOp a.eval o).run P w=.ok (.value (.slice (if m'=0 then A else A.map (·.add (0*sz))) (h-0) (m'-0))) w:=by
    simp [execOp,hop,eu,Instr.sliceAt,Instr.slice,run_underlying ht,y7 hn] at hrun ⊢
    simp [hrun]
   refine ⟨_,run,fun lo'=>?_⟩
   refine .cut id off h len sz (m'-0) L _ hL hl ⟨by omega,by omega,fun h0=>by rcases hz h0 with q | q; exact .inl q; exact .inr (by omega)⟩ ?_
   rcases hA with ⟨e1,e2⟩ | ⟨e1,e2⟩
   ·by_cases hml:m'=0
    ·exact .inr ⟨by omega,by omega⟩
    ·refine .inl ⟨by rw [if_neg hml,e1]; simp [zcV],?_⟩
     rw [Nat.sub_zero,hm']; exact e2
   ·exact .inr ⟨by omega,by omega⟩
  ·cases hp
 ·cases hp
theorem Rel.live_size(R:Rel ren we ωe U O σ a w ω μ){id:Nat}{p:Bool}{cs:List V}(h:σ.b[id]?=some (.live p cs)):yq σ.b id=some cs.length∧cs.length≤zA w (μ id):=by
 rcases R.bs id p cs h with h0 | ⟨_,arr,T,g1,g2,_⟩
 ·subst h0; exact ⟨by simp [yq,h],by simp⟩
 ·exact ⟨by simp [yq,h],by simp [zA,g1,g2]⟩
theorem zSr(R:Rel ren we ωe U O σ a w ω μ){o:Oper}{t:TypeId}{x:Operand}{lo hi mx:Option Operand}(hop:o.op=.slice t x lo hi mx)(hmx:(mx.isSome&&hi.isNone)=false){e:TypeId}{n sz:Nat}(ht:P.underlying t=some (.array n e))(hn:xy P e=some sz)(hpos:0<sz)
  {sx:Src} {slo shi smx:Option Src} {t1 t2:TypeId} (h0:xj P ren t1 x=some sx) (h1:zds P ren t2 lo=some slo) (h2:zds P ren t2 hi=some shi) (h3:zds P ren t2 mx=some smx)
  {v:V} (hp:zk σ (.sliceA n sz sx slo shi smx)=some v):zaT P ren (env U σ w ω μ) a o v:=by
 have hr:=R.opnd h0
 simp only [zk,Wb,Wa] at hp
 obtain ⟨⟨l,h,m⟩,hb,hp⟩:=hp
 simp only at hp
 obtain ⟨m',hrun,b1,b2,b3,b4,b5,b6,b7⟩:=zpg R h1 h2 h3 hmx hb false n (Wq n)
 have hmm:m'=m:=by
  cases hs:smx.isSome with
  | true=>exact b6 hs
  | false=>have:=b7 hs; omega
 subst hmm
 have run:∀ k q,a.eval x=.pointer (some ⟨k,q,none⟩)→(execOp a.eval o).run P w=.ok (.value (.slice (some (if m'=l then ⟨k,q,none⟩ else ⟨k,q+l*sz,none⟩)) (h-l) (m'-l))) w:=by
  intro k q e1
  simp [execOp,hop,e1,Instr.sliceAt,run_underlying ht,y7 hn,hrun,Instr.sureAddr,zcV]
 have hmul:l*sz+(h-l)*sz=h*sz:=by rw [← WG]; congr 1; omega
 have hle:h*sz≤n*sz:=WI sz (by omega)
 have hmul2:l*sz+(m'-l)*sz=m'*sz:=by rw [← WG]; congr 1; omega
 have hle2:m'*sz≤n*sz:=WI sz (by omega)
 have own:∀ id off L,sx.get σ=.ptr id off→yq σ.b id=some L→L≤zA w (μ id)→off+n*sz≤L→(if m'=l then V.gs sz [] else .own id (off+l*sz) (h-l) sz)=v→zaT P ren (env U σ w ω μ) a o v:=by
  intro id off L e1 e2 e3 e4 e5
  rw [e1] at hr
  obtain ⟨_,_,ex⟩:=hr.ptr_inv
  refine ⟨_,run _ _ ex,fun l'=>?_⟩
  subst e5
  by_cases hml:m'=l
  ·obtain rfl:h=l:=by omega
   subst hml
   simp only [if_true,WS]
   exact .pure (.nil _ _)
  ·rw [if_neg hml,if_neg hml]
   have hn0:sz≤n*sz:=Nat.le_mul_of_pos_left sz (by omega)
   exact .own id (off+l*sz) (h-l) sz (m'-l) L _ e2 (by omega) ⟨by omega,fun h0=>by omega⟩ (.inl ⟨rfl,by show _≤zA w (μ id); omega⟩)
 split at hp
 ·rename_i id off hg
  split at hp
  ·rename_i p cs hbk
   split at hp
   ·rename_i hfit
    obtain ⟨q1,q2⟩:=R.live_size hbk
    exact own id off _ hg q1 q2 hfit (by simpa using hp)
   ·cases hp
  ·rename_i cs hbk
   split at hp
   ·rename_i hfit
    rw [hg] at hr
    obtain ⟨_,_,ex⟩:=hr.ptr_inv
    refine ⟨_,run _ _ ex,fun l'=>?_⟩
    have e5:(if m'=l then V.gs sz [] else .sl sz (zf sz (h-l) (cs.drop (off+l*sz))))=v:=by simpa using hp
    subst e5
    by_cases hml:m'=l
    ·obtain rfl:h=l:=by omega
     subst hml
     simp only [if_true,WS]
     exact .pure (.nil _ _)
    ·rw [if_neg hml,if_neg hml]
     obtain ⟨q0,arr,T,fr,q1,q2,q3⟩:=R.fs id cs hbk
     have key:=RepP.sl (ren:=ren) (w:=w) (Wr:=wr U ω) sz (zf sz (h-l) (cs.drop (off+l*sz))) (some ⟨μ id,off+l*sz,none⟩) (m'-l) (fun i=>arr.toList.getD (off+l*sz+i) undef) (by rw [xx]; omega)
      (zaR _ _ _ (by simp; omega)) (μ id) (off+l*sz) (fun _=>rfl)
     have seg:∀ (i:Nat) (v:V),(zf sz (h-l) (cs.drop (off+l*sz))).flatten[i]?=some v→∃ u,arr.toList.getD (off+l*sz+i) undef=u∧arr[off+l*sz+i]?=some u∧u.oneCell'=true∧RepP ren w (wr U ω) v u:=by
      intro i v hv
      rw [xZ,Wn] at hv
      split at hv
      ·rw [Wp] at hv
       obtain ⟨u,g1,g2,g3⟩:=q3 _ _ hv
       have g1':arr.toList[off+l*sz+i]?=some u:=by simpa using g1
       exact ⟨u,by rw [Ws,g1']; rfl,g1,g2,g3⟩
      ·cases hv
     have key:=key (fun i v hv=>by obtain ⟨u,e,g1,g2,g3⟩:=seg i v hv; exact ⟨q0 _,by rw [cell_of_row _ _ _ _ _ _ q1,e]; exact g1⟩)
      (fun i v hv=>by obtain ⟨u,e,g1,g2,g3⟩:=seg i v hv; rw [e]; exact g2) (fun i v hv=>by obtain ⟨u,e,g1,g2,g3⟩:=seg i v hv; rw [e]; exact g3)
     rw [xx] at key
     exact .pure key
   ·cases hp
  ·cases hp
 ·rename_i q cs hg
  rw [hg] at hr
  split at hp
  ·rename_i hq
   cases hp
   obtain ⟨k,q',f,ex,hl,hcell,g1,g2⟩:=hr.fp_inv
   refine ⟨_,run _ _ ex,fun l'=>?_⟩
   have key:=RepP.sl (ren:=ren) (w:=w) (Wr:=wr U ω) sz (zf sz (h-l) (cs.drop (l*sz))) (some (if m'=l then (⟨k,q',none⟩:Addr) else ⟨k,q'+l*sz,none⟩)) (m'-l) (fun i=>f (l*sz+i)) (by rw [xx]; omega)
    (zaR _ _ _ (by simp; omega)) k (q'+l*sz)
    (fun hne=>by
     have h1:0<h-l:=by rw [← xx sz (h-l) (cs.drop (l*sz))]; exact WY.2 hne
     rw [if_neg (by omega)])
   have seg:∀ (i:Nat) (v:V),(zf sz (h-l) (cs.drop (l*sz))).flatten[i]?=some v→cs[l*sz+i]?=some v:=by
    intro i v hv
    rw [xZ,Wn] at hv
    split at hv
    ·rwa [Wp] at hv
    ·cases hv
   have key:=key (fun i v hv=>by have:=hcell _ _ (seg i v hv); rw [WM]; exact this) (fun i v hv=>g1 _ _ (seg i v hv)) (fun i v hv=>g2 _ _ (seg i v hv))
   rw [xx] at key
   exact .pure key
  ·cases hp
 ·cases hp
theorem zL5(R:Rel ren we ωe U O σ a w ω μ){o:Oper}{t:TypeId}{x i:Operand}(hop:o.op=.indexAddr t x i){e:TypeId}{n sz:Nat}(ht:P.underlying t=some (.array n e))(hn:xy P e=some sz)
  {sx si:Src} {t1 t2:TypeId} (h1:xj P ren t1 x=some sx) (h2:xj P ren t2 i=some si) {v:V} (hp:zk σ (.indexAddrA n sz sx si)=some v):zaT P ren (env U σ w ω μ) a o v:=by
 have hr:=R.opnd h1
 simp only [zk] at hp
 split at hp
 ·rename_i j hj
  obtain ⟨k,ei⟩:=(R.opnd h2).int hj
  split at hp
  ·rename_i hb
   have run:∀ k' q,a.eval x=.pointer (some ⟨k',q,none⟩)→(execOp a.eval o).run P w=.ok (.value (.pointer (some ⟨k',q+j.toNat*sz,none⟩))) w:=by
    intro k' q e1
    simp [execOp,hop,e1,ei,Instr.indexAt,asIntOf,run_underlying ht,Instr.sureAddr,hb,y7 hn,zcV]
   split at hp
   ·rename_i id off hg
    cases hp
    rw [hg] at hr
    obtain ⟨L,hL,ex⟩:=hr.ptr_inv
    exact ⟨_,run _ _ ex,fun l=>.ptr id _ L hL⟩
   ·rename_i m cs hg
    split at hp
    ·cases hp
     rw [hg] at hr
     obtain ⟨k',q,g,ex,hl,hcell,g1,g2⟩:=hr.fp_inv
     refine ⟨_,run _ _ ex,fun l=>.fp _ _ k' (q+j.toNat*sz) (fun i=>g (j.toNat*sz+i)) (by simp [hl]) (fun i v hv=>?_) (fun i v hv=>?_) (fun i v hv=>?_)⟩ <;> rw [Wp] at hv
     ·have:=hcell _ _ hv; rw [WM]; exact this
     ·exact g1 _ _ hv
     ·exact g2 _ _ hv
    ·cases hp
   ·cases hp
  ·cases hp
 ·cases hp
theorem zL9(R:Rel ren we ωe U O σ a w ω μ){o:Oper}{t:TypeId}{x i:Operand}(hop:o.op=.indexAddr t x i){e:TypeId}{sz:Nat}(ht:P.underlying t=some (.slice e))(hn:xy P e=some sz)
  {sx si:Src} {t1 t2:TypeId} (h1:xj P ren t1 x=some sx) (h2:xj P ren t2 i=some si) {v:V} (hp:zk σ (.indexAddrS sz sx si)=some v):zaT P ren (env U σ w ω μ) a o v:=by
 have hr:=(R.opnd h1).dem R.hU (.slot 0 0)
 simp only [zk] at hp
 split at hp
 ·rename_i j hj
  obtain ⟨k,ei⟩:=(R.opnd h2).int hj
  split at hp
  ·rename_i hb
   have run:∀ k' q len c,a.eval x=.slice (some ⟨k',q,none⟩) len c→j<len→(execOp a.eval o).run P w=.ok (.value (.pointer (some ⟨k',q+j.toNat*sz,none⟩))) w:=by
    intro k' q len c e1 e2
    simp [execOp,hop,e1,ei,Instr.indexAt,asIntOf,run_underlying ht,hb,e2,y7 hn,zcV]
   split at hp
   ·rename_i sz' es hg
    split at hp
    ·rename_i hs
     subst hs
     simp only [Wj] at hp
     obtain ⟨c,hc,rfl⟩:=hp
     rw [hg] at hr
     obtain ⟨A,cp,f,k',q,eu,hcp,hsz,hA,hcell,g1,g2⟩:=hr.sl_pure.sl_inv
     have hlt:j.toNat<es.length:=(Wi.1 hc).1
     have hne:es≠[]:=by rintro rfl; simp at hlt
     rw [hA hne] at eu
     refine ⟨_,run _ _ _ _ eu (by omega),fun l=>.fp sz c k' (q+j.toNat*sz) (fun i=>f (j.toNat*sz+i)) (hsz c (WW hc)) (fun i v hv=>?_) (fun i v hv=>?_) (fun i v hv=>?_)⟩
     ·have:=hcell _ _ (zJH hsz hc i hv); rw [WM]; exact this
     ·exact g1 _ _ (zJH hsz hc i hv)
     ·exact g2 _ _ (zJH hsz hc i hv)
    ·cases hp
   ·rename_i id off len sz' hg
    split at hp
    ·rename_i hs
     cases hp
     obtain ⟨rfl,hlt⟩:=hs
     rw [hg] at hr
     obtain ⟨c,L,A,eu,hL,hl,hc,hA⟩:=hr.own_inv
     rcases hA with ⟨e1,_⟩ | ⟨e1,_⟩
     ·rw [e1] at eu
      exact ⟨_,run _ _ _ _ eu hlt,fun l=>.ptr id _ L hL⟩
     ·omega
    ·cases hp
   ·cases hp
  ·cases hp
 ·cases hp
theorem zVW(R:Rel ren we ωe U O σ a w ω μ){o:Oper}{t e:TypeId}{x:Operand}(hop:o.op=.call { callee:=.builtin .len,args:=#[x],argTypes:=#[t] })(ht:P.underlying t=some (.slice e))
  {sx:Src} {t1:TypeId} (h1:xj P ren t1 x=some sx) {v:V} (hp:zk σ (.lenS sx)=some v):zaT P ren (env U σ w ω μ) a o v:=by
 have hr:=(R.opnd h1).dem R.hU (.slot 0 0)
 simp only [zk] at hp
 split at hp
 ·rename_i sz es hg
  cases hp
  rw [hg] at hr
  obtain ⟨A,c,f,k,q,eu,_⟩:=hr.sl_pure.sl_inv
  refine ⟨_,?_,fun l=>.pure (.sc _ rfl)⟩
  show (execOp a.eval o).run P w=_
  simp [execOp,hop,resolve,invoke,builtin,Builtin.len_,run_underlying ht,eu,goInt]
  rfl
 ·rename_i id off len sz hg
  cases hp
  rw [hg] at hr
  obtain ⟨c,L,A,eu,_⟩:=hr.own_inv
  refine ⟨_,?_,fun l=>.pure (.sc _ rfl)⟩
  show (execOp a.eval o).run P w=_
  simp [execOp,hop,resolve,invoke,builtin,Builtin.len_,run_underlying ht,eu,goInt]
  rfl
 ·rename_i id off len cap sz hg
  cases hp
  rw [hg] at hr
  obtain ⟨c,L,A,eu,_⟩:=hr.cut_inv
  refine ⟨_,?_,fun l=>.pure (.sc _ rfl)⟩
  show (execOp a.eval o).run P w=_
  simp [execOp,hop,resolve,invoke,builtin,Builtin.len_,run_underlying ht,eu,goInt]
  rfl
 ·cases hp
theorem zWa(R:Rel ren we ωe U O σ a w ω μ){o:Oper}{t:TypeId}{x:Operand}(hop:o.op=.call { callee:=.builtin .len,args:=#[x],argTypes:=#[t] })(ht:P.underlying t=some .string)
  {sx:Src} {t1:TypeId} (h1:xj P ren t1 x=some sx) {v:V} (hp:zk σ (.lenT sx)=some v):zaT P ren (env U σ w ω μ) a o v:=by
 have hr:=R.opnd h1
 simp only [zk] at hp
 split at hp
 ·rename_i s hg
  cases hp
  rw [hg] at hr
  refine ⟨_,?_,fun l=>.pure (.sc _ rfl)⟩
  show (execOp a.eval o).run P w=_
  simp [execOp,hop,resolve,invoke,builtin,Builtin.len_,run_underlying ht,hr.sc_eq.1,goInt]
  rfl
 ·cases hp
theorem zV4{o:Oper}{t:TypeId}{x:Operand}(hop:o.op=.call { callee:=.builtin .len,args:=#[x],argTypes:=#[t] }){n:Nat}{e:TypeId}(ht:P.underlying t=some (.array n e)){v:V}(hp:zk σ (.lenA n)=some v):zaT P ren (env U σ w ω μ) a o v:=by
 cases hp
 refine ⟨_,?_,fun l=>.pure (.sc _ rfl)⟩
 show (execOp a.eval o).run P w=_
 simp [execOp,hop,resolve,invoke,builtin,Builtin.len_,run_underlying ht,goInt]
 rfl
theorem zVi(R:Rel ren we ωe U O σ a w ω μ){o:Oper}{x y:Operand}{ts:Array TypeId}{isMax:Bool}(hop:o.op=.call { callee:=.builtin (if isMax then .max else .min),args:=#[x,y],argTypes:=ts })
  {sx sy:Src} {t1 t2:TypeId} (h1:xj P ren t1 x=some sx) (h2:xj P ren t2 y=some sy) {v:V} (hp:zk σ (.mm isMax sx sy)=some v):zaT P ren (env U σ w ω μ) a o v:=by
 simp only [zk] at hp
 split at hp
 ·rename_i k p k' q hx hy
  cases hp
  have ex:=R.opnd h1; rw [hx] at ex
  have ey:=R.opnd h2; rw [hy] at ey
  refine ⟨_,?_,fun l=>.pure (.sc _ rfl)⟩
  show (execOp a.eval o).run P w=_
  cases isMax
  ·simp only [WP,if_false] at hop ⊢
   simp [execOp,hop,resolve,invoke,builtin,Builtin.min_,Builtin.min2,ex.sc_eq.1,ey.sc_eq.1]
   rfl
  ·simp only [if_true] at hop ⊢
   simp [execOp,hop,resolve,invoke,builtin,Builtin.max_,Builtin.max2,ex.sc_eq.1,ey.sc_eq.1]
   rfl
 ·cases hp
theorem zWi(R:Rel ren we ωe U O σ a w ω μ){o:Oper}{t:TypeId}{x:Operand}(hop:o.op=.sliceToArrayPointer t x){n:Nat}{e:TypeId}{sz:Nat}(ht:P.underlying t=some (.array n e))
  {sx:Src} {t1:TypeId} (h1:xj P ren t1 x=some sx) {v:V} (hp:zk σ (.arrP n sz sx)=some v):zaT P ren (env U σ w ω μ) a o v:=by
 have hr:=(R.opnd h1).dem R.hU (.slot 0 0)
 simp only [zk] at hp
 have run:∀ A len c,a.eval x=.slice A len c→n≤len→(execOp a.eval o).run P w=.ok (.value (.pointer A)) w:=by
  intro A len c e1 e2
  simp [execOp,hop,e1,Instr.arrayAt,run_underlying ht,show ¬ len<n by omega]
 split at hp
 ·rename_i sz' es hg
  split at hp
  ·rename_i hs
   obtain ⟨rfl,hpos,hle⟩:=hs
   cases hp
   rw [hg] at hr
   obtain ⟨A,cp,f,k',q,eu,hcp,hsz,hA,hcell,g1,g2⟩:=hr.sl_pure.sl_inv
   have hne:es≠[]:=by rintro rfl; simp at hle; omega
   rw [hA hne] at eu
   have hpre:∀ (i:Nat) (v:V),(es.take n).flatten[i]?=some v→es.flatten[i]?=some v:=by
    intro i v hv
    have e2:es.flatten=(es.take n).flatten++(es.drop n).flatten:=by rw [← List.flatten_append,List.take_append_drop]
    rw [e2,List.getElem?_append_left (Wi.1 hv).1]; exact hv
   refine ⟨_,run _ _ _ eu hle,fun l=>.fp (n*sz) _ k' q f ?_ (fun i v hv=>hcell _ _ (hpre i v hv)) (fun i v hv=>g1 _ _ (hpre i v hv)) (fun i v hv=>g2 _ _ (hpre i v hv))⟩
   rw [yT (fun y hy=>hsz y (WV hy)),List.length_take,Nat.min_eq_left hle]
  ·cases hp
 ·rename_i id off len sz' hg
  split at hp
  ·rename_i hs
   obtain ⟨rfl,hpos,hle⟩:=hs
   cases hp
   rw [hg] at hr
   obtain ⟨c,L,A,eu,hL,hl,hc,hA⟩:=hr.own_inv
   rcases hA with ⟨e1,_⟩ | ⟨e1,_⟩
   ·rw [e1] at eu
    exact ⟨_,run _ _ _ eu hle,fun l=>.ptr id _ L hL⟩
   ·omega
  ·cases hp
 ·cases hp
end
section
variable {ren:Rn} {we:World} {ωe:Nat→Ow} {U:Nat→Nat→Prop} {O:Nat→Prop} {σ:St} {a:Act} {w:World} {ω:Nat→Ow} {μ:Nat→Nat} {P:Program}
def eqV:List Value→List Value→Option Bool
 | [],[]=>some true
 | .int k a::xs,.int k' b::ys=>if k=k' then (eqV xs ys).map (fun r=>(a==b)&&r) else none
 | _,_=>none
theorem zTU{x y:Value}{xs ys:List Value}{r:Bool}(h:eqV (x::xs) (y::ys)=some r):∃ r1 r2,eqV [x] [y]=some r1∧eqV xs ys=some r2∧r=(r1&&r2):=by
 unfold eqV at h
 split at h
 ·simp_all
 ·rename_i e1 e2
  cases e1; cases e2
  split at h
  ·rename_i hk
   simp only [Wj] at h
   obtain ⟨r2,h2,rfl⟩:=h
   exact ⟨_,r2,by simp only [eqV,hk,if_true,Option.map_some]; rfl,h2,by simp⟩
  ·cases h
 ·cases h
theorem zWq{x y:Value}{r1 r2:Bool}{xs ys:List Value}(h1:eqV [x] [y]=some r1)(h2:eqV xs ys=some r2):eqV (x::xs) (y::ys)=some (r1&&r2):=by
 unfold eqV at h1
 split at h1
 ·simp_all
 ·rename_i e1 e2
  cases e1; cases e2
  split at h1
  ·rename_i hk
   simp [eqV] at h1
   subst h1
   simp [eqV,hk,h2]
  ·cases h1
 ·cases h1
theorem zB5:∀ (n:Nat) {xs ys:List Value} {r:Bool},eqV xs ys=some r→n≤xs.length→∃ r1 r2,eqV (xs.take n) (ys.take n)=some r1∧eqV (xs.drop n) (ys.drop n)=some r2∧r=(r1&&r2)
 | 0,xs,ys,r,h,_=>⟨true,r,by simp [eqV],by simpa using h,by simp⟩
 | n+1,[],ys,r,h,hn=>by simp at hn
 | n+1,x::xs,[],r,h,hn=>by simp [eqV] at h
 | n+1,x::xs,y::ys,r,h,hn=>by
  obtain ⟨r1,r2,h1,h2,rfl⟩:=zTU h
  obtain ⟨s1,s2,g1,g2,rfl⟩:=zB5 n h2 (by simpa using hn)
  exact ⟨r1&&s1,s2,by simpa using zWq h1 g1,by simpa using g2,by simp [Bool.and_assoc]⟩
theorem zBP{Wr:Nat→Nat→Prop}:∀ {cs ds:List V} {us vs:List Value} {r:Bool},zdI cs ds=some r→CellsP ren w Wr cs us→CellsP ren w Wr ds vs→eqV us vs=some r
 | [],[],us,vs,r,h,h1,h2=>by
  have e1:=h1.1; have e2:=h2.1
  cases us with
  | cons _ _=>simp at e1
  | nil=>cases vs with
   | cons _ _=>simp at e2
   | nil=>exact h
 | [],d::ds,us,vs,r,h,h1,h2=>by simp [zdI] at h
 | c::cs,[],us,vs,r,h,h1,h2=>by unfold zdI at h; split at h <;> simp_all
 | c::cs,d::ds,[],vs,r,h,h1,h2=>by have:=h1.1; simp at this
 | c::cs,d::ds,u::us,[],r,h,h1,h2=>by have:=h2.1; simp at this
 | c::cs,d::ds,u::us,v::vs,r,h,h1,h2=>by
  have t1:CellsP ren w Wr cs us:=⟨by simpa using h1.1,fun i c hc=>by simpa using h1.2 (i+1) c (by simpa using hc)⟩
  have t2:CellsP ren w Wr ds vs:=⟨by simpa using h2.1,fun i c hc=>by simpa using h2.2 (i+1) c (by simpa using hc)⟩
  obtain ⟨x,hx,_,hx'⟩:=h1.2 0 c rfl
  obtain ⟨y,hy,_,hy'⟩:=h2.2 0 d rfl
  simp at hx hy; subst hx; subst hy
  unfold zdI at h
  split at h
  ·simp_all
  ·rename_i e1 e2
   cases e1; cases e2
   cases hx'; cases hy'
   split at h
   ·rename_i hk
    simp only [Wj] at h
    obtain ⟨r2,g2,rfl⟩:=h
    simp [eqV,hk,zBP g2 t1 t2]
   ·cases h
  ·cases h
def zDQ(P:Program)(t:TypeId)(us:List Value)(x:Value):Prop:=(z9 P t=some true∧x=.agg us.toArray)∨(z9 P t=some false∧us=[x])
def zQl(P:Program)(dd:Nat)(t:TypeId)(n:Nat):Prop:=
 ∀ (w:World) (us vs:List Value) (x y:Value) (r:Bool),us.length=n→vs.length=n→zDQ P t us x→zDQ P t vs y→eqV us vs=some r→(Op.equalIn dd t x y).run P w=.ok r w
theorem zt4{t:TypeId}{b:Bool}{n:Nat}(h1:z9 P t=some b)(h2:xy P t=some n)(hn:b=false→n=1){xs:List Value}{off:Nat}(hl:off+n≤xs.length)(w:World):∃ x,(part t xs.toArray off).run P w=.ok x w∧zDQ P t ((xs.drop off).take n) x:=by
 rw [zqA h1 h2]
 cases b
 ·have hn1:=hn rfl
  subst hn1
  have hlt:off<xs.length:=by omega
  rw [Wc hlt]
  refine ⟨xs[off],rfl,.inr ⟨h1,?_⟩⟩
  rw [WQ hlt]; rfl
 ·exact ⟨_,rfl,.inl ⟨h1,rfl⟩⟩
theorem zqd{d:Nat}{t:TypeId}{n:Nat}(h:zdl P d t=some n):∃ b,z9 P t=some b∧(b=false→n=1):=by
 cases d with
 | zero=>cases h
 | succ d=>
  unfold zdl at h
  split at h
  ·rename_i hu; split at h <;> cases h; exact ⟨false,by simp [z9,hu],fun _=>rfl⟩
  ·rename_i hu; exact ⟨true,by simp [z9,hu],by simp⟩
  ·rename_i hu; exact ⟨true,by simp [z9,hu],by simp⟩
  ·cases h
theorem zDl{dd d:Nat}(IH:∀ t n,zdl P d t=some n→zQl P dd t n)(xs ys:List Value)(w:World):∀ (fs:List Field) (off n:Nat) (r:Bool),zeE P (zdl P d) fs off=some n→xs.length=n→ys.length=n→eqV (xs.drop off) (ys.drop off)=some r →
  (Op.eqFields dd xs.toArray ys.toArray fs).run P w=.ok r w
 | [],off,n,r,h,hx,hy,he=>by
  cases h
  rw [WK (by omega),WK (by omega)] at he
  cases he
  simp [Op.eqFields]
 | f::fs,off,n,r,h,hx,hy,he=>by
  simp only [zeE,Wb,Wa] at h
  obtain ⟨s,hs,h⟩:=h
  split at h
  ·rename_i hc
   obtain ⟨hname,hoff,hsz⟩:=hc
   have hmono:∀ (fs:List Field) (o n:Nat),zeE P (zdl P d) fs o=some n→o≤n:=by
    intro fs
    induction fs with
    | nil=>intro o n h; cases h; exact Wq _
    | cons g gs ih=>
     intro o n h
     simp only [zeE,Wb,Wa] at h
     obtain ⟨s',_,h⟩:=h
     split at h
     ·have:=ih _ _ h; omega
     ·cases h
   have hle:=hmono _ _ _ h
   obtain ⟨b,hb,hb1⟩:=zqd hs
   obtain ⟨x,px,ox⟩:=zt4 hb hsz hb1 (xs:=xs) (off:=off) (by omega) w
   obtain ⟨y,py,oy⟩:=zt4 hb hsz hb1 (xs:=ys) (off:=off) (by omega) w
   obtain ⟨r1,r2,g1,g2,rfl⟩:=zB5 s he (by simp; omega)
   have hq:=IH f.type s hs w _ _ x y r1 (by simp; omega) (by simp; omega) ox oy g1
   have hrest:=zDl IH xs ys w fs (off+s) n r2 h hx hy (by rw [← WO,← WO]; exact g2)
   simp only [Op.eqFields,ne_eq,hname,not_false_eq_true,if_true,Sem.run_bind,hoff,px,py,hq,WD]
   cases r1
   ·simp
   ·simpa using hrest
  ·cases h
theorem zE8{dd:Nat}{e:TypeId}{s:Nat}(IH:zQl P dd e s){b:Bool}(hb:z9 P e=some b)(hb1:b=false→s=1)(hsz:xy P e=some s)(xs ys:List Value)(w:World):∀ (k i:Nat) (r:Bool),xs.length=(i+k)*s→ys.length=(i+k)*s→eqV (xs.drop (i*s)) (ys.drop (i*s))=some r →
  (Op.eqItems dd e s xs.toArray ys.toArray (List.range' i k)).run P w=.ok r w
 | 0,i,r,hx,hy,he=>by
  rw [WK (by rw [hx]; simp),WK (by rw [hy]; simp)] at he
  cases he
  simp [Op.eqItems]
 | k+1,i,r,hx,hy,he=>by
  have hm:(i+(k+1))*s=i*s+s+k*s:=by simp only [WG,Nat.one_mul]; omega
  obtain ⟨x,px,ox⟩:=zt4 hb hsz hb1 (xs:=xs) (off:=i*s) (by omega) w
  obtain ⟨y,py,oy⟩:=zt4 hb hsz hb1 (xs:=ys) (off:=i*s) (by omega) w
  obtain ⟨r1,r2,g1,g2,rfl⟩:=zB5 s he (by simp; omega)
  have hq:=IH w _ _ x y r1 (by simp; omega) (by simp; omega) ox oy g1
  have hd:(i+1)*s=i*s+s:=by simp [WG]
  have hrest:=zE8 IH hb hb1 hsz xs ys w k (i+1) r2 (by rw [hx]; congr 1; omega) (by rw [hy]; congr 1; omega) (by rw [hd,← WO,← WO]; exact g2)
  rw [List.range'_succ]
  simp only [Op.eqItems,Sem.run_bind,px,py,hq,WD]
  cases r1
  ·simp
  ·simpa using hrest
theorem zHg(m:Nat):∀ (d:Nat) (t:TypeId) (n:Nat),zdl P d t=some n→zQl P (m+d) t n
 | 0,t,n,h=>by cases h
 | d+1,t,n,h=>by
  have hagg:=zqd h
  intro w us vs x y r hu hv ox oy he
  unfold zdl at h
  split at h
  ·rename_i k hd
   split at h <;> cases h
   rcases ox with ⟨g,_⟩ | ⟨_,rfl⟩
   ·simp [z9,hd] at g
   rcases oy with ⟨g,_⟩ | ⟨_,rfl⟩
   ·simp [z9,hd] at g
   unfold eqV at he
   split at he
   ·simp_all
   ·rename_i e1 e2
    cases e1; cases e2
    split at he
    ·rename_i hk
     subst hk
     simp [eqV] at he
     subst he
     exact run_equalIn_int w (m+d) t _ _ _ _ hd
    ·cases he
   ·cases he
  ·rename_i len e hd
   simp only [Wb,Wa] at h
   obtain ⟨s,hs,h⟩:=h
   split at h
   ·rename_i hsz
    cases h
    rcases ox with ⟨_,rfl⟩ | ⟨g,_⟩
    ·rcases oy with ⟨_,rfl⟩ | ⟨g,_⟩
     ·obtain ⟨i,hi,hi'⟩:=zez hsz
      obtain ⟨b,hb,hb1⟩:=zqd hs
      show (Op.equalIn (m+d+1) t _ _).run P w=_
      rw [run_equalIn_array w (m+d) _ _ hd hi]
      have hc:P.cellsOf e=s:=by simp [Program.cellsOf,hi,hi']
      rw [hc,List.range_eq_range']
      exact zE8 (zHg m d e s hs) hb hb1 hsz us vs w len 0 r (by simpa using hu) (by simpa using hv) (by simpa using he)
     ·simp [z9,hd] at g
    ·simp [z9,hd] at g
   ·cases h
  ·rename_i fs hd
   split at h
   ·cases h
   ·rename_i hst
    rcases ox with ⟨_,rfl⟩ | ⟨g,_⟩
    ·rcases oy with ⟨_,rfl⟩ | ⟨g,_⟩
     ·have hf:P.fieldsOf t=fs:=by simp [Program.fieldsOf,hd]
      show (Op.equalIn (m+d+1) t _ _).run P w=_
      rw [run_equalIn_struct w (m+d) t _ _ (by rw [hf]; exact hd) (by simpa using hst),hf]
      exact zDl (fun t n h=>zHg m d t n h) us vs w fs.toList 0 n r h hu hv (by simpa using he)
     ·simp [z9,hd] at g
    ·simp [z9,hd] at g
  ·cases h
theorem zMr(R:Rel ren we ωe U O σ a w ω μ){o:Oper}{op:BinOp}{t t':TypeId}{x y:Operand}(hop:o.op=.binOp op t x y t')(ho:op=.eql∨op=.neq){n:Nat}(hs:zdl P 20 t=some n)(hb:z9 P t=some true)(hg:P.eqGuardType P.depth t=false){sx sy:Src}{t1 t2:TypeId}(h1:xj P ren t1 x=some sx)(h2:xj P ren t2 y=some sy)
  {v:V} (hp:zk σ (.eqAgg (op==.neq) n sx sy)=some v):zaT P ren (env U σ w ω μ) a o v:=by
 simp only [zk] at hp
 split at hp
 ·rename_i p q hx hy
  split at hp
  ·rename_i hl
   simp only [Wj] at hp
   obtain ⟨r,hr,rfl⟩:=hp
   have ex:=R.opnd h1; rw [hx] at ex
   have ey:=R.opnd h2; rw [hy] at ey
   obtain ⟨us,eu,hu⟩:=CellsP.of_agg ex.agg_eq
   obtain ⟨vs,ev,hv⟩:=CellsP.of_agg ey.agg_eq
   have hq:=zHg 9980 20 t n hs w us vs (.agg us.toArray) (.agg vs.toArray) r (by rw [← hu.1]; exact hl.1) (by rw [← hv.1]; exact hl.2) (.inl ⟨hb,rfl⟩) (.inl ⟨hb,rfl⟩) (zBP hr hu hv)
   have hq:(Op.equalIn 10000 t (.agg us.toArray) (.agg vs.toArray)).run P w=.ok r w:=hq
   rcases ho with rfl | rfl
   ·refine ⟨.bool r,?_,fun l=>.pure (.sc _ rfl)⟩
    show (execOp a.eval o).run P w=_
    simp only [execOp,hop,eu,ev,Sem.run_bind,run_eqGuard_agg w .eql t x y _ _ hg,run_eql_struct w,hq,WD,Sem.run_pure]
    rfl
   ·refine ⟨.bool (!r),?_,fun l=>.pure (.sc _ rfl)⟩
    show (execOp a.eval o).run P w=_
    simp only [execOp,hop,eu,ev,Sem.run_bind,run_eqGuard_agg w .neq t x y _ _ hg,run_neq_struct w,hq,WD,Sem.run_pure]
    rfl
  ·cases hp
 ·cases hp
theorem zKM(R:Rel ren we ωe U O σ a w ω μ):∀ (xs:List Operand) (ts:List TypeId) (ss:List Src),zHF P ren xs ts=some ss→xs.length=ss.length∧∀ (i:Nat) (s:Src),ss[i]?=some s→∃ x ty,xs[i]?=some x∧xj P ren ty x=some s
 | [],ts,ss,h=>by cases h; exact ⟨rfl,by simp⟩
 | x::xs,ts,ss,h=>by
  simp only [zHF,Wb,Wa,Wl,Wg] at h
  obtain ⟨s,hs,rest,hr,rfl⟩:=h
  obtain ⟨e,ih⟩:=zKM R xs ts.tail rest hr
  refine ⟨by simp [e],fun i s' hi=>?_⟩
  cases i with
  | zero=>simp at hi; subst hi; exact ⟨x,_,rfl,hs⟩
  | succ i=>simp at hi; simpa using ih i s' hi
theorem zOD(R:Rel ren we ωe U O σ a w ω μ){o:Oper}{f:FuncId}{caps:Array Operand}(hop:o.op=.makeFunc (.func f) #[] caps){g:Nat}(hg:ren f=some g){ss:List Src}(hs:zHF P ren caps.toList []=some ss)
  {v:V} (hp:zk σ (.makeFunc g ss)=some v):zaT P ren (env U σ w ω μ) a o v:=by
 simp only [zk] at hp
 split at hp
 ·rename_i hall
  cases hp
  obtain ⟨hl,hc⟩:=zKM R _ _ _ hs
  refine ⟨.func (.func f) #[] (caps.toList.map a.eval).toArray,?_,fun l=>.fn f g _ (caps.toList.map a.eval) hg (by simp [hl]) (fun i c hi=>?_)⟩
  ·show (execOp a.eval o).run P w=.ok _ w
   simp only [execOp,hop,Instr.makeFunc,Sem.run_bind,Sem.run_pure,WD]
   congr 3
   all_goals (apply WX; simp)
  ·rw [WJ] at hi
   cases hsi:ss[i]? with
   | none=>simp [hsi] at hi
   | some s=>
    simp [hsi] at hi
    obtain ⟨x,ty,hx,hsx⟩:=hc i s hsi
    have hr:=R.opnd hsx
    rw [List.all_eq_true] at hall
    have:=hall s (WW hsi)
    cases hv:s.get σ with
    | ptr id off=>
     rw [hv] at hr hi
     obtain ⟨L,hL,e⟩:=hr.ptr_inv
     exact ⟨id,off,L,hi.symm,hL,by rw [WJ,hx]; simp [e]⟩
    | _=>simp [hv,zwh] at this
 ·cases hp
theorem za7{α:Type}{xs:Array α}{l:List α}(h:xs.toList=l):xs=l.toArray:=by rw [← h]
theorem zMT(R:Rel ren we ωe U O σ a w ω μ){o:Oper}{b:Builtin}{args:Array Operand}{ats:Array TypeId}(hop:o.op=.call { callee:=.builtin b,args:=args,argTypes:=ats }){k:K}(hk:zus P ren b args.toList ats.toList=some k){v:V}(hp:zk σ k=some v):zaT P ren (env U σ w ω μ) a o v:=by
 unfold zus at hk
 split at hk <;> (try simp only [Wb,Wa,Wg] at hk)
 ·rename_i e1 e2
  obtain rfl:=za7 e1
  obtain rfl:=za7 e2
  obtain ⟨d,hd,hk⟩:=hk
  split at hk <;> (try simp only [Wa,Wg] at hk)
  ·obtain ⟨s1,h1,rfl⟩:=hk; exact zVW R hop hd h1 hp
  ·obtain ⟨s1,h1,rfl⟩:=hk; exact zWa R hop hd h1 hp
  ·subst hk; exact zV4 hop hd hp
  ·obtain ⟨s1,h1,rfl⟩:=hk; cases hp
  ·cases hk
 ·obtain ⟨d1,_,d2,_,hk⟩:=hk
  split at hk <;> (try simp only [Wa] at hk)
  ·obtain ⟨_,_,_,_,_,_,hk⟩:=hk
   split at hk
   ·simp only [Wa,Wg] at hk; obtain ⟨_,_,_,_,rfl⟩:=hk; cases hp
   ·cases hk
  ·obtain ⟨_,_,_,_,_,_,hk⟩:=hk
   split at hk
   ·simp only [Wa,Wg] at hk; obtain ⟨_,_,_,_,rfl⟩:=hk; cases hp
   ·cases hk
  ·cases hk
 ·obtain ⟨d1,_,d2,_,hk⟩:=hk
  split at hk <;> (try simp only [Wa] at hk)
  ·obtain ⟨_,_,hk⟩:=hk
   split at hk
   ·simp only [Wa,Wg] at hk; obtain ⟨_,_,_,_,rfl⟩:=hk; cases hp
   ·cases hk
  ·cases hk
 ·obtain ⟨d1,_,hk⟩:=hk
  split at hk <;> (try simp only [Wa] at hk)
  ·obtain ⟨_,_,_,_,hk⟩:=hk
   split at hk
   ·simp only [Wa,Wg] at hk; obtain ⟨_,_,rfl⟩:=hk; cases hp
   ·cases hk
  ·cases hk
 ·rename_i e1
  obtain rfl:=za7 e1
  obtain ⟨s1,h1,s2,h2,rfl⟩:=hk; exact zVi (isMax:=false) R hop h1 h2 hp
 ·rename_i e1
  obtain rfl:=za7 e1
  obtain ⟨s1,h1,s2,h2,rfl⟩:=hk; exact zVi (isMax:=true) R hop h1 h2 hp
 ·cases hk
theorem zVY(R:Rel ren we ωe U O σ a w ω μ){o:Oper}{x:Operand}{i:Nat}(hop:o.op=.extract x i){s:Src}{t1:TypeId}(hs:xj P ren t1 x=some s){v:V}(hp:zk σ (.pull s i)=some v):zaT P ren (env U σ w ω μ) a o v:=by
 simp only [zk] at hp
 split at hp
 ·rename_i vs hg
  split at hp
  ·rename_i v' hvi
   split at hp
   ·cases hp
   ·cases hp
    have hr:=R.opnd hs
    rw [hg] at hr
    obtain ⟨us,eu,hl,hel⟩:=hr.tup_inv
    have hlt:i<vs.length:=(Wi.1 hvi).1
    have hui:us[i]?=some us[i]:=Wc (by omega)
    exact ⟨us[i],by simp [execOp,hop,eu,Instr.extract,hui],fun l=>(hel i v' us[i] hvi hui).dem R.hU l⟩
  ·cases hp
 ·cases hp
theorem zSg(R:Rel ren we ωe U O σ a w ω μ){o:Oper}{x:Operand}(hop:o.op=.move x∨o.op=.assign x){s:Src}{t:TypeId}(hs:xj P ren t x=some s){v:V}(hp:zk σ (.see s)=some v):zaT P ren (env U σ w ω μ) a o v:=by
 have run:(execOp a.eval o).run P w=.ok (.value (a.eval x)) w:=by
  rcases hop with e | e <;> simp [execOp,e]
 refine ⟨_,run,fun l=>?_⟩
 simp only [zk] at hp
 split at hp
 ·rename_i id off len sz hg
  have hr:=R.opnd hs
  rw [hg] at hr
  obtain ⟨c,L,A,eu,hL,hl,hc,hA⟩:=hr.own_inv
  have hL':yq σ.b id=some L:=hL
  split at hp
  ·rename_i cs hb
   cases hp
   obtain ⟨q0,arr,T,fr,q1,q2,q3⟩:=R.fs id cs hb
   have hLc:L=cs.length:=by
    rw [show yq σ.b id=some cs.length by simp [yq,hb]] at hL'; cases hL'; rfl
   subst hLc
   rw [eu]
   have key:=RepP.sl (ren:=ren) (w:=w) (Wr:=wr U ω) sz (zf sz len (cs.drop off)) A c (fun i=>arr.toList.getD (off+i) undef) (by rw [xx]; exact hc.1) (zaR _ _ _ (by simp; omega)) (μ id) off
    (fun hne=>by
     rcases hA with ⟨h1,_⟩ | ⟨h1,_⟩
     ·exact h1
     ·subst h1; simp [zf] at hne)
   have seg:∀ (i:Nat) (v:V),(zf sz len (cs.drop off)).flatten[i]?=some v→∃ u,arr.toList.getD (off+i) undef=u∧arr[off+i]?=some u∧u.oneCell'=true∧RepP ren w (wr U ω) v u:=by
    intro i v hv
    rw [xZ,Wn] at hv
    split at hv
    ·rw [Wp] at hv
     obtain ⟨u,g1,g2,g3⟩:=q3 _ _ hv
     have g1':arr.toList[off+i]?=some u:=by simpa using g1
     exact ⟨u,by rw [Ws,g1']; rfl,g1,g2,g3⟩
    ·cases hv
   have key:=key (fun i v hv=>by obtain ⟨u,e,g1,g2,g3⟩:=seg i v hv; exact ⟨q0 _,by rw [cell_of_row _ _ _ _ _ _ q1,e]; exact g1⟩)
    (fun i v hv=>by obtain ⟨u,e,g1,g2,g3⟩:=seg i v hv; rw [e]; exact g2) (fun i v hv=>by obtain ⟨u,e,g1,g2,g3⟩:=seg i v hv; rw [e]; exact g3)
   rw [xx] at key
   exact .pure key
  ·split at hp
   ·rename_i h0
    cases hp
    subst h0
    rw [eu]
    exact .pure (RepP.sl (ren:=ren) (w:=w) (Wr:=wr U ω) sz [] A c (fun _=>undef) hc.1 (by simp) 0 0 (fun h=>absurd rfl h) (fun i v hv=>by simp at hv) (fun i v hv=>by simp at hv) (fun i v hv=>by simp at hv))
   ·cases hp
  ·cases hp
 ·cases hp
theorem zWO(R:Rel ren we ωe U O σ a w ω μ){o:Oper}{take:Bool}{xs:List Nat}{k:K}(hk:cK P ren o take xs=some k){v:V}(hp:zk σ k=some v):zaT P ren (env U σ w ω μ) a o v:=by
 have hk0:=hk
 unfold cK at hk
 split at hk <;> (try simp only [Wb,Wa,Wg] at hk)
 ·rename_i hop
  rcases zr4 _ _ hk with ⟨_,_,_,rfl⟩ | ⟨_,_,rfl⟩ | ⟨_,_,rfl⟩ | ⟨_,hs,rfl⟩ | ⟨_,_,_,_,_,rfl⟩ | ⟨_,_,rfl⟩
  ·cases hp
  ·cases hp
  ·cases hp
  ·exact zSg R (.inl hop) hs hp
  ·cases hp
  ·cases hp
 ·rename_i hop
  rcases zr4 _ _ hk with ⟨_,_,_,rfl⟩ | ⟨_,_,rfl⟩ | ⟨_,_,rfl⟩ | ⟨_,hs,rfl⟩ | ⟨_,_,_,_,_,rfl⟩ | ⟨_,_,rfl⟩
  ·cases hp
  ·cases hp
  ·cases hp
  ·exact zSg R (.inr hop) hs hp
  ·cases hp
  ·cases hp
 ·rename_i hop; obtain ⟨s1,h1,s2,h2,s3,h3,rfl⟩:=hk; exact zWU R hop h1 h2 h3 hp
 ·obtain ⟨s,_,rfl⟩:=hk; cases hp
 ·obtain ⟨s,_,_,_,rfl⟩:=hk; cases hp
 ·rename_i hop; exact zUU R hop hk0 hp
 ·obtain ⟨d,hd,hk⟩:=hk
  split at hk <;> (try simp only [Wa] at hk)
  ·obtain ⟨z,_,sz,_,hk⟩:=hk
   split at hk
   ·simp only [Wa,Wg] at hk; obtain ⟨_,_,rfl⟩:=hk; cases hp
   ·cases hk
  ·cases hk
 ·rcases zCT _ _ hk with ⟨_,_,_,_,_,_,rfl⟩ | ⟨_,_,_,_,_,_,rfl⟩ | ⟨_,_,_,_,_,rfl⟩ <;> cases hp
 ·obtain ⟨_,_,_,_,_,_,rfl⟩:=hk; cases xs <;> cases hp
 ·rename_i hop; obtain ⟨s1,h1,rfl⟩:=hk; exact zOM R hop h1 hp
 ·rename_i op t x y t' hop
  obtain ⟨d,hd,hk⟩:=hk
  split at hk <;> (try simp only [Wa,Wg] at hk)
  ·obtain ⟨s1,h1,s2,h2,rfl⟩:=hk; exact zR8 R hop h1 h2 hp
  ·obtain ⟨s1,h1,s2,h2,rfl⟩:=hk; exact zR8 R hop h1 h2 hp
  ·split at hk
   ·split at hk
    ·rename_i ho
     simp only [Wa,Wg] at hk
     obtain ⟨s1,h1,rfl⟩:=hk
     exact zWo R hop hd (by simpa using ho) h1 hp
    ·cases hk
   ·cases hk
  ·split at hk
   ·rename_i ho
    simp only [Wa,Wg] at hk
    obtain ⟨s1,h1,s2,h2,rfl⟩:=hk
    exact zXb R hop hd (by simpa using ho) h1 h2 hp
   ·cases hk
  ·split at hk
   ·rename_i fs ho
    simp only [Wa,Wg] at hk
    obtain ⟨s1,h1,s2,h2,rfl⟩:=hk
    simp only [Wh,Bool.or_eq_true,beq_iff_eq,Bool.not_eq_true'] at ho
    obtain ⟨n,hn⟩:=WR.1 ho.1.1.2
    have hn':xy P t=some n:=by rw [← ho.1.2]; exact hn
    rw [hn'] at hp
    exact zMr R hop ho.1.1.1 hn (by simp [z9,hd]) ho.2 h1 h2 hp
   ·cases hk
  ·split at hk
   ·rename_i ho
    simp only [Wa,Wg] at hk
    obtain ⟨s1,h1,s2,h2,rfl⟩:=hk
    simp only [Wh,Bool.or_eq_true,beq_iff_eq,Bool.not_eq_true'] at ho
    obtain ⟨n,hn⟩:=WR.1 ho.1.1.2
    have hn':xy P t=some n:=by rw [← ho.1.2]; exact hn
    rw [hn'] at hp
    exact zMr R hop ho.1.1.1 hn (by simp [z9,hd]) ho.2 h1 h2 hp
   ·cases hk
  ·cases hk
 ·rename_i hop; obtain ⟨s1,h1,rfl⟩:=hk; exact zZp R hop h1 hp
 ·rename_i hop
  obtain ⟨d1,hd1,d2,hd2,hk⟩:=hk
  split at hk <;> (try simp only [Wa,Wg] at hk)
  ·obtain ⟨s1,h1,rfl⟩:=hk; exact zWQ R hop hd1 hd2 h1 hp
  ·obtain ⟨d3,hd3,hk⟩:=hk
   split at hk
   ·simp only [Wa,Wg] at hk
    obtain ⟨s1,h1,rfl⟩:=hk; exact zUq R hop hd1 hd2 hd3 h1 hp
   ·cases hk
  ·cases hk
 ·rename_i fn first caps hop
  split at hk
  ·split at hk
   ·rename_i h0
    simp only [Wb,Wa,Wg] at hk
    obtain ⟨g,hg,ss,hs,rfl⟩:=hk
    have hf:first=#[]:=by simpa using h0
    subst hf
    exact zOD R hop hg hs hp
   ·cases hk
  ·cases hk
 ·obtain ⟨d,hd,hk⟩:=hk
  split at hk <;> (try simp only [Wa] at hk)
  ·obtain ⟨z,_,sz,_,i,_,hk⟩:=hk
   split at hk
   ·simp only [Wa,Wg] at hk; obtain ⟨_,_,_,_,rfl⟩:=hk; cases hp
   ·cases hk
  ·cases hk
 ·rename_i hop
  split at hk
  ·cases hk
  ·rename_i hmx
   simp only [Wb,Wa] at hk
   obtain ⟨d,hd,hk⟩:=hk
   split at hk <;> (try simp only [Wa] at hk)
   ·obtain ⟨sz,hsz,hk⟩:=hk
    split at hk
    ·simp only [Wa,Wg] at hk
     obtain ⟨s0,h0,s1,h1,s2,h2,s3,h3,rfl⟩:=hk
     exact zSr R hop ((Bool.not_eq_true _).mp hmx) hd hsz (by assumption) h0 h1 h2 h3 hp
    ·cases hk
   ·obtain ⟨sz,hsz,hk⟩:=hk
    split at hk
    ·split at hk
     ·rename_i hcd
      simp only [Wh,decide_eq_true_eq,WH] at hcd
      obtain ⟨⟨⟨_,rfl⟩,rfl⟩,_⟩:=hcd
      simp only [Wa,Wg] at hk
      obtain ⟨s0,h0,s2,h2,rfl⟩:=hk
      exact zTp R hop hd hsz h0 h2 hp
     ·cases hk
    ·split at hk
     ·simp only [Wa,Wg] at hk
      obtain ⟨s0,h0,s1,h1,s2,h2,s3,h3,rfl⟩:=hk
      exact zSR R hop ((Bool.not_eq_true _).mp hmx) hd hsz h0 h1 h2 h3 hp
     ·cases hk
   ·cases hk
 ·rename_i hop
  obtain ⟨d,hd,hk⟩:=hk
  split at hk <;> (try simp only [Wa] at hk)
  ·obtain ⟨f,hf,n,hn,hk⟩:=hk
   split at hk
   ·cases hk
   ·rename_i hn0
    simp only [Wa,Wg] at hk
    obtain ⟨s1,h1,rfl⟩:=hk
    exact zN4 R hop hd hf hn hn0 h1 hp
  ·cases hk
 ·rename_i hop
  obtain ⟨d,hd,hk⟩:=hk
  split at hk <;> (try simp only [Wa,Wg] at hk)
  ·obtain ⟨f,hf,b,hb,n,hn,s1,h1,rfl⟩:=hk
   exact zUm R hop hd hf hb hn h1 hp
  ·cases hk
 ·rename_i hop
  obtain ⟨d,hd,hk⟩:=hk
  split at hk <;> (try simp only [Wa,Wg] at hk)
  ·obtain ⟨n,hn,s1,h1,s2,h2,rfl⟩:=hk
   exact zL5 R hop hd hn h1 h2 hp
  ·obtain ⟨sz,hsz,hk⟩:=hk
   split at hk
   ·simp only [Wa,Wg] at hk
    obtain ⟨s1,h1,s2,h2,rfl⟩:=hk
    exact zL9 R hop hd hsz h1 h2 hp
   ·cases hk
  ·cases hk
 ·rename_i hop
  obtain ⟨d,hd,hk⟩:=hk
  split at hk <;> (try simp only [Wa,Wg] at hk)
  ·obtain ⟨b,hb,n,hn,s1,h1,s2,h2,rfl⟩:=hk
   exact zSX R hop hd hb hn h1 h2 hp
  ·cases hk
 ·rename_i hop
  obtain ⟨d,hd,hk⟩:=hk
  split at hk <;> (try simp only [Wa] at hk)
  ·obtain ⟨sz,hsz,hk⟩:=hk
   split at hk
   ·simp only [Wa,Wg] at hk
    obtain ⟨s1,h1,rfl⟩:=hk
    exact zWi R hop hd h1 hp
   ·cases hk
  ·cases hk
 ·split at hk
  ·cases hk; cases hp
  ·cases hk
 ·obtain ⟨d,hd,hk⟩:=hk
  split at hk <;> (try simp only [Wa,Wg] at hk)
  ·obtain ⟨_,_,_,_,_,_,_,_,rfl⟩:=hk; cases hp
  ·cases hk
 ·obtain ⟨d,hd,hk⟩:=hk
  split at hk <;> (try simp only [Wa,Wg] at hk)
  ·obtain ⟨_,_,_,_,_,_,_,_,rfl⟩:=hk; cases hp
  ·cases hk
 ·obtain ⟨d,hd,hk⟩:=hk
  split at hk <;> (try simp only [Wa,Wg] at hk)
  ·obtain ⟨_,_,_,_,_,_,_,_,rfl⟩:=hk; cases hp
  ·cases hk
 ·rename_i hop
  obtain ⟨s1,h1,rfl⟩:=hk
  cases take with
  | true=>cases hp
  | false=>exact zVY R hop h1 hp
 ·rename_i c hop
  obtain ⟨callee,args,ats⟩:=c
  simp only at hk
  split at hk <;> (try simp only [Wb,Wa,Wg] at hk)
  ·split at hk
   ·rename_i hc
    split at hk
    ·rename_i he
     simp only [Wb,Wa,Wg] at hk
     obtain ⟨s1,h1,s2,h2,rfl⟩:=hk
     exact zWR R hop hc he h1 h2 hp
    ·cases hk
   ·split at hk
    ·split at hk
     ·rename_i he
      simp only [Wb,Wa,Wg] at hk
      obtain ⟨s0,h0,s1,h1,s2,h2,s3,h3,rfl⟩:=hk
      exact zYb R hop h0 he h1 h2 h3 hp
     ·cases hk
    ·simp only [Wb,Wa,Wg] at hk
     obtain ⟨_,_,_,_,rfl⟩:=hk; cases hp
  ·obtain ⟨_,_,rfl⟩:=hk; cases hp
  ·obtain ⟨k0,hk,rfl⟩:=hk
   rcases zOi xs k0 with e | ⟨_,_,_,_,rfl,e⟩
   ·rw [e] at hp; exact zMT R hop hk hp
   ·rw [e] at hp; cases hp
  ·cases hk
 ·cases hk
end
section
variable {ren:Rn} {we:World} {ωe:Nat→Ow} {U:Nat→Nat→Prop} {O:Nat→Prop} {σ:St} {a:Act} {w:World} {ω:Nat→Ow} {μ:Nat→Nat} {P:Program}
def upd{α:Type}(f:Nat→α)(k:Nat)(v:α):Nat→α:=fun x=>if x=k then v else f x
theorem zx{α:Type}(f:Nat→α)(k:Nat)(v:α):upd f k v k=v:=by simp [upd]
theorem zl{α:Type}(f:Nat→α){k j:Nat}(v:α)(h:j≠k):upd f k v j=f j:=by simp [upd,h]
theorem Rel.put(R:Rel ren we ωe U O σ a w ω μ)(d:Option Nat){v:V}{u:Value}(h:∀ i,d=some i→Rep ren (env U σ w ω μ) (.slot i 0) v u):Rel ren we ωe U O (σ.put d v) (a.put d u) w ω μ:=by
 cases d with
 | none=>exact R
 | some i=>
  refine ⟨R.df,by simpa [Act.put,St.put] using R.tl,fun j v' hj=>?_,R.bs,R.fs,R.ms,R.kp,R.ow,R.ul,R.fr,R.rs,R.gv⟩
  show Rep ren (env U σ w ω μ) _ _ _
  simp only [St.put,Act.put] at hj ⊢
  by_cases hji:j=i
  ·subst hji
   have hlt:j<σ.t.length:=by
    have:=(Wi.1 hj).1
    simpa using this
   rw [WF hlt] at hj
   cases hj
   have:(a.tmps.setIfInBounds j u).getD j undef=u:=by
    have h':j<a.tmps.size:=by rw [R.tl]; exact hlt
    simp [h']
   rw [this]
   exact h j rfl
  ·rw [WE (fun e=>hji e.symm)] at hj
   have:(a.tmps.setIfInBounds i u).getD j undef=a.tmps.getD j undef:=by
    simp [Array.getElem?_setIfInBounds_ne (fun e=>hji e.symm)]
   rw [this]
   exact R.ts j v' hj
theorem Rel.demote(R:Rel ren we ωe U O σ a w ω μ)(s:Src):Rel ren we ωe U O (σ.demote s) a w ω μ:=by
 cases s with
 | const v=>exact R
 | tmp t=>
  refine ⟨R.df,by simpa [St.demote] using R.tl,fun j v' hj=>?_,R.bs,R.fs,R.ms,R.kp,R.ow,R.ul,R.fr,R.rs,R.gv⟩
  show Rep ren (env U σ w ω μ) _ _ _
  simp only [St.demote] at hj
  rw [WN] at hj
  cases hv:σ.t[j]? with
  | none=>simp [hv] at hj
  | some v=>
   by_cases hjt:t=j
   ·subst hjt; simp [hv] at hj; subst hj; exact (R.ts t v hv).dem R.hU _
   ·simp [hv,hjt] at hj; subst hj; exact R.ts j v hv
theorem Rel.step(R:Rel ren we ωe U O σ a w ω μ){σ':St}{w':World}{ω':Nat→Ow}{μ':Nat→Nat}(F:Fr (env U σ w ω μ) (env U σ' w' ω' μ'))(ht:σ'.t=σ.t)
  (hg:∀ t j β h,t<σ.t.length→ω β=.gs (.slot t j) h→ω' β=.gs (.slot t j) h∧w'.heap[β]?=w.heap[β]?)
  (hb:∀ (id:Nat) (p:Bool) (cs:List V),σ'.b[id]?=some (.live p cs)→cs≠[]→(σ.b[id]?=some (.live p cs)∧ω' (μ id)=.blk id∧w'.heap[μ id]?=w.heap[μ id]?∧∀ j β h,ω β=.gs (.cell id j) h→ω' β=.gs (.cell id j) h∧w'.heap[β]?=w.heap[β]?) ∨
   (ω' (μ' id)=.blk id∧∃ arr T,w'.heap[μ' id]?=some (.cells arr T (0,0))∧cs.length≤arr.size ∧
    ∀ (j:Nat) (c:V),cs[j]?=some c→∃ u,arr[j]?=some u∧u.oneCell'=true∧(p=true→RepP ren w' (wr U ω') c u)∧Rep ren (env U σ' w' ω' μ') (.cell id j) c u))
  (hf:∀ (id:Nat) (cs:List V),σ'.b[id]?=some (.fz cs)→(σ.b[id]?=some (.fz cs)∧(∀ o,¬ wr U ω' (μ id) o)∧w'.heap[μ id]?=w.heap[μ id]?) ∨
   ((∀ o,¬ wr U ω' (μ' id) o)∧∃ arr T fr,w'.heap[μ' id]?=some (.cells arr T fr)∧cs.length≤arr.size ∧
    ∀ (j:Nat) (c:V),cs[j]?=some c→∃ u,arr[j]?=some u∧u.oneCell'=true∧RepP ren w' (wr U ω') c u))
  (hm:∀ (id:Nat) (es:Lm),σ'.b[id]?=some (.mp es)→(σ.b[id]?=some (.mp es)∧ω' (μ id)=.blk id∧w'.heap[μ id]?=w.heap[μ id]?) ∨
   (ω' (μ' id)=.blk id∧∃ arr clock,w'.heap[μ' id]?=some (.map arr clock)∧MapRep ren w' (wr U ω') es arr))
  {O':Nat→Prop} (hk:Kept O' w w') (hO:∀ k,k<we.heap.size→O' k→O k) (how:∀ k,ω' k≠.no→(we.heap.size≤k∨O k)∧k<w'.heap.size) (hrs:∀ k,zA w k≤zA w' k):Rel ren we ωe U O σ' a w' ω' μ':=by
 refine ⟨R.df,by rw [ht]; exact R.tl,fun j v hj=>?_,fun id p cs h=>?_,fun id cs h=>?_,fun id es h=>?_,R.kp.trans hk hO,how,R.ul,fun k o u h1 h2=>F.st k o u (R.fr k o u h1 h2).1 (R.fr k o u h1 h2).2,fun k=>Nat.le_trans (R.rs k) (hrs k),R.gv⟩
 ·rw [ht] at hj
  refine (R.ts j v hj).frame F (fun l β h e0 e=>?_)
  cases l with
  | slot t i=>cases e0; exact hg _ i β h (Wi.1 hj).1 e
  | cell id i=>cases e0
 ·refine zCo fun hne=>?_
  rcases hb id p cs h hne with ⟨h1,h2,h3,h4⟩ | h
  ·obtain ⟨e0,arr,T,e1,e2,e3⟩:=R.live h1 hne
   have hm:μ' id=μ id:=(F.id id cs.length (by simp [env,yq,h1])).2.1
   rw [hm]
   refine ⟨h2,arr,T,by rw [h3]; exact e1,e2,fun j c hc=>?_⟩
   obtain ⟨u,g1,g2,g3,g4⟩:=e3 j c hc
   exact ⟨u,g1,g2,fun hp=>(g3 hp).mono F.st,g4.frame F (fun l β h e0 e=>by cases l with | slot t i=>cases e0 | cell id i=>cases e0; exact h4 _ β h e)⟩
  ·exact h
 ·rcases hf id cs h with ⟨h1,h2,h3⟩ | h
  ·obtain ⟨e0,arr,T,fr,e1,e2,e3⟩:=R.fs id cs h1
   have hm:μ' id=μ id:=(F.id id cs.length (by simp [env,yq,h1])).2.1
   rw [hm]
   refine ⟨h2,arr,T,fr,by rw [h3]; exact e1,e2,fun j c hc=>?_⟩
   obtain ⟨u,g1,g2,g3⟩:=e3 j c hc
   exact ⟨u,g1,g2,g3.mono F.st⟩
  ·exact h
 ·rcases hm id es h with ⟨h1,h2,h3⟩ | h
  ·obtain ⟨e0,arr,clock,e1,e2⟩:=R.ms id es h1
   have hm':μ' id=μ id:=(F.id id 0 (by simp [env,yq,h1])).2.1
   rw [hm']
   exact ⟨h2,arr,clock,by rw [h3]; exact e1,e2.mono F.st⟩
  ·exact h
theorem ztz(U:Nat→Nat→Prop){ω:Nat→Ow}{β h:Nat}{l:Loc}(hβ:ω β=.gs l h)(l':Loc):wr U (upd ω β (.gs l' h))=wr U ω:=by
 funext k o
 unfold wr
 by_cases hk:k=β
 ·subst hk; rw [zx,hβ]
 ·rw [zl _ _ hk]
theorem Rep.frame1{E E':En}(F:Fr E E'){l:Loc}{v:V}{u:Value}(h:Rep ren E l v u)(hv:∀ x xs,v≠.tup (x::xs))
  (hg:∀ (β h:Nat),E.ω β=.gs l h→E'.ω β=.gs l h∧E'.w.heap[β]?=E.w.heap[β]?):Rep ren E' l v u:=by
 cases h with
 | pure h=>exact .pure (h.mono F.st)
 | gs sz es β c arr T f hω hb hc hn hsz hcell h1 h=>
  obtain ⟨g1,g2⟩:=hg _ _ hω
  exact .gs sz es β c arr T f g1 (by rw [g2]; exact hb) hc hn hsz hcell h1 (fun i v hv=>(h i v hv).mono F.st)
 | fr sz es β c arr T f hω hb hc hn hsz hcell h1 h=>
  obtain ⟨g1,g2⟩:=hg _ _ hω
  exact .fr sz es β c arr T f g1 (by rw [g2]; exact hb) hc hn hsz hcell h1 (fun i v hv=>(h i v hv).mono F.st)
 | fr0 sz A=>exact .fr0 sz A
 | ub b=>exact .ub b
 | mp id L hL=>exact Rep.frame0 F (fun _=>.mp id L hL) (by simp) _
 | bx p cs β arr T f hω hb hn hcell h1 h=>
  obtain ⟨g1,g2⟩:=hg _ _ hω
  exact .bx p cs β arr T f g1 (by rw [g2]; exact hb) hn hcell h1 (fun i v hv=>(h i v hv).mono F.st)
 | own id off len sz c L A hL hl hc hA=>exact Rep.frame0 F (fun _=>.own id off len sz c L A hL hl hc hA) (by simp) _
 | cut id off len cap sz c L A hL hl hc hA=>exact Rep.frame0 F (fun _=>.cut id off len cap sz c L A hL hl hc hA) (by simp) _
 | ptr id off L hL=>exact Rep.frame0 F (fun _=>.ptr id off L hL) (by simp) _
 | fp n cs k o f hl hcell h1 h=>exact Rep.frame0 F (fun _=>.fp n cs k o f hl hcell h1 h) (by simp) _
 | fn f g caps us hr hl h=>exact Rep.frame0 F (fun _=>.fn f g caps us hr hl h) (by simp) _
 | tup vs us hl h=>
  cases vs with
  | nil=>
   cases us with
   | nil=>exact .tup [] [] rfl (by simp)
   | cons x xs=>simp at hl
  | cons x xs=>exact absurd rfl (hv x xs)
 | st cs us hl h h1=>exact Rep.frame0 F (fun _=>.st cs us hl h h1) (by simp) _
 | junk=>exact .junk
theorem zlJ(U:Nat→Nat→Prop)(σ:St)(w:World)(μ:Nat→Nat){ω:Nat→Ow}{β h:Nat}{l:Loc}(hβ:ω β=.gs l h)(l':Loc):Fr (env U σ w ω μ) (env U σ w (upd ω β (.gs l' h)) μ):=by
 have hw:=ztz U hβ l'
 refine ⟨fun k o u h1 h2=>⟨?_,h2⟩,fun id L hL=>⟨hL,rfl,Wq _⟩⟩
 show ¬ wr U (upd ω β (.gs l' h)) k o
 rw [hw]; exact h1
theorem Rel.relabel(R:Rel ren we ωe U O σ a w ω μ){l:Loc}{β h:Nat}(hβ:ω β=.gs l h)(l':Loc)
  (hs:∀ (t:Nat) (v:V),σ.t[t]?=some v→l.hd=.slot t 0→Rep ren (env U σ w (upd ω β (.gs l' h)) μ) (.slot t 0) v (a.tmps.getD t undef))
  (hc:∀ (id j:Nat) (p:Bool) (cs:List V) (v:V),σ.b[id]?=some (.live p cs)→cs[j]?=some v→l=.cell id j→∀ u,Rep ren (env U σ w ω μ) (.cell id j) v u→Rep ren (env U σ w (upd ω β (.gs l' h)) μ) (.cell id j) v u) :
  Rel ren we ωe U O σ a w (upd ω β (.gs l' h)) μ:=by
 have hw:=ztz U hβ l'
 have F:=zlJ U σ w μ hβ l'
 refine ⟨R.df,R.tl,fun j v hj=>?_,fun id p cs hb=>?_,fun id cs hb=>?_,fun id es hb=>?_,R.kp,fun k hk=>?_,R.ul,fun k o u h1 h2=>F.st k o u (R.fr k o u h1 h2).1 (R.fr k o u h1 h2).2,R.rs,R.gv⟩
 ·by_cases hl:l.hd=.slot j 0
  ·exact hs j v hj hl
  ·refine (R.ts j v hj).frame F (fun l2 β2 h2 e1 e2=>⟨?_,rfl⟩)
   have e2:ω β2=.gs l2 h2:=e2
   show upd ω β (.gs l' h) β2=.gs l2 h2
   rw [zl]
   ·exact e2
   ·rintro rfl
    rw [hβ] at e2; cases e2
    exact hl e1
 ·refine zCo fun hne=>?_
  obtain ⟨e0,arr,T,e1,e2,e3⟩:=R.live hb hne
  refine ⟨?_,arr,T,e1,e2,fun j c hcj=>?_⟩
  ·rw [zl]
   ·exact e0
   ·intro e; rw [e,hβ] at e0; cases e0
  ·obtain ⟨u,g1,g2,g3,g4⟩:=e3 j c hcj
   refine ⟨u,g1,g2,fun hp=>(g3 hp).mono F.st,?_⟩
   by_cases hl:l=.cell id j
   ·exact hc id j p cs c hb hcj hl u g4
   ·refine g4.frame F (fun l2 β2 h2 e1 e2=>⟨?_,rfl⟩)
    have e2:ω β2=.gs l2 h2:=e2
    show upd ω β (.gs l' h) β2=.gs l2 h2
    rw [zl]
    ·exact e2
    ·rintro rfl
     rw [hβ] at e2; cases e2
     cases l with
     | slot t j'=>cases e1
     | cell i' j'=>exact hl e1
 ·obtain ⟨e0,arr,T,fr,e1,e2,e3⟩:=R.fs id cs hb
  refine ⟨by rw [hw]; exact e0,arr,T,fr,e1,e2,fun j c hcj=>?_⟩
  obtain ⟨u,g1,g2,g3⟩:=e3 j c hcj
  exact ⟨u,g1,g2,g3.mono F.st⟩
 ·obtain ⟨e0,arr,clock,e1,e2⟩:=R.ms id es hb
  refine ⟨?_,arr,clock,e1,e2.mono F.st⟩
  rw [zl]
  ·exact e0
  ·intro e; rw [e,hβ] at e0; cases e0
 ·by_cases hkb:k=β
  ·subst hkb; exact R.ow k (by rw [hβ]; simp)
  ·rw [zl _ _ hkb] at hk; exact R.ow k hk
theorem Rel.opndC(R:Rel ren we ωe U O σ a w ω μ){ty:TypeId}{x:Operand}{s:Src}(h:xj P ren ty x=some s):(∀ t,s=.tmp t→a.eval x=a.tmps.getD t undef)∧(∀ v,s=.const v→∀ l,Rep ren (env U σ w ω μ) l v (a.eval x)):=by
 cases x with
 | tmp t=>cases h; exact ⟨fun t' e=>by cases e; rfl,fun v e=>by cases e⟩
 | const v=>
  cases hc:zx8 P ty v with
  | none=>simp [xj,hc] at h
  | some v'=>simp [xj,hc] at h; subst h; exact ⟨fun t e=>(by cases e),fun v e l=>by cases e; exact zIh hc _ _⟩
 | global g=>
  cases hg:ren.g g with
  | none=>simp [xj,hg] at h
  | some cs=>simp [xj,hg] at h; subst h; exact ⟨fun t e=>(by cases e),fun v e l=>by cases e; exact GV.rep (E:=env U σ w ω μ) R.gvn hg l⟩
 | func f=>
  cases hr:ren f with
  | none=>simp [xj,hr] at h
  | some g=>simp [xj,hr] at h; subst h; exact ⟨fun t e=>(by cases e),fun v e l=>by cases e; exact .pure (.fn f g hr)⟩
theorem Rel.taken(R:Rel ren we ωe U O σ a w ω μ)(s:Src){u:Value}(hr:Rep ren (env U σ w ω μ) s.loc (s.get σ) u)(hu:∀ t,s=.tmp t→u=a.tmps.getD t undef)(hC:∀ v,s=.const v→∀ l,Rep ren (env U σ w ω μ) l v u)(l':Loc) :
  ∃ ω',Fr (env U σ w ω μ) (env U σ w ω' μ)∧Rel ren we ωe U O (σ.demote s) a w ω' μ∧Rep ren (env U σ w ω' μ) l' (s.get σ).tk u∧wr U ω'=wr U ω:=by
 have plain:(∀ sz es,s.get σ≠.gs sz es)→(∀ sz es,s.get σ≠.fr sz es)→∃ ω',Fr (env U σ w ω μ) (env U σ w ω' μ)∧Rel ren we ωe U O (σ.demote s) a w ω' μ∧Rep ren (env U σ w ω' μ) l' (s.get σ).tk u∧wr U ω'=wr U ω:=by
  intro hne hnf
  refine ⟨ω,⟨fun k o u h1 h2=>⟨h1,h2⟩,fun id L hL=>⟨hL,rfl,Wq _⟩⟩,R.demote s,?_,rfl⟩
  have e:(s.get σ).tk=(s.get σ).dem:=by
   cases h:s.get σ <;> first | rfl | exact absurd h (hne _ _) | exact absurd h (hnf _ _)
  rw [e]
  exact hr.dem R.hU l'
 cases hv:s.get σ with
 | gs sz es=>
  rw [hv] at hr
  cases hr with
  | pure h=>exact ⟨ω,⟨fun k o u h1 h2=>⟨h1,h2⟩,fun id L hL=>⟨hL,rfl,Wq _⟩⟩,R.demote s,.pure h,rfl⟩
  | gs _ _ β c arr T f hω hb hc hn hsz hcell h1 h=>
   have hβ:ω β=.gs s.loc (es.length*sz):=hω
   cases s with
   | const x=>
    have hx:x=.gs sz es:=hv
    subst hx
    have q:=hC _ rfl (.slot 1 0)
    cases q with
    | pure h=>exact ⟨ω,⟨fun k o u h1 h2=>⟨h1,h2⟩,fun id L hL=>⟨hL,rfl,Wq _⟩⟩,R.demote _,.pure h,rfl⟩
    | gs _ _ _ _ _ _ _ hω'=>rw [hω] at hω'; cases hω'
   | tmp t=>
    have R1:=R.demote (.tmp t)
    have F:=zlJ U σ w μ hβ l'
    have R':=R1.relabel (l:=.slot t 0) hβ l' (fun t' v hj hl=>by
      cases hl
      simp only [St.demote] at hj
      rw [WN] at hj
      cases hv':σ.t[t]? with
      | none=>simp [hv'] at hj
      | some v'=>
       simp [hv'] at hj; subst hj
       refine Rep.frame0 F (fun l=>(R.ts t v' hv').dem R.hU l) (fun x xs=>?_) _
       cases v' with
       | tup vs=>cases vs <;> simp [V.dem]
       | _=>simp [V.dem]) (fun id j p cs v _ _ hl=>by cases hl)
    exact ⟨_,F,R',.gs sz es β c arr T f (zx _ _ _) hb hc hn hsz hcell h1 (fun i v hv=>(h i v hv).mono F.st),ztz U hβ l'⟩
 | fr sz es=>
  rw [hv] at hr
  cases hr with
  | pure h=>cases h
  | fr0 _ A=>exact ⟨ω,⟨fun k o u h1 h2=>⟨h1,h2⟩,fun id L hL=>⟨hL,rfl,Wq _⟩⟩,R.demote s,.fr0 _ _,rfl⟩
  | fr _ _ β c arr T f hω hb hc hn hsz hcell h1 h=>
   have hβ:ω β=.gs s.loc 0:=hω
   cases s with
   | const x=>
    have hx:x=.fr sz es:=hv
    subst hx
    have q:=hC _ rfl (.slot 1 0)
    cases q with
    | pure h=>cases h
    | fr0 _ A=>exact ⟨ω,⟨fun k o u h1 h2=>⟨h1,h2⟩,fun id L hL=>⟨hL,rfl,Wq _⟩⟩,R.demote _,.fr0 _ _,rfl⟩
    | fr _ _ _ _ _ _ _ hω'=>rw [hω] at hω'; cases hω'
   | tmp t=>
    have R1:=R.demote (.tmp t)
    have F:=zlJ U σ w μ hβ l'
    have R':=R1.relabel (l:=.slot t 0) hβ l' (fun t' v hj hl=>by
      cases hl
      simp only [St.demote] at hj
      rw [WN] at hj
      cases hv':σ.t[t]? with
      | none=>simp [hv'] at hj
      | some v'=>
       simp [hv'] at hj; subst hj
       refine Rep.frame0 F (fun l=>(R.ts t v' hv').dem R.hU l) (fun x xs=>?_) _
       cases v' with
       | tup vs=>cases vs <;> simp [V.dem]
       | _=>simp [V.dem]) (fun id j p cs v _ _ hl=>by cases hl)
    exact ⟨_,F,R',.fr sz es β c arr T f (zx _ _ _) hb hc hn hsz hcell h1 (fun i v hv=>(h i v hv).mono F.st),ztz U hβ l'⟩
 | _=>rw [← hv]; exact plain (by rw [hv]; simp) (by rw [hv]; simp)
theorem Rel.newBlockG(R:Rel ren we ωe U O σ a w ω μ){id:Nat}(hid:σ.b[id]?=some .gone)(p:Bool)(cs:List V)(arr:Array Value)(T:TypeId)(hl:cs.length≤arr.size)
  (hc:∀ (j:Nat) (c:V),cs[j]?=some c→∃ u,arr[j]?=some u∧u.oneCell'=true∧(RepP ren w (wr U ω) c u∨(p=false∧(OwnAt (env U σ w ω μ) c u∨∀ (E:En) (l:Loc),Rep ren E l c u)))) :
  Fr (env U σ w ω μ) (env U (σ.setB id (.live p cs)) (w.alloc (.cells arr T)) (upd ω w.heap.size (.blk id)) (upd μ id w.heap.size)) ∧
  Rel ren we ωe U O (σ.setB id (.live p cs)) a (w.alloc (.cells arr T)) (upd ω w.heap.size (.blk id)) (upd μ id w.heap.size):=by
 have hlt:id<σ.b.length:=(Wi.1 hid).1
 have hnew:(w.alloc (.cells arr T)).heap[w.heap.size]?=some (.cells arr T (0,0)):=heap_alloc_new w _
 have hwsz:∀ k,ω k≠.no→k<w.heap.size:=fun k h=>(R.ow k h).2
 have hgs:∀ (l:Loc) β h,ω β=.gs l h→upd ω w.heap.size (.blk id) β=.gs l h∧(w.alloc (.cells arr T)).heap[β]?=w.heap[β]?:=by
  intro l β h e
  have hβ:=hwsz β (by rw [e]; simp)
  exact ⟨by rw [zl _ _ (by omega)]; exact e,heap_alloc_old w _ hβ⟩
 have F:Fr (env U σ w ω μ) (env U (σ.setB id (.live p cs)) (w.alloc (.cells arr T)) (upd ω w.heap.size (.blk id)) (upd μ id w.heap.size)):=by
  refine ⟨fun k o u h1 h2=>?_,fun id' L hL=>?_⟩
  ·have hk:k<w.heap.size:=World.block_lt_of_cell? w ⟨k,o,none⟩ h2
   refine ⟨?_,(World.cell?_alloc_lt w _ ⟨k,o,none⟩ hk).trans h2⟩
   show ¬ wr U (upd ω w.heap.size (.blk id)) k o
   unfold wr
   rw [zl _ _ (by omega)]
   exact h1
  ·have hL:yq σ.b id'=some L:=hL
   have hne:id'≠id:=by rintro rfl; simp [yq,hid] at hL
   refine ⟨?_,zl _ _ hne,?_⟩
   ·show yq (σ.b.set id _) id'=some L
    unfold yq at hL ⊢
    rw [WE (fun e=>hne e.symm)]
    exact hL
   ·show zA w (μ id')≤zA (w.alloc (.cells arr T)) (μ id')
    by_cases hm:μ id'<w.heap.size
    ·unfold zA; rw [heap_alloc_old w _ hm]; exact Wq _
    ·unfold zA; rw [WT (by omega)]; exact Nat.zero_le _
 refine ⟨F,R.step F rfl (fun t j β h _ e=>hgs _ β h e) (fun id' p' cs' h' hne'=>?_) (fun id' cs' h'=>?_) (fun id' es' h'=>?_) (Kept.alloc No w _) (fun k _ h=>zpJ h) (fun k hk=>?_) (fun k=>?_)⟩
 ·by_cases hne:id'=id
  ·subst hne
   simp only [St.setB] at h'
   rw [WF hlt] at h'
   cases h'
   refine .inr ⟨by rw [zx,zx],arr,T,by rw [zx]; exact hnew,hl,fun j c hj=>?_⟩
   obtain ⟨u,g1,g2,g3⟩:=hc j c hj
   rcases g3 with g3 | ⟨hp,g3 | g3⟩
   ·exact ⟨u,g1,g2,fun _=>g3.mono F.st,.pure (g3.mono F.st)⟩
   ·exact ⟨u,g1,g2,fun h=>(by rw [hp] at h; cases h),(g3.frame F).rep _⟩
   ·exact ⟨u,g1,g2,fun h=>(by rw [hp] at h; cases h),g3 _ _⟩
  ·simp only [St.setB] at h'
   rw [WE (fun e=>hne e.symm)] at h'
   obtain ⟨e0,arr',T',e1,_⟩:=R.live h' hne'
   have hβ:=hwsz (μ id') (by rw [e0]; simp)
   exact .inl ⟨h',by rw [zl _ _ (by omega)]; exact e0,heap_alloc_old w _ hβ,fun j β h e=>hgs _ β h e⟩
 ·by_cases hne:id'=id
  ·subst hne
   simp only [St.setB] at h'
   rw [WF hlt] at h'
   cases h'
  ·simp only [St.setB] at h'
   rw [WE (fun e=>hne e.symm)] at h'
   obtain ⟨e0,arr',T',fr',e1,_⟩:=R.fs id' cs' h'
   have hβ:μ id'<w.heap.size:=(Array.getElem?_eq_some_iff.1 e1).1
   refine .inl ⟨h',fun o hw=>e0 o ?_,heap_alloc_old w _ hβ⟩
   unfold wr at hw ⊢
   rwa [zl _ _ (by omega)] at hw
 ·by_cases hne:id'=id
  ·subst hne
   simp only [St.setB] at h'
   rw [WF hlt] at h'
   cases h'
  ·simp only [St.setB] at h'
   rw [WE (fun e=>hne e.symm)] at h'
   obtain ⟨e0,arr',clock',e1,_⟩:=R.ms id' es' h'
   have hβ:=hwsz (μ id') (by rw [e0]; simp)
   exact .inl ⟨h',by rw [zl _ _ (by omega)]; exact e0,heap_alloc_old w _ hβ⟩
 ·by_cases hk':k=w.heap.size
  ·subst hk'; exact ⟨.inl R.kp.size,by simp⟩
  ·rw [zl _ _ hk'] at hk
   exact ⟨(R.ow k hk).1,by have:=(R.ow k hk).2; simp; omega⟩
 ·by_cases hm:k<w.heap.size
  ·unfold zA; rw [heap_alloc_old w _ hm]; exact Wq _
  ·unfold zA; rw [WT (xs:=w.heap) (by omega)]; exact Nat.zero_le _
theorem Rel.newBlock(R:Rel ren we ωe U O σ a w ω μ){id:Nat}(hid:σ.b[id]?=some .gone)(p:Bool)(cs:List V)(arr:Array Value)(T:TypeId)(hl:cs.length≤arr.size)
  (hc:∀ (j:Nat) (c:V),cs[j]?=some c→∃ u,arr[j]?=some u∧u.oneCell'=true∧RepP ren w (wr U ω) c u) :
  Fr (env U σ w ω μ) (env U (σ.setB id (.live p cs)) (w.alloc (.cells arr T)) (upd ω w.heap.size (.blk id)) (upd μ id w.heap.size)) ∧
  Rel ren we ωe U O (σ.setB id (.live p cs)) a (w.alloc (.cells arr T)) (upd ω w.heap.size (.blk id)) (upd μ id w.heap.size):=
 R.newBlockG hid p cs arr T hl (fun j c h=>by obtain ⟨u,g1,g2,g3⟩:=hc j c h; exact ⟨u,g1,g2,.inl g3⟩)
theorem Rel.write(R:Rel ren we ωe U O σ a w ω μ){id:Nat}{p:Bool}{cs cs':List V}(hid:σ.b[id]?=some (.live p cs))(hne:cs≠[])(hl:cs'.length=cs.length){arr arr':Array Value}{T:TypeId}(ha:w.heap[μ id]?=some (.cells arr T (0,0)))(hs:arr'.size=arr.size){w':World}
  (hw1:w'.heap[μ id]?=some (.cells arr' T (0,0))) (hw2:∀ k,k≠μ id→w'.heap[k]?=w.heap[k]?) (hk:Kept (fun k=>k=μ id) w w') :
  Fr (env U σ w ω μ) (env U (σ.setB id (.live p cs')) w' ω μ) ∧
  ((∀ (j:Nat) (c:V),cs'[j]?=some c→∃ u,arr'[j]?=some u∧u.oneCell'=true∧(p=true→RepP ren w' (wr U ω) c u)∧Rep ren (env U (σ.setB id (.live p cs')) w' ω μ) (.cell id j) c u) →
   Rel ren we ωe U O (σ.setB id (.live p cs')) a w' ω μ):=by
 have hlt:id<σ.b.length:=(Wi.1 hid).1
 obtain ⟨e0,_⟩:=R.live hid hne
 have hcell:∀ k o,k≠μ id→w'.cell? ⟨k,o,none⟩=w.cell? ⟨k,o,none⟩:=fun k o h=>World.cell?_of_block (hw2 k h)
 have hwr:∀ o,wr U ω (μ id) o:=fun o=>.inr (by rw [e0]; trivial)
 have hgs:∀ (l:Loc) β h,ω β=.gs l h→ω β=.gs l h∧w'.heap[β]?=w.heap[β]?:=by
  intro l β h e
  exact ⟨e,hw2 β (by rintro rfl; rw [e0] at e; cases e)⟩
 have F:Fr (env U σ w ω μ) (env U (σ.setB id (.live p cs')) w' ω μ):=by
  refine ⟨fun k o u h1 h2=>⟨h1,?_⟩,fun id' L hL=>⟨?_,rfl,?_⟩⟩
  ·have:k≠μ id:=by rintro rfl; exact h1 (hwr o)
   exact (hcell k o this).trans h2
  ·have hL:yq σ.b id'=some L:=hL
   show yq (σ.b.set id _) id'=some L
   unfold yq at hL ⊢
   by_cases hne:id'=id
   ·subst hne
    rw [WF hlt]
    rw [hid] at hL
    simpa [hl] using hL
   ·rw [WE (fun e=>hne e.symm)]; exact hL
  ·show zA w (μ id')≤zA w' (μ id')
   by_cases hm:μ id'=μ id
   ·rw [hm]; unfold zA; rw [ha,hw1]; simp [hs]
   ·unfold zA; rw [hw2 _ hm]; exact Wq _
 refine ⟨F,fun hc=>R.step F rfl (fun t j β h _ e=>hgs _ β h e) (fun id' p' cs'' h' hne'=>?_) (fun id' cs'' h'=>?_) (fun id' es' h'=>?_) hk (fun k hk1 hk2=>?_) (fun k hk1=>?_) (fun k=>?_)⟩
 ·by_cases hne:id'=id
  ·subst hne
   simp only [St.setB] at h'
   rw [WF hlt] at h'
   cases h'
   exact .inr ⟨e0,arr',T,hw1,by obtain ⟨_,arr0,T0,g1,g2,_⟩:=R.live hid hne; rw [ha] at g1; cases g1; omega,hc⟩
  ·simp only [St.setB] at h'
   rw [WE (fun e=>hne e.symm)] at h'
   obtain ⟨e1,_⟩:=R.live h' hne'
   exact .inl ⟨h',e1,hw2 _ (by intro e; rw [e,e0] at e1; cases e1; exact hne rfl),fun j β h e=>hgs _ β h e⟩
 ·by_cases hne:id'=id
  ·subst hne
   simp only [St.setB] at h'
   rw [WF hlt] at h'
   cases h'
  ·simp only [St.setB] at h'
   rw [WE (fun e=>hne e.symm)] at h'
   obtain ⟨e1,_⟩:=R.fs id' cs'' h'
   exact .inl ⟨h',e1,hw2 _ (by intro e; rw [e] at e1; exact e1 0 (hwr 0))⟩
 ·by_cases hne:id'=id
  ·subst hne
   simp only [St.setB] at h'
   rw [WF hlt] at h'
   cases h'
  ·simp only [St.setB] at h'
   rw [WE (fun e=>hne e.symm)] at h'
   obtain ⟨e1,_⟩:=R.ms id' es' h'
   exact .inl ⟨h',e1,hw2 _ (by intro e; rw [e,e0] at e1; cases e1; exact hne rfl)⟩
 ·subst hk2
  rcases (R.ow (μ id) (by rw [e0]; simp)).1 with h | h
  ·omega
  ·exact h
 ·exact ⟨(R.ow k hk1).1,Nat.lt_of_lt_of_le (R.ow k hk1).2 hk.size⟩
 ·by_cases hm:k=μ id
  ·rw [hm]; unfold zA; rw [ha,hw1]; simp [hs]
  ·unfold zA; rw [hw2 _ hm]; exact Wq _
end
end Go.Proofs.YtgmhijonllockaaGreatDoor
