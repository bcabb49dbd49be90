/- Part 4 of the proof of BlockDecodes: an abstract machine over plain values, its soundness, and the functions of the program on plain values. -/
import Derived.Laws.AppendOwn
import Derived.MapKept
import Derived.Carry
import Derived.Test.YtgmhijonllockaaGreatDoorMBlockDecodes3
namespace Go.Proofs.YtgmhijonllockaaGreatDoor
set_option maxRecDepth 100000
set_option linter.unusedVariables false
set_option linter.unusedSimpArgs false
open List renaming getElem?_eq_some_iff->Wi,range->Wy,getElem?_set_self->WF,getElem?_set_ne->WE,getElem?_eq_getElem->Wc,getElem?_append_right->Wt,getElem?_append_left->Wv,getElem?_take->Wn,getElem?_range->Qx,getElem?_map->WJ,length_eq_zero_iff->WZ,length_range->Qy,size_toArray->Qz,getElem?_toArray->W6,length_pos_iff->WY,length_map->QB,mem_append->QD,flatten_append->QF,replicate->We,getElem?_drop->Wp,getD_eq_getElem?_getD->Ws,length_set->QI,mem_iff_getElem?->QJ
open Option renaming bind_eq_some_iff->Wa,bind_eq_bind->Wb,map_eq_some_iff->Wj
open Nat renaming mul_le_mul_right->WI,le_refl->Wq,add_mul->WG,zero_add->WB,le_trans->QE,le_mul_of_pos_left->QH
open Result renaming andThen_ok->WD
open Option.some renaming injEq->Wg
open _root_.Array renaming getElem?_append_left->W9,getElem?_eq_some_iff->QA,size_append->QC,getElem?_eq_none->WT,getElem?_toList->W5,getElem?_modify->QK,getElem?_push->QL
open Bool renaming false_eq_true->WP
open IntKind renaming wrap->QG
section
variable {ren:Rn} {we:World} {ωe:Nat→Ow} {U:Nat→Nat→Prop} {O:Nat→Prop} {σ:St} {a:Act} {w:World} {ω:Nat→Ow} {μ:Nat→Nat} {P:Program} {nb:Nat}
theorem Rel.sameHeap(R:Rel ren we ωe U O σ a w ω μ){w':World}(hh:w'.heap=w.heap)(h1:w'.os=w.os)(h2:w'.tape=w.tape)(h3:w'.output=w.output):Fr (env U σ w ω μ) (env U σ w' ω μ)∧Rel ren we ωe U O σ a w' ω μ:=by
 have hc:∀ ad,w'.cell? ad=w.cell? ad:=fun ad=>by unfold World.cell?; rw [hh]
 have hrs:∀ k,yA w' k=yA w k:=fun k=>by unfold yA; rw [hh]
 have F:Fr (env U σ w ω μ) (env U σ w' ω μ):=⟨fun k o u g1 g2=>⟨g1,(hc _).trans g2⟩,fun id L hL=>⟨hL,rfl,by show yA w (μ id)≤yA w' (μ id); rw [hrs]; exact Wq _⟩⟩
 refine ⟨F,R.step F rfl (fun t j β h _ e=>⟨e,by rw [hh]⟩) (fun id p cs h hne=>.inl ⟨h,(R.live h hne).1,by rw [hh],fun j β h e=>⟨e,by rw [hh]⟩⟩) (fun id cs h=>.inl ⟨h,(R.fs id cs h).1,by rw [hh]⟩) (fun id es h=>.inl ⟨h,(R.ms id es h).1,by rw [hh]⟩) (O':=No) ⟨h1,h2,h3,by rw [hh]; exact Wq _,fun k _ _=>by rw [hh]⟩ (fun k _ h=>zn1 h) (fun k hk=>by rw [hh]; exact R.ow k hk) (fun k=>by rw [hrs]; exact Wq _)⟩
theorem Rel.drew(R:Rel ren we ωe U O σ a w ω μ):Fr (env U σ w ω μ) (env U σ w.drew ω μ)∧Rel ren we ωe U O σ a w.drew ω μ:=R.sameHeap rfl rfl rfl rfl
theorem Rel.grow(R:Rel ren we ωe U O σ a w ω μ){T j0:Nat}(hT:σ.t.length≤T){β h:Nat}(hβ:ω β=.gs (.slot T j0) h){arr arr':Array Value}{Ty:TypeId}(hb:w.heap[β]?=some (.cells arr Ty (0,0)))(hs:arr'.size=arr.size)(hsame:∀ i,i<h→arr'[i]?=arr[i]?) :
  Fr (env U σ w ω μ) (env U σ (w.setRow β arr') ω μ)∧Rel ren we ωe U O σ a (w.setRow β arr') ω μ:=by
 have hnew:=setRow_heap w β arr arr' Ty _ hb
 have hoth:=fun k (hk:k≠β)=>setRow_other w β k arr' hk
 have F:Fr (env U σ w ω μ) (env U σ (w.setRow β arr') ω μ):=by
  refine ⟨fun k o u h1 h2=>⟨h1,?_⟩,fun id L hL=>⟨hL,rfl,?_⟩⟩
  ·by_cases hk:k=β
   ·subst hk
    have h1:¬ wr U ω k o:=h1
    have ho:o<h:=by
     unfold wr at h1
     rw [hβ] at h1
     simp only [not_or] at h1
     omega
    have h2:w.cell? ⟨k,o,none⟩=some u:=h2
    show (w.setRow k arr').cell? ⟨k,o,none⟩=some u
    rw [cell_of_row _ _ _ _ _ _ hb] at h2
    rw [cell_of_row _ _ _ _ _ _ hnew,hsame o ho]; exact h2
   ·exact (World.cell?_of_block (a:=⟨k,o,none⟩) (hoth k hk)).trans h2
  ·show yA w (μ id)≤yA (w.setRow β arr') (μ id)
   by_cases hk:μ id=β
   ·rw [hk,zbl hb,zbl hnew,hs]; exact Wq _
   ·unfold yA; rw [hoth _ hk]; exact Wq _
 refine ⟨F,R.step F rfl (fun t j β2 h2 ht e=>⟨e,hoth β2 ?_⟩) (fun id p cs h' hne=>.inl ⟨h',(R.live h' hne).1,hoth _ ?_,fun j β2 h2 e=>⟨e,hoth β2 (by rintro rfl; rw [hβ] at e; cases e)⟩⟩) (fun id cs h'=>?_) (fun id es h'=>.inl ⟨h',(R.ms id es h').1,hoth _ (by intro e; have:=(R.ms id es h').1; rw [e,hβ] at this; cases this)⟩) (zpT w β arr') (fun k hk1 hk2=>?_) (fun k hk=>by rw [setRow_size]; exact R.ow k hk) (fun k=>?_)⟩
 ·rintro rfl
  rw [hβ] at e; cases e
  omega
 ·intro e
  have:=(R.live h' hne).1
  rw [e,hβ] at this; cases this
 ·by_cases hk:μ id=β
  ·obtain ⟨e0,arr0,T0,fr0,e1,e2,e3⟩:=R.fs id cs h'
   exfalso
   rw [hk] at e0
   exact e0 h (.inr (by rw [hβ]; exact Wq _))
  ·exact .inl ⟨h',(R.fs id cs h').1,hoth _ hk⟩
 ·subst hk2
  rcases (R.ow k (by rw [hβ]; simp)).1 with h | h
  ·omega
  ·exact h
 ·by_cases hk:k=β
  ·rw [hk,zbl hb,zbl hnew,hs]; exact Wq _
  ·unfold yA; rw [hoth _ hk]; exact Wq _
theorem zqA{sz n:Nat}{A:Option Addr}{len cap:Nat}(xs:List Value)(hl:xs.length=n*sz)(h:xs≠[]→∃ ad,A=some ad∧∀ (j:Nat) (u:Value),xs[j]?=some u→w.cell? (ad.add j)=some u):(Builtin.firstCells sz n (.slice A len cap)).run P w=.ok xs.toArray w:=by
 cases A with
 | none=>
  have:xs=[]:=by
   cases xs with
   | nil=>rfl
   | cons x xs=>obtain ⟨ad,e,_⟩:=h (by simp); cases e
  subst this
  simp [Builtin.firstCells]
 | some ad=>
  have hl':=run_loadCells_list (P:=P) w ad xs (fun j u hu=>by
   have hne:xs≠[]:=by rintro rfl; simp at hu
   obtain ⟨ad',e,hc⟩:=h hne
   cases e; exact hc j u hu)
  rw [hl] at hl'
  simp only [Builtin.firstCells,hl']
theorem zgj{t ty e:TypeId}{i:TypeInfo}{z:Value}(ht:P.underlying t=some (.slice e))(hi:P.info? e=some i)(hz:i.zero=some z){A B:Option Addr}{sLen sCap m c2:Nat}{olds news:List Value}(hol:olds.length=sLen*i.size)(hold:olds≠[]→∃ ad,A=some ad∧∀ (j:Nat) (u:Value),olds[j]?=some u→w.cell? (ad.add j)=some u)
  (hnl:news.length=m*i.size) (hnew:news≠[]→∃ ad,B=some ad∧∀ (j:Nat) (u:Value),news[j]?=some u→w.cell? (ad.add j)=some u) (hg:sCap<sLen+m) (hb:(sLen+m)*i.bytes≤140737488355328) (h63:sLen+m≤140737488355328) :
  (Builtin.append_ #[t,t] ty #[.slice A sLen sCap,.slice B m c2]).run P w =
   .ok (.slice (some ⟨w.heap.size,0,none⟩) (sLen+m) (grownCap w (sLen+m) sCap e)) (w.drew.alloc (.cells (olds.toArray++news.toArray++Builtin.zeroCells z.cells (grownCap w (sLen+m) sCap e-(sLen+m))) e)):=by
 have hn:¬ (sLen+m≤sCap):=by omega
 have h63':¬ (9223372036854775807<((sLen:Int)+(m:Int))):=by omega
 have h48':¬ (281474976710656<Builtin.nextslicecap (sLen+m) sCap*i.bytes):=by have:=growslice_fits hg hb; omega
 have hf:=zqA (P:=P) (w:=w.drew) (len:=m) (cap:=c2) news hnl (by simpa using hnew)
 have hfo:=zqA (P:=P) (w:=w.drew) (len:=sLen) (cap:=sCap) olds hol (by simpa using hold)
 simp [Builtin.append_,run_underlying ht,sizeOf,typeInfo,zeroValue,hi,hz,Builtin.lenOf,hn,h63',h48',Question.forced,hf,hfo,newRow,grownCap]
 congr 2
 apply Array.ext'
 simp [List.append_assoc]
theorem zjQ{t ty e:TypeId}{i:TypeInfo}(ht:P.underlying t=some (.slice e))(hi:P.info? e=some i){B:Option Addr}{g sLen sCap m c2:Nat}{cur:Array Value}{Ty:TypeId}(hgb:w.heap[g]?=some (.cells cur Ty (0,0))){news:List Value}
  (hnl:news.length=m*i.size) (hnew:news≠[]→∃ ad,B=some ad∧∀ (j:Nat) (u:Value),news[j]?=some u→w.cell? (ad.add j)=some u) (h1:∀ u∈news,u.oneCell'=true) (hroom:sLen+m≤sCap) (hfit:sLen*i.size+news.length≤cur.size) :
  (Builtin.append_ #[t,t] ty #[.slice (some ⟨g,0,none⟩) sLen sCap,.slice B m c2]).run P w =
   .ok (.slice (some ⟨g,0,none⟩) (sLen+m) sCap) (w.setRow g (cur.toList.take (sLen*i.size)++news++cur.toList.drop (sLen*i.size+news.length)).toArray):=by
 have hf:=zqA (P:=P) (w:=w) (len:=m) (cap:=c2) news hnl hnew
 have hst:=run_storeCells_at P g (sLen*i.size) Ty news 0 cur w hgb (by simpa using hfit) h1
 simp only [Nat.add_zero] at hst
 simp [Builtin.append_,run_underlying ht,sizeOf,typeInfo,hi,Builtin.lenOf,hroom,hf,Addr.add_lit,hst]
theorem zgV{t ty e:TypeId}{i:TypeInfo}(ht:P.underlying t=some (.slice e))(hi:P.info? e=some i){A B:Option Addr}{n c2:Nat} :
  (Builtin.append_ #[t,t] ty #[.slice A n n,.slice B 0 c2]).run P w=.ok (.slice A n n) w:=by
 have hf:(Builtin.firstCells i.size 0 (.slice B 0 c2)).run P w=.ok #[] w:=zqA (P:=P) (w:=w) [] (by simp) (by simp)
 cases A <;> simp [Builtin.append_,run_underlying ht,sizeOf,typeInfo,hi,Builtin.lenOf,hf,storeCells]
theorem Rep.gs_inv{E:En}{l:Loc}{sz:Nat}{es:Ls}{u:Value}(h:Rep ren E l (.gs sz es) u):(∃ (A:Option Addr) (f:Nat→Value) (k o:Nat),u=.slice A es.length es.length∧(∀ e∈es,e.length=sz)∧(es≠[]→A=some ⟨k,o,none⟩)∧(∀ (i:Nat) (v:V),es.flatten[i]?=some v→¬ E.Wr k (o+i)∧E.w.cell? ⟨k,o+i,none⟩=some (f i)) ∧
   (∀ (i:Nat) (v:V),es.flatten[i]?=some v→(f i).oneCell'=true)∧(∀ (i:Nat) (v:V),es.flatten[i]?=some v→RepP ren E.w E.Wr v (f i))∧(es=[]∨zFk=true)) ∨
  (∃ (β c:Nat) (arr:Array Value) (T:TypeId) (f:Nat→Value),u=.slice (some ⟨β,0,none⟩) es.length c∧E.ω β=.gs l (es.length*sz)∧E.w.heap[β]?=some (.cells arr T (0,0))∧c*sz≤arr.size∧es.length≤c∧(∀ e∈es,e.length=sz) ∧
   (∀ (i:Nat) (v:V),es.flatten[i]?=some v→arr[i]?=some (f i))∧(∀ (i:Nat) (v:V),es.flatten[i]?=some v→(f i).oneCell'=true)∧(∀ (i:Nat) (v:V),es.flatten[i]?=some v→RepP ren E.w E.Wr v (f i))):=by
 cases h with
 | pure h=>cases h with | ful _ _ A f hsz k o hA hcell h1 h hon=>exact .inl ⟨A,f,k,o,rfl,hsz,hA,hcell,h1,h,hon⟩
 | gs _ _ β c arr T f hω hb hc hn hsz hcell h1 h=>exact .inr ⟨β,c,arr,T,f,rfl,hω,hb,hc,hn,hsz,hcell,h1,h⟩
theorem zcf{o:Oper}{t u:TypeId}{s x:Operand}(hop:o.op=.call { callee:=.builtin .append,args:=#[s,x],argTypes:=#[t,u] }){v:Value}{w':World}(h:(Builtin.append_ #[t,u] o.type #[a.eval s,a.eval x]).run P w=.ok v w'):(execOp a.eval o).run P w=.ok (.value v) w':=by
 simp only [execOp,hop,resolve,Sem.run_bind,Sem.run_pure,WD,invoke,builtin]
 have e:(#[s,x].map a.eval)=#[a.eval s,a.eval x]:=by simp
 rw [e,h]
 rfl
theorem zBB{Wr:Nat→Nat→Prop}{es es2:Ls}{f g:Nat→Value}{sz:Nat}(h1:∀ e∈es,e.length=sz){i:Nat}{v:V}(hv:(es++es2).flatten[i]?=some v)
  (H1:∀ (i:Nat) (v:V),es.flatten[i]?=some v→(f i).oneCell'=true∧RepP ren w Wr v (f i)) (H2:∀ (i:Nat) (v:V),es2.flatten[i]?=some v→(g i).oneCell'=true∧RepP ren w Wr v (g i)) (n2:Nat) (hn2:es2.flatten.length=n2) :
  ∃ u,((Wy (es.length*sz)).map f++(Wy n2).map g)[i]?=some u∧u.oneCell'=true∧RepP ren w Wr v u:=by
 have hfl:=yV h1
 rw [QF] at hv
 by_cases hi:i<es.flatten.length
 ·rw [Wv hi] at hv
  refine ⟨f i,?_,(H1 i v hv).1,(H1 i v hv).2⟩
  rw [Wv (by simp; omega)]
  simp [show i<es.length*sz by omega]
 ·rw [Wt (by omega)] at hv
  have hlt:i-es.flatten.length<es2.flatten.length:=(Wi.1 hv).1
  refine ⟨g (i-es.length*sz),?_,?_⟩
  ·rw [Wt (by simp; omega)]
   simp only [QB,Qy]
   rw [WJ,Qx (by omega)]; rfl
  ·rw [← hfl]; exact H2 _ v hv
theorem zDK(R:Rel ren we ωe U O σ a w ω μ){o:Oper}{t u e:TypeId}{s x:Operand}(hop:o.op=.call { callee:=.builtin .append,args:=#[s,x],argTypes:=#[t,u] }){i:TypeInfo}{zv:Value}{sz:Nat}(e2:i.size=sz)(hzs:zv.cells.size=sz)
  {ss:Src} {t1:TypeId} (h1:yj P ren t1 s=some ss) {nb:Nat} {es es2:Ls} (hg:ss.get σ=.gs sz es) (hs2:∀ x∈es2,x.length=sz) {f2:Nat→Value} (H2w:∀ (i:Nat) (v:V),es2.flatten[i]?=some v→(f2 i).oneCell'=true∧RepP ren w (wr U ω) v (f2 i))
  {σ':St} (hput:(σ.demote ss).putG nb o.dst false sz (es++es2)=some σ')
  (rG:∀ (A:Option Addr) (sLen sCap:Nat) (olds:List Value),olds.length=sLen*i.size→(olds≠[]→∃ ad,A=some ad∧∀ (j:Nat) (u:Value),olds[j]?=some u→w.cell? (ad.add j)=some u)→sCap<sLen+es2.length→sLen=es.length→sLen≤sCap →
   (Builtin.append_ #[t,u] o.type #[.slice A sLen sCap,a.eval x]).run P w=.ok (.slice (some ⟨w.heap.size,0,none⟩) (sLen+es2.length) (grownCap w (sLen+es2.length) sCap e)) (w.drew.alloc (.cells (olds.toArray++((Wy (es2.length*sz)).map f2).toArray++Builtin.zeroCells zv.cells (grownCap w (sLen+es2.length) sCap e-(sLen+es2.length))) e)))
  (rN:es2=[]→∀ (A:Option Addr) (n:Nat),(Builtin.append_ #[t,u] o.type #[.slice A n n,a.eval x]).run P w=.ok (.slice A n n) w)
  (rF:∀ (g sCap sLen:Nat) (cur:Array Value) (Ty:TypeId),w.heap[g]?=some (.cells cur Ty (0,0))→sLen+es2.length≤sCap→sLen*i.size+((Wy (es2.length*sz)).map f2).length≤cur.size →
   (Builtin.append_ #[t,u] o.type #[.slice (some ⟨g,0,none⟩) sLen sCap,a.eval x]).run P w=.ok (.slice (some ⟨g,0,none⟩) (sLen+es2.length) sCap) (w.setRow g (cur.toList.take (sLen*i.size)++(Wy (es2.length*sz)).map f2++cur.toList.drop (sLen*i.size+((Wy (es2.length*sz)).map f2).length)).toArray)):StepOk P ren we ωe U O a w o σ' nb μ:=by
 have hfl2:=yV hs2
 obtain ⟨cc1,cc2⟩:=R.opndC h1
 obtain ⟨ω1,F1,R1,hr1,hw1⟩:=R.taken ss (R.opnd h1) cc1 cc2 (.slot (σ.t.length) 0)
 have en:env U (σ.demote ss) w ω1 μ=env U σ w ω1 μ:=by cases ss <;> rfl
 have hT:(σ.demote ss).t.length≤σ.t.length:=by cases ss <;> simp [St.demote]
 rw [hg] at hr1
 have hr1:Rep ren (env U σ w ω1 μ) (.slot σ.t.length 0) (.gs sz es) (a.eval s):=hr1
 have H2:∀ (i:Nat) (v:V),es2.flatten[i]?=some v→(f2 i).oneCell'=true∧RepP ren w (wr U ω1) v (f2 i):=fun i v hv=>⟨(H2w i v hv).1,by rw [hw1]; exact (H2w i v hv).2⟩
 have hlen:(es++es2).length=es.length+es2.length:=by simp
 have growing:∀ (A:Option Addr) (cap:Nat) (f:Nat→Value),a.eval s=.slice A es.length cap→(∀ e∈es,e.length=sz)→(es≠[]→∃ ad,A=some ad∧∀ (j:Nat) (u:Value),((Wy (es.length*sz)).map f)[j]?=some u→w.cell? (ad.add j)=some u) →
   (∀ (i:Nat) (v:V),es.flatten[i]?=some v→(f i).oneCell'=true∧RepP ren w (wr U ω1) v (f i))→cap<es.length+es2.length→es.length≤cap→StepOk P ren we ωe U O a w o σ' nb μ:=by
  intro A cap f ex hes holds H1 hgrow hle0
  have run:=rG A es.length cap ((Wy (es.length*sz)).map f) (by simp [e2]) (fun hne=>holds (by rintro rfl; simp at hne)) hgrow rfl hle0
  refine .value (zcf hop (by rw [ex]; exact run)) ?_
  obtain ⟨Fd,Rd⟩:=R1.drew
  have hcapge:=grownCap_ge w (es.length+es2.length) cap e
  have key:=zxJ (nb:=nb) (dst:=o.dst) (pin:=false) (sz:=sz) (es:=es++es2) Rd hput (arr:=((Wy (es.length*sz)).map f).toArray++((Wy (es2.length*sz)).map f2).toArray++Builtin.zeroCells zv.cells (grownCap w (es.length+es2.length) cap e-(es.length+es2.length))) (T:=e) (c:=grownCap w (es.length+es2.length) cap e)
   (fun x hx=>by rcases QD.1 hx with h | h; exact hes x h; exact hs2 x h) (by rw [hlen]; exact hcapge) (fun h=>by cases h)
   (by
    simp only [QC,Qz,QB,Qy,size_zeroCells,hzs]
    rw [← WG,← WG]
    exact WI sz (by omega))
   (fun j v hv=>by
    obtain ⟨u,g1,g2,g3⟩:=zBB (ren:=ren) (w:=w) (Wr:=wr U ω1) hes hv H1 H2 (es2.length*sz) hfl2
    refine ⟨u,?_,g2,g3.mono Fd.st⟩
    have hj:j<((Wy (es.length*sz)).map f++(Wy (es2.length*sz)).map f2).length:=(Wi.1 g1).1
    rw [W9 (by simp at hj ⊢; omega)]
    simpa using g1)
  rw [hlen] at key
  exact key
 rcases hr1.gs_inv with ⟨A,f,k0,o0,ex,hsz,hA,hcellF,hone1,hrep1,hon⟩ | ⟨β,cap,arr,Ty,f,ex,hω,hb,hcap,hn,hsz,hcell1,hone1,hrep1⟩
 ·by_cases hm:es2=[]
  ·subst hm
   simp only [St.putG,WP,if_false,Wg] at hput
   subst hput
   have run:=rN rfl A es.length
   refine .value (zcf hop (by rw [ex]; exact run)) ⟨ω1,μ,R1.put _ (fun i _=>?_),fun _ _=>rfl⟩
   rw [List.append_nil]
   exact .pure (.ful sz es A f hsz k0 o0 hA (by rw [en]; exact hcellF) hone1 (by rw [en]; exact hrep1) hon)
  ·have:0<es2.length:=WY.2 hm
   have hfl:=yV hsz
   exact growing A es.length f ex hsz (fun hne=>⟨_,hA hne,fun j u hu=>by
    have hj:j<es.length*sz:=by have:=(Wi.1 hu).1; simpa using this
    simp [hj] at hu; subst hu
    rw [zc6]
    exact (hcellF j _ (Wc (by omega))).2⟩) (fun i v hv=>⟨hone1 i v hv,hrep1 i v hv⟩) (by omega) (Wq _)
 ·have hes:∀ e∈es,e.length=sz:=hsz
  have hfl:=yV hes
  have H1:∀ (i:Nat) (v:V),es.flatten[i]?=some v→(f i).oneCell'=true∧RepP ren w (wr U ω1) v (f i):=fun i v hv=>⟨hone1 i v hv,hrep1 i v hv⟩
  have hb:w.heap[β]?=some (.cells arr Ty (0,0)):=hb
  by_cases hgrow:cap<es.length+es2.length
  ·refine growing _ cap f ex hes (fun hne=>⟨_,rfl,fun j u hu=>?_⟩) H1 hgrow hn
   have hj:j<es.length*sz:=by have:=(Wi.1 hu).1; simpa using this
   simp [hj] at hu; subst hu
   rw [zc6,WB,cell_of_row _ _ _ _ _ _ hb]
   exact hcell1 j _ (Wc (by omega))
  ·have hω:ω1 β=.gs (.slot σ.t.length 0) (es.length*sz):=hω
   have hcapsz:(es.length+es2.length)*sz≤arr.size:=QE (WI _ (by omega)) hcap
   have hle:es.length*sz+es2.length*sz≤arr.size:=by rw [← WG]; exact hcapsz
   have run:=rF β cap es.length arr Ty hb (by omega) (by simp [e2]; omega)
   rw [e2] at run
   refine .value (zcf hop (by rw [ex]; exact run)) ?_
   have hasz:(arr.toList.take (es.length*sz)++(Wy (es2.length*sz)).map f2++arr.toList.drop (es.length*sz+((Wy (es2.length*sz)).map f2).length)).toArray.size=arr.size:=by simp; omega
   have hget:∀ j,(arr.toList.take (es.length*sz)++(Wy (es2.length*sz)).map f2++arr.toList.drop (es.length*sz+((Wy (es2.length*sz)).map f2).length)).toArray[j]?=if es.length*sz≤j∧j<es.length*sz+es2.length*sz then ((Wy (es2.length*sz)).map f2)[j-es.length*sz]? else arr.toList[j]?:=by
    intro j
    rw [W6,zij (by simp; omega)]
    simp
   obtain ⟨F2,R2⟩:=R1.grow hT hω hb hasz (fun j hj=>by rw [hget,if_neg (by omega)]; simp)
   simp only [St.putG,WP,if_false,Wg] at hput
   subst hput
   cases hd:o.dst with
   | none=>exact ⟨_,_,R2,fun _ _=>rfl⟩
   | some d=>
    obtain ⟨F3,R3⟩:=R2.reown hT hω (.slot d 0) ((es++es2).length*sz) (by rw [hlen]; exact WI sz (by omega))
    refine ⟨_,_,R3.put (some d) (fun j hj=>?_),fun _ _=>rfl⟩
    cases hj
    have hcells:∀ (j:Nat) (v:V),(es++es2).flatten[j]?=some v→∃ u,(arr.toList.take (es.length*sz)++(Wy (es2.length*sz)).map f2++arr.toList.drop (es.length*sz+((Wy (es2.length*sz)).map f2).length)).toArray[j]?=some u∧u.oneCell'=true∧RepP ren w (wr U ω1) v u:=by
     intro j v hv
     rw [hget]
     rw [QF] at hv
     by_cases hj:j<es.flatten.length
     ·rw [Wv hj] at hv
      rw [if_neg (by omega)]
      exact ⟨f j,by simpa using hcell1 j v hv,(H1 j v hv).1,(H1 j v hv).2⟩
     ·rw [Wt (by omega)] at hv
      have hlt:j-es.flatten.length<es2.flatten.length:=(Wi.1 hv).1
      rw [if_pos (by omega)]
      refine ⟨f2 (j-es.length*sz),?_,?_⟩
      ·rw [WJ,Qx (by omega)]; rfl
      ·rw [← hfl]; exact H2 _ v hv
    have en2:env U (σ.demote ss) w ω1 μ=env U σ w ω1 μ:=en
    have key:=Rep.gs (ren:=ren) (E:=env U (σ.demote ss) (w.setRow β (arr.toList.take (es.length*sz)++(Wy (es2.length*sz)).map f2++arr.toList.drop (es.length*sz+((Wy (es2.length*sz)).map f2).length)).toArray) (upd ω1 β (.gs (.slot d 0) ((es++es2).length*sz))) μ) (l:=.slot d 0) sz (es++es2) β cap _ Ty
     (fun j=>((arr.toList.take (es.length*sz)++(Wy (es2.length*sz)).map f2++arr.toList.drop (es.length*sz+((Wy (es2.length*sz)).map f2).length)).toArray[j]?).getD undef) (xv _ _ _) (setRow_heap w β arr _ Ty _ hb) (by rw [hasz]; exact hcap) (by rw [hlen]; omega) (fun x hx=>by rcases QD.1 hx with h | h; exact hes x h; exact hs2 x h)
     (fun j v hv=>by obtain ⟨u,g1,g2,g3⟩:=hcells j v hv; rw [g1]; rfl) (fun j v hv=>by obtain ⟨u,g1,g2,g3⟩:=hcells j v hv; rw [g1]; exact g2)
     (fun j v hv=>by obtain ⟨u,g1,g2,g3⟩:=hcells j v hv; rw [g1]; exact (g3.mono F2.st).mono F3.st)
    rwa [show Value.slice (some ⟨β,0,none⟩) (es++es2).length cap=Value.slice (some ⟨β,0,none⟩) (es.length+es2.length) cap by rw [hlen]] at key
theorem zbe(R:Rel ren we ωe U O σ a w ω μ){o:Oper}{t u e:TypeId}{s x:Operand}(hop:o.op=.call { callee:=.builtin .append,args:=#[s,x],argTypes:=#[t,u] }){zv:Value}{sz:Nat}(hzs:zv.cells.size=sz)
  {nb:Nat} {es2:Ls} {A:Option Addr} (ex:a.eval s=.slice A 0 0) (hs2:∀ x∈es2,x.length=sz) {f2:Nat→Value} (H2:∀ (i:Nat) (v:V),es2.flatten[i]?=some v→(f2 i).oneCell'=true∧RepP ren w (wr U ω) v (f2 i))
  {σ':St} {pin:Bool} (hput:σ.putG nb o.dst pin sz es2=some σ')
  (rG:es2≠[]→(Builtin.append_ #[t,u] o.type #[.slice A 0 0,a.eval x]).run P w=.ok (.slice (some ⟨w.heap.size,0,none⟩) (0+es2.length) (grownCap w (0+es2.length) 0 e)) (w.drew.alloc (.cells (([]:List Value).toArray++((Wy (es2.length*sz)).map f2).toArray++Builtin.zeroCells zv.cells (grownCap w (0+es2.length) 0 e-(0+es2.length))) e)))
  (rN:es2=[]→(Builtin.append_ #[t,u] o.type #[.slice A 0 0,a.eval x]).run P w=.ok (.slice A 0 0) w):StepOk P ren we ωe U O a w o σ' nb μ:=by
 have hfl2:=yV hs2
 by_cases hm:es2=[]
 ·subst hm
  refine .value (zcf hop (by rw [ex]; exact rN rfl)) ?_
  cases pin with
  | true=>
   simp only [St.putG,if_true] at hput
   obtain ⟨d,hd,hg,rfl⟩:=zfe hput
   have hlt:nb+d<σ.b.length:=(Wi.1 hg).1
   obtain ⟨F,R'⟩:=R.empty hg true
   rw [hd]
   exact ⟨_,_,R'.put (some d) (fun i hi=>.own (nb+d) 0 0 sz 0 0 A (zed hlt _ _) (by omega) ⟨by omega,fun _=>.inr rfl⟩ (.inr ⟨rfl,rfl⟩)),fun _ _=>rfl⟩
  | false=>
   simp only [St.putG,WP,if_false,Wg] at hput
   subst hput
   exact ⟨ω,μ,R.put _ (fun i _=>.pure (.nil _ _)),fun _ _=>rfl⟩
 ·refine .value (zcf hop (by rw [ex]; exact rG hm)) ?_
  obtain ⟨Fd,Rd⟩:=R.drew
  have hcapge:=grownCap_ge w (0+es2.length) 0 e
  have key:=zxJ (nb:=nb) (dst:=o.dst) (pin:=pin) (sz:=sz) (es:=es2) Rd hput (arr:=([]:List Value).toArray++((Wy (es2.length*sz)).map f2).toArray++Builtin.zeroCells zv.cells (grownCap w (0+es2.length) 0 e-(0+es2.length))) (T:=e) (c:=grownCap w (0+es2.length) 0 e)
   hs2 (by omega) (fun _ he=>absurd he hm)
   (by
    simp only [QC,Qz,QB,Qy,size_zeroCells,hzs,List.length_nil,WB]
    rw [← WG]
    exact WI sz (by omega))
   (fun j v hv=>by
    have hj:j<es2.length*sz:=by rw [← hfl2]; exact (Wi.1 hv).1
    obtain ⟨g2,g3⟩:=H2 j v hv
    refine ⟨f2 j,?_,g2,g3.mono Fd.st⟩
    rw [W9 (by simp; omega)]
    simp [hj])
  rw [WB] at key ⊢
  exact key
theorem Rel.deaden(R:Rel ren we ωe U O σ a w ω μ){id:Nat}{p:Bool}{cs:List V}(hid:σ.b[id]?=some (.live p cs)) :
  Fr (env U σ w ω μ) (env U (σ.setB id (.dead cs.length)) w ω μ)∧Rel ren we ωe U O (σ.setB id (.dead cs.length)) a w ω μ:=by
 have hlt:id<σ.b.length:=(Wi.1 hid).1
 have F:Fr (env U σ w ω μ) (env U (σ.setB id (.dead cs.length)) w ω μ):=by
  refine ⟨fun k o u h1 h2=>⟨h1,h2⟩,fun id' L hL=>⟨?_,rfl,Wq _⟩⟩
  have hL:yr σ.b id'=some L:=hL
  show yr (σ.b.set id _) id'=some L
  unfold yr at hL ⊢
  by_cases hne:id'=id
  ·subst hne; rw [WF hlt]; rw [hid] at hL; exact hL
  ·rw [WE (fun e=>hne e.symm)]; exact hL
 refine ⟨F,R.step F rfl (fun t j β h _ e=>⟨e,rfl⟩) (fun id' p' cs' h' hne'=>?_) (fun id' cs' h'=>?_) (fun id' es' h'=>?_) (Kept.refl No w) (fun k _ h=>zn1 h) R.ow (fun k=>Wq _)⟩
 ·simp only [St.setB] at h'
  by_cases hne:id'=id
  ·subst hne; rw [WF hlt] at h'; cases h'
  ·rw [WE (fun e=>hne e.symm)] at h'
   exact .inl ⟨h',(R.live h' hne').1,rfl,fun j β h e=>⟨e,rfl⟩⟩
 ·simp only [St.setB] at h'
  by_cases hne:id'=id
  ·subst hne; rw [WF hlt] at h'; cases h'
  ·rw [WE (fun e=>hne e.symm)] at h'
   exact .inl ⟨h',(R.fs id' cs' h').1,rfl⟩
 ·simp only [St.setB] at h'
  by_cases hne:id'=id
  ·subst hne; rw [WF hlt] at h'; cases h'
  ·rw [WE (fun e=>hne e.symm)] at h'
   exact .inl ⟨h',(R.ms id' es' h').1,rfl⟩
theorem Rel.rehome(R:Rel ren we ωe U O σ a w ω μ){id id2:Nat}{cs cs2:List V}(hid:σ.b[id]?=some (.live true cs))(hne:cs≠[])(h2:(σ.setB id (.dead cs.length)).b[id2]?=some .gone){arr arr2:Array Value}{T:TypeId}(ha:w.heap[μ id]?=some (.cells arr T (0,0)))(hs:arr2.size=arr.size)(hl:cs2.length≤arr2.size)
  (hc:∀ (j:Nat) (c:V),cs2[j]?=some c→∃ u,arr2[j]?=some u∧u.oneCell'=true∧RepP ren w (wr U ω) c u) :
  Fr (env U σ w ω μ) (env U ((σ.setB id (.dead cs.length)).setB id2 (.live true cs2)) (w.setRow (μ id) arr2) (upd ω (μ id) (.blk id2)) (upd μ id2 (μ id))) ∧
  Rel ren we ωe U O ((σ.setB id (.dead cs.length)).setB id2 (.live true cs2)) a (w.setRow (μ id) arr2) (upd ω (μ id) (.blk id2)) (upd μ id2 (μ id)):=by
 obtain ⟨e0,arr0,T0,e1,e2,e3⟩:=R.live hid hne
 have hlt:id<σ.b.length:=(Wi.1 hid).1
 have hlt2:id2<(σ.setB id (.dead cs.length)).b.length:=(Wi.1 h2).1
 have hidne:id2≠id:=by
  rintro rfl
  simp only [St.setB] at h2
  rw [WF hlt] at h2; cases h2
 have hold:∀ k,k≠id→k≠id2→((σ.setB id (.dead cs.length)).setB id2 (.live true cs2)).b[k]?=σ.b[k]?:=by
  intro k h1 h2
  simp only [St.setB]
  rw [WE (fun e=>h2 e.symm),WE (fun e=>h1 e.symm)]
 have hat:((σ.setB id (.dead cs.length)).setB id2 (.live true cs2)).b[id2]?=some (.live true cs2):=WF hlt2
 have hat1:((σ.setB id (.dead cs.length)).setB id2 (.live true cs2)).b[id]?=some (.dead cs.length):=by
  simp only [St.setB]
  rw [WE hidne,WF hlt]
 have hg2:σ.b[id2]?=some .gone:=by
  simp only [St.setB] at h2
  rwa [WE (fun e=>hidne e.symm)] at h2
 have hnew:=setRow_heap w (μ id) arr arr2 T _ ha
 have hoth:=fun k (hk:k≠μ id)=>setRow_other w (μ id) k arr2 hk
 have hw:wr U (upd ω (μ id) (.blk id2))=wr U ω:=by
  funext k o
  unfold wr
  by_cases hk:k=μ id
  ·subst hk; rw [xv,e0]
  ·rw [yl _ _ hk]
 have hgs:∀ (l:Loc) β h,ω β=.gs l h→upd ω (μ id) (.blk id2) β=.gs l h∧(w.setRow (μ id) arr2).heap[β]?=w.heap[β]?:=by
  intro l β h e
  have hne:β≠μ id:=by rintro rfl; rw [e0] at e; cases e
  exact ⟨by rw [yl _ _ hne]; exact e,hoth β hne⟩
 have F:Fr (env U σ w ω μ) (env U ((σ.setB id (.dead cs.length)).setB id2 (.live true cs2)) (w.setRow (μ id) arr2) (upd ω (μ id) (.blk id2)) (upd μ id2 (μ id))):=by
  refine ⟨fun k o u h1 h2=>?_,fun id' L hL=>?_⟩
  ·have h1:¬ wr U ω k o:=h1
   have hk:k≠μ id:=by rintro rfl; exact h1 (.inr (by rw [e0]; trivial))
   refine ⟨?_,(World.cell?_of_block (a:=⟨k,o,none⟩) (hoth k hk)).trans h2⟩
   show ¬ wr U (upd ω (μ id) (.blk id2)) k o
   rw [hw]; exact h1
  ·have hL:yr σ.b id'=some L:=hL
   have hne2:id'≠id2:=by rintro rfl; simp [yr,hg2] at hL
   refine ⟨?_,yl _ _ hne2,?_⟩
   ·show yr ((σ.setB id (.dead cs.length)).setB id2 (.live true cs2)).b id'=some L
    unfold yr at hL ⊢
    by_cases hne1:id'=id
    ·subst hne1; rw [hat1]; rw [hid] at hL; exact hL
    ·rw [hold id' hne1 hne2]; exact hL
   ·show yA w (μ id')≤yA (w.setRow (μ id) arr2) (μ id')
    by_cases hm:μ id'=μ id
    ·rw [hm,zbl ha,zbl hnew,hs]; exact Wq _
    ·unfold yA; rw [hoth _ hm]; exact Wq _
 refine ⟨F,R.step F rfl (fun t j β h _ e=>hgs _ β h e) (fun id' p' cs' h' hne'=>?_) (fun id' cs' h'=>?_) (fun id' es' h'=>?_) (zpT w (μ id) arr2) (fun k hk1 hk2=>?_) (fun k hk=>?_) (fun k=>?_)⟩
 ·by_cases hx:id'=id2
  ·subst hx
   rw [hat] at h'; cases h'
   refine .inr ⟨by rw [xv,xv],arr2,T,by rw [xv]; exact hnew,hl,fun j c hj=>?_⟩
   obtain ⟨u,g1,g2,g3⟩:=hc j c hj
   exact ⟨u,g1,g2,fun _=>g3.mono F.st,.pure (g3.mono F.st)⟩
  ·by_cases hy:id'=id
   ·subst hy; rw [hat1] at h'; cases h'
   ·rw [hold id' hy hx] at h'
    obtain ⟨q0,_⟩:=R.live h' hne'
    have hm:μ id'≠μ id:=by intro e; rw [e,e0] at q0; cases q0; exact hy rfl
    exact .inl ⟨h',by rw [yl _ _ hm]; exact q0,hoth _ hm,fun j β h e=>hgs _ β h e⟩
 ·by_cases hx:id'=id2
  ·subst hx; rw [hat] at h'; cases h'
  ·by_cases hy:id'=id
   ·subst hy; rw [hat1] at h'; cases h'
   ·rw [hold id' hy hx] at h'
    obtain ⟨q0,_⟩:=R.fs id' cs' h'
    have hm:μ id'≠μ id:=by intro e; rw [e] at q0; exact q0 0 (.inr (by rw [e0]; trivial))
    exact .inl ⟨h',by rw [hw]; exact q0,hoth _ hm⟩
 ·by_cases hx:id'=id2
  ·subst hx; rw [hat] at h'; cases h'
  ·by_cases hy:id'=id
   ·subst hy; rw [hat1] at h'; cases h'
   ·rw [hold id' hy hx] at h'
    obtain ⟨q0,_⟩:=R.ms id' es' h'
    have hm:μ id'≠μ id:=by intro e; rw [e,e0] at q0; cases q0; exact hy rfl
    exact .inl ⟨h',by rw [yl _ _ hm]; exact q0,hoth _ hm⟩
 ·subst hk2
  rcases (R.ow (μ id) (by rw [e0]; simp)).1 with h | h
  ·omega
  ·exact h
 ·rw [setRow_size]
  by_cases hkb:k=μ id
  ·subst hkb; exact R.ow _ (by rw [e0]; simp)
  ·rw [yl _ _ hkb] at hk; exact R.ow k hk
 ·by_cases hk:k=μ id
  ·rw [hk,zbl ha,zbl hnew,hs]; exact Wq _
  ·unfold yA; rw [hoth _ hk]; exact Wq _
theorem Rel.unhome(R:Rel ren we ωe U O σ a w ω μ){id:Nat}{cs:List V}(hid:σ.b[id]?=some (.live true cs))(hne:cs≠[])(l:Loc)(h:Nat) :
  Fr (env U σ w ω μ) (env U (σ.setB id (.dead cs.length)) w (upd ω (μ id) (.gs l h)) μ)∧Rel ren we ωe U O (σ.setB id (.dead cs.length)) a w (upd ω (μ id) (.gs l h)) μ:=by
 obtain ⟨e0,arr0,T0,e1,e2,e3⟩:=R.live hid hne
 have hlt:id<σ.b.length:=(Wi.1 hid).1
 have hgs:∀ (l':Loc) β h',ω β=.gs l' h'→upd ω (μ id) (.gs l h) β=.gs l' h'∧w.heap[β]?=w.heap[β]?:=by
  intro l' β h' e
  have hne:β≠μ id:=by rintro rfl; rw [e0] at e; cases e
  exact ⟨by rw [yl _ _ hne]; exact e,rfl⟩
 have F:Fr (env U σ w ω μ) (env U (σ.setB id (.dead cs.length)) w (upd ω (μ id) (.gs l h)) μ):=by
  refine ⟨fun k o u h1 h2=>⟨?_,h2⟩,fun id' L hL=>⟨?_,rfl,Wq _⟩⟩
  ·have h1:¬ wr U ω k o:=h1
   have hk:k≠μ id:=by rintro rfl; exact h1 (.inr (by rw [e0]; trivial))
   show ¬ wr U (upd ω (μ id) (.gs l h)) k o
   unfold wr
   rw [yl _ _ hk]; exact h1
  ·have hL:yr σ.b id'=some L:=hL
   show yr (σ.b.set id _) id'=some L
   unfold yr at hL ⊢
   by_cases hne:id'=id
   ·subst hne; rw [WF hlt]; rw [hid] at hL; exact hL
   ·rw [WE (fun e=>hne e.symm)]; exact hL
 refine ⟨F,R.step F rfl (fun t j β h _ e=>hgs _ β h e) (fun id' p' cs' h' hne'=>?_) (fun id' cs' h'=>?_) (fun id' es' h'=>?_) (Kept.refl No w) (fun k _ h=>zn1 h) (fun k hk=>?_) (fun k=>Wq _)⟩
 ·simp only [St.setB] at h'
  by_cases hne:id'=id
  ·subst hne; rw [WF hlt] at h'; cases h'
  ·rw [WE (fun e=>hne e.symm)] at h'
   have q0:=(R.live h' hne').1
   have hm:μ id'≠μ id:=by intro e; rw [e,e0] at q0; cases q0; exact hne rfl
   exact .inl ⟨h',by rw [yl _ _ hm]; exact q0,rfl,fun j β h e=>hgs _ β h e⟩
 ·simp only [St.setB] at h'
  by_cases hne:id'=id
  ·subst hne; rw [WF hlt] at h'; cases h'
  ·rw [WE (fun e=>hne e.symm)] at h'
   have q0:=(R.fs id' cs' h').1
   have hm:μ id'≠μ id:=by intro e; rw [e] at q0; exact q0 0 (.inr (by rw [e0]; trivial))
   refine .inl ⟨h',fun o hw=>q0 o ?_,rfl⟩
   unfold wr at hw ⊢
   rwa [yl _ _ hm] at hw
 ·simp only [St.setB] at h'
  by_cases hne:id'=id
  ·subst hne; rw [WF hlt] at h'; cases h'
  ·rw [WE (fun e=>hne e.symm)] at h'
   have q0:=(R.ms id' es' h').1
   have hm:μ id'≠μ id:=by intro e; rw [e,e0] at q0; cases q0; exact hne rfl
   exact .inl ⟨h',by rw [yl _ _ hm]; exact q0,rfl⟩
 ·by_cases hkb:k=μ id
  ·subst hkb; exact R.ow _ (by rw [e0]; simp)
  ·rw [yl _ _ hkb] at hk; exact R.ow k hk
theorem zF0(R:Rel ren we ωe U O σ a w ω μ){o:Oper}{x:Operand}(hop:o.op=.move x∨o.op=.assign x){s:Src}{t:TypeId}(hs:yj P ren t x=some s){nb:Nat}{cb:CB}{pin:Bool}{σ':St}(h:yd cb nb σ o.dst pin (.unpin s)=some σ'):StepOk P ren we ωe U O a w o σ' nb μ:=by
 have run:(execOp a.eval o).run P w=.ok (.value (a.eval x)) w:=by
  rcases hop with e | e <;> simp [execOp,e]
 cases pin with
 | true=>simp [yd] at h
 | false=>
  have h0:=h
  simp only [yd,WP,if_false] at h
  split at h
  ·rename_i id off len sz hg
   split at h
   ·rename_i cs hb
    split at h
    ·rename_i hc
     obtain ⟨rfl,hle,hn0⟩:=hc
     have hne:cs≠[]:=by rintro rfl; exact hn0 rfl
     cases h
     have hr:=R.opnd hs
     rw [hg] at hr
     obtain ⟨c,L,A,ex,hL,hl,⟨hlc,hz⟩,hA⟩:=hr.own_inv
     have hcl:=zw sz len cs
     have hce:=za2 sz len cs hle
     have hcf:=z9 sz len cs
     refine .value run ?_
     cases hd:o.dst with
     | none=>
      obtain ⟨Fd,Rd⟩:=R.deaden hb
      exact ⟨_,_,Rd,fun _ _=>rfl⟩
     | some d=>
      rcases hA with ⟨rfl,hAc⟩ | ⟨rfl,rfl⟩
      ·obtain ⟨e0,arr,T,e1,e2,e3⟩:=R.live hb hne
       have hAc:0+c*sz≤yA w (μ id):=hAc
       rw [zbl e1,WB] at hAc
       obtain ⟨F,R'⟩:=R.unhome hb hne (.slot d 0) (len*sz)
       refine ⟨_,_,R'.put (some d) (fun j hj=>?_),fun _ _=>rfl⟩
       cases hj
       have hcells:∀ (i:Nat) (v:V),(yf sz len cs).flatten[i]?=some v→∃ u,arr[i]?=some u∧u.oneCell'=true∧RepP ren w (wr U ω) v u:=by
        intro i v hv
        rw [hcf,Wn] at hv
        split at hv
        ·obtain ⟨u,g1,g2,g3,_⟩:=e3 i v hv
         exact ⟨u,g1,g2,g3 rfl⟩
        ·cases hv
       have key:=Rep.gs (ren:=ren) (E:=env U (σ.setB id (.dead cs.length)) w (upd ω (μ id) (.gs (.slot d 0) (len*sz))) μ) (l:=.slot d 0) sz (yf sz len cs) (μ id) c arr T (fun j=>(arr[j]?).getD undef) (by rw [hcl]; exact xv _ _ _) e1 hAc (by rw [hcl]; exact hlc) hce
        (fun i v hv=>by obtain ⟨u,g1,g2,g3⟩:=hcells i v hv; rw [g1]; rfl)
        (fun i v hv=>by obtain ⟨u,g1,g2,g3⟩:=hcells i v hv; rw [g1]; exact g2)
        (fun i v hv=>by obtain ⟨u,g1,g2,g3⟩:=hcells i v hv; rw [g1]; exact g3.mono F.st)
       rw [hcl] at key
       rw [ex]
       exact key
      ·obtain ⟨Fd,Rd⟩:=R.deaden hb
       refine ⟨_,_,Rd.put (some d) (fun j hj=>?_),fun _ _=>rfl⟩
       rw [ex]
       exact .pure (.nil _ _)
    ·cases h
   ·cases h
  ·rename_i sz es hg
   refine zzY (take:=true) (pin:=false) (cb:=cb) (nb:=nb) R hop hs ?_
   simp only [yd,WP,if_false,if_true,hg]
   exact h
  ·cases h
theorem zqd(R:Rel ren we ωe U O σ a w ω μ){x:Operand}{sx:Src}{t2:TypeId}(h2:yj P ren t2 x=some sx){sz sz2:Nat}{es2:Ls}(hv:zbc σ.b (sx.get σ)=some (.sl sz2 es2))(c2:sz2=sz∨es2=[]) :
  ∃ (B:Option Addr) (cB:Nat) (f2:Nat→Value),a.eval x=.slice B es2.length cB∧(∀ x∈es2,x.length=sz) ∧
   ((Wy (es2.length*sz)).map f2≠[]→∃ ad,B=some ad∧∀ (j:Nat) (u:Value),((Wy (es2.length*sz)).map f2)[j]?=some u→w.cell? (ad.add j)=some u) ∧
   (∀ u∈(Wy (es2.length*sz)).map f2,u.oneCell'=true)∧(∀ (i:Nat) (v:V),es2.flatten[i]?=some v→(f2 i).oneCell'=true∧RepP ren w (wr U ω) v (f2 i)):=by
 obtain ⟨B,cB,f2,k2,q2,eu2,hcB,hsz2,hB,hcell2⟩:=R.view (R.opnd h2) hv
 have hs2:∀ x∈es2,x.length=sz:=by
  rcases c2 with rfl | rfl
  ·exact hsz2
  ·simp
 have hfl2:=yV hs2
 refine ⟨B,cB,f2,eu2,hs2,fun hne=>?_,fun u hu=>?_,fun i v hv=>⟨(hcell2 i v hv).2.1,(hcell2 i v hv).2.2⟩⟩
 ·have:es2≠[]:=by rintro rfl; simp at hne
  refine ⟨_,hB this,fun j u hu=>?_⟩
  have hj:j<es2.length*sz:=by have:=(Wi.1 hu).1; simpa using this
  simp [hj] at hu; subst hu
  rw [zc6]
  exact (hcell2 j _ (Wc (by omega))).1
 ·simp only [List.mem_map,List.mem_range] at hu
  obtain ⟨j,hj,rfl⟩:=hu
  exact (hcell2 j _ (Wc (by omega))).2.1
theorem zOp(R:Rel ren we ωe U O σ a w ω μ){o:Oper}{t e:TypeId}{s x:Operand}(hop:o.op=.call { callee:=.builtin .append,args:=#[s,x],argTypes:=#[t,t] }){i:TypeInfo}{zv:Value}{sz:Nat}(e2:i.size=sz)(hzs:zv.cells.size=sz)(hpos:0<sz)
  {ss:Src} {t1:TypeId} (h1:yj P ren t1 s=some ss) {nb id len:Nat} {cs:List V} {es2:Ls} (hg:ss.get σ=.own id 0 len sz) (hb:σ.b[id]?=some (.live true cs)) (hs2:∀ x∈es2,x.length=sz) {f2:Nat→Value} (H2:∀ (i:Nat) (v:V),es2.flatten[i]?=some v→(f2 i).oneCell'=true∧RepP ren w (wr U ω) v (f2 i)) (hsome:len+es2.length≠0∨cs.length=0)
  {σ':St} (hput:(σ.setB id (.dead cs.length)).newB nb o.dst (.live true (cs.take (len*sz)++es2.flatten)) (fun id'=>.own id' 0 (len+es2.length) sz)=some σ')
  (rG:∀ (A:Option Addr) (sLen sCap:Nat) (olds:List Value),olds.length=sLen*i.size→(olds≠[]→∃ ad,A=some ad∧∀ (j:Nat) (u:Value),olds[j]?=some u→w.cell? (ad.add j)=some u)→sCap<sLen+es2.length→sLen=len →
   (Builtin.append_ #[t,t] o.type #[.slice A sLen sCap,a.eval x]).run P w=.ok (.slice (some ⟨w.heap.size,0,none⟩) (sLen+es2.length) (grownCap w (sLen+es2.length) sCap e)) (w.drew.alloc (.cells (olds.toArray++((Wy (es2.length*sz)).map f2).toArray++Builtin.zeroCells zv.cells (grownCap w (sLen+es2.length) sCap e-(sLen+es2.length))) e)))
  (rN:es2=[]→∀ A:Option Addr,(Builtin.append_ #[t,t] o.type #[.slice A 0 0,a.eval x]).run P w=.ok (.slice A 0 0) w)
  (rF:∀ (g sCap sLen:Nat) (cur:Array Value) (Ty:TypeId),w.heap[g]?=some (.cells cur Ty (0,0))→sLen+es2.length≤sCap→sLen*i.size+((Wy (es2.length*sz)).map f2).length≤cur.size →
   (Builtin.append_ #[t,t] o.type #[.slice (some ⟨g,0,none⟩) sLen sCap,a.eval x]).run P w=.ok (.slice (some ⟨g,0,none⟩) (sLen+es2.length) sCap) (w.setRow g (cur.toList.take (sLen*i.size)++(Wy (es2.length*sz)).map f2++cur.toList.drop (sLen*i.size+((Wy (es2.length*sz)).map f2).length)).toArray)):StepOk P ren we ωe U O a w o σ' nb μ:=by
 have hfl2:=yV hs2
 obtain ⟨d,hd,hgone,rfl⟩:=zfe hput
 have hr:=R.opnd h1
 rw [hg] at hr
 obtain ⟨c,L,A,ex,hL,hl,⟨hlc,hz⟩,hA⟩:=hr.own_inv
 have hL':yr σ.b id=some L:=hL
 have:L=cs.length:=by simp [yr,hb] at hL'; exact hL'.symm
 subst this
 rw [WB] at hl
 have hlt2:nb+d<(σ.setB id (.dead cs.length)).b.length:=(Wi.1 hgone).1
 have htl:(cs.take (len*sz)).length=len*sz:=by simp; omega
 have hcl:(cs.take (len*sz)++es2.flatten).length=(len+es2.length)*sz:=by rw [List.length_append,htl,hfl2,WG]
 obtain ⟨Fd,Rd⟩:=R.deaden hb
 by_cases hroom:len+es2.length≤c
 ·by_cases hc0:c=0
  ·subst hc0
   have hl0:len=0:=by omega
   have he0:es2=[]:=WZ.1 (by omega)
   subst hl0 he0
   refine .value (zcf hop (by rw [ex]; exact rN rfl A)) ?_
   obtain ⟨F,R'⟩:=Rd.empty hgone true
   rw [hd]
   have hnil:cs.take (0*sz)++([]:Ls).flatten=[]:=by simp
   rw [hnil]
   exact ⟨_,_,R'.put (some d) (fun i hi=>.own (nb+d) 0 0 sz 0 0 A (zed hlt2 _ _) (by omega) ⟨by omega,fun _=>.inr rfl⟩ (.inr ⟨rfl,rfl⟩)),fun _ _=>rfl⟩
  ·have hne:cs≠[]:=by
    rintro rfl
    rcases hz rfl with q | q
    ·omega
    ·exact hc0 q
   have hne0:len+es2.length≠0:=by
    rcases hsome with q | q
    ·exact q
    ·exact absurd (WZ.1 q) hne
   obtain ⟨e0,arr,T,e1,e2',e3⟩:=R.live hb hne
   rcases hA with ⟨rfl,hAc⟩ | ⟨_,q⟩
   ·have hAc:0+c*sz≤yA w (μ id):=hAc
    rw [zbl e1,WB] at hAc
    have hfit:(len+es2.length)*sz≤arr.size:=QE (WI sz hroom) hAc
    have hfit':len*sz+es2.length*sz≤arr.size:=by rw [← WG]; exact hfit
    have run:=rF (μ id) c len arr T e1 hroom (by simp [e2]; omega)
    rw [e2] at run
    refine .value (zcf hop (by rw [ex]; exact run)) ?_
    have hasz:(arr.toList.take (len*sz)++(Wy (es2.length*sz)).map f2++arr.toList.drop (len*sz+((Wy (es2.length*sz)).map f2).length)).toArray.size=arr.size:=by simp; omega
    have hget:∀ j,(arr.toList.take (len*sz)++(Wy (es2.length*sz)).map f2++arr.toList.drop (len*sz+((Wy (es2.length*sz)).map f2).length)).toArray[j]?=if len*sz≤j∧j<len*sz+es2.length*sz then ((Wy (es2.length*sz)).map f2)[j-len*sz]? else arr.toList[j]?:=by
     intro j
     rw [W6,zij (by simp; omega)]
     simp
    obtain ⟨F,R'⟩:=R.rehome hb hne hgone (cs2:=cs.take (len*sz)++es2.flatten) e1 hasz (by rw [hasz,hcl]; exact hfit) (fun j v hj=>by
     rw [hget]
     by_cases hjl:j<len*sz
     ·rw [Wv (by omega),Wn,if_pos hjl] at hj
      rw [if_neg (by omega)]
      obtain ⟨u,g1,g2,g3,_⟩:=e3 j v hj
      exact ⟨u,by simpa using g1,g2,g3 rfl⟩
     ·rw [Wt (by omega),htl] at hj
      have hlt:j-len*sz<es2.flatten.length:=(Wi.1 hj).1
      rw [if_pos (by omega)]
      exact ⟨f2 (j-len*sz),by rw [WJ,Qx (by omega)]; rfl,H2 _ v hj⟩)
    rw [hd]
    refine ⟨_,_,R'.put (some d) (fun i hi=>?_),fun k hk=>zlP hk⟩
    have hposn:sz≤(len+es2.length)*sz:=QH sz (by omega)
    refine .own (nb+d) 0 (len+es2.length) sz c _ _ (zed hlt2 _ _) (by rw [hcl]; omega) ⟨hroom,fun h0=>by rw [hcl] at h0; omega⟩ (.inl ⟨?_,?_⟩)
    ·show some (Addr.mk (μ id) 0 none)=some ⟨upd μ (nb+d) (μ id) (nb+d),0,none⟩
     rw [xv]
    ·show 0+c*sz≤yA (w.setRow (μ id) _) (upd μ (nb+d) (μ id) (nb+d))
     rw [xv,zbl (setRow_heap w (μ id) arr _ T _ e1),hasz]; omega
   ·exact absurd q hc0
 ·have hpn:0<es2.length:=by omega
  obtain ⟨olds,hol,hold,hcells⟩:∃ olds:List Value,olds.length=len*sz∧(olds≠[]→∃ ad,A=some ad∧∀ (j:Nat) (u:Value),olds[j]?=some u→w.cell? (ad.add j)=some u)∧∀ (j:Nat) (v:V),(cs.take (len*sz))[j]?=some v→∃ u,olds[j]?=some u∧u.oneCell'=true∧RepP ren w (wr U ω) v u:=by
   by_cases hne:cs=[]
   ·subst hne
    have:len*sz=0:=by simp at hl; omega
    exact ⟨[],by simp [this],fun h=>absurd rfl h,fun j v hj=>by simp at hj⟩
   ·obtain ⟨e0,arr,T,e1,e2',e3⟩:=R.live hb hne
    refine ⟨arr.toList.take (len*sz),by simp; omega,fun hn=>?_,fun j v hj=>?_⟩
    ·rcases hA with ⟨rfl,_⟩ | ⟨rfl,_⟩
     ·refine ⟨_,rfl,fun j u hu=>?_⟩
      rw [Wn] at hu
      split at hu
      ·rw [zc6,WB]
       show w.cell? ⟨μ id,j,none⟩=some u
       rw [cell_of_row _ _ _ _ _ _ e1]; simpa using hu
      ·cases hu
     ·simp at hn
    ·rw [Wn] at hj
     split at hj
     ·rename_i hjl
      obtain ⟨u,g1,g2,g3,_⟩:=e3 j v hj
      exact ⟨u,by rw [Wn,if_pos hjl]; simpa using g1,g2,g3 rfl⟩
     ·cases hj
  have run:=rG A len c olds (by rw [hol,e2]) hold (by omega) rfl
  refine .value (zcf hop (by rw [ex]; exact run)) ?_
  obtain ⟨Fw,Rw⟩:=Rd.drew
  have hcapge:=grownCap_ge w (len+es2.length) c e
  have hasz:(olds.toArray++((Wy (es2.length*sz)).map f2).toArray++Builtin.zeroCells zv.cells (grownCap w (len+es2.length) c e-(len+es2.length))).size=grownCap w (len+es2.length) c e*sz:=by
   simp only [QC,Qz,QB,Qy,size_zeroCells,hzs,hol]
   rw [← WG,← WG]
   congr 1
   omega
  have hcapsz:(len+es2.length)*sz≤grownCap w (len+es2.length) c e*sz:=WI sz hcapge
  obtain ⟨F,R'⟩:=Rw.newBlock hgone true (cs.take (len*sz)++es2.flatten) (olds.toArray++((Wy (es2.length*sz)).map f2).toArray++Builtin.zeroCells zv.cells (grownCap w (len+es2.length) c e-(len+es2.length))) e (by rw [hasz,hcl]; exact hcapsz) (fun j v hj=>by
   have hjl:j<(cs.take (len*sz)++es2.flatten).length:=(Wi.1 hj).1
   rw [hcl,WG] at hjl
   rw [W9 (by simp [hol]; omega)]
   by_cases hj1:j<len*sz
   ·rw [Wv (by omega)] at hj
    obtain ⟨u,g1,g2,g3⟩:=hcells j v hj
    refine ⟨u,?_,g2,(g3.mono Fd.st).mono Fw.st⟩
    rw [W9 (by simp [hol]; exact hj1)]
    simpa using g1
   ·rw [Wt (by omega),htl] at hj
    obtain ⟨g2,g3⟩:=H2 _ v hj
    refine ⟨f2 (j-len*sz),?_,g2,(g3.mono Fd.st).mono Fw.st⟩
    rw [Array.getElem?_append_right (by simp [hol]; omega)]
    simp only [Qz,hol]
    rw [W6,WJ,Qx (by omega)]; rfl)
  rw [hd]
  refine ⟨_,_,R'.put (some d) (fun i hi=>?_),fun k hk=>zlP hk⟩
  have hposn:sz≤(len+es2.length)*sz:=QH sz (by omega)
  have hnewh:(w.drew.alloc (.cells (olds.toArray++((Wy (es2.length*sz)).map f2).toArray++Builtin.zeroCells zv.cells (grownCap w (len+es2.length) c e-(len+es2.length))) e)).heap[w.drew.heap.size]?=some (.cells _ e (0,0)):=heap_alloc_new w.drew _
  refine .own (nb+d) 0 (len+es2.length) sz _ _ _ (zed hlt2 _ _) (by rw [hcl]; omega) ⟨hcapge,fun h0=>by rw [hcl] at h0; omega⟩ (.inl ⟨?_,?_⟩)
  ·show some (Addr.mk w.heap.size 0 none)=some ⟨upd μ (nb+d) w.drew.heap.size (nb+d),0,none⟩
   rw [xv]; rfl
  ·show 0+_≤yA (w.drew.alloc _) (upd μ (nb+d) w.drew.heap.size (nb+d))
   rw [xv,zbl hnewh,hasz]; omega
theorem zMy(R:Rel ren we ωe U O σ a w ω μ){o:Oper}{t e:TypeId}{s x:Operand}(hop:o.op=.call { callee:=.builtin .append,args:=#[s,x],argTypes:=#[t,t] })(ht:P.underlying t=some (.slice e)){sz:Nat}(hsz:xx P e=some sz){i:TypeInfo}(hi:P.info? e=some i){z:List V}(hz:zgv P e=some z)(hpos:0<sz)(hzl:z.length=sz)
  {ss sx:Src} {t1 t2:TypeId} (h1:yj P ren t1 s=some ss) (h2:yj P ren t2 x=some sx) {nb:Nat} {cb:CB} {pin:Bool} {σ':St} (h:yd cb nb σ o.dst pin (.append sz i.bytes ss sx)=some σ'):StepOk P ren we ωe U O a w o σ' nb μ:=by
 obtain ⟨i',zv,hi',hzv,hcz⟩:=zhc (ren:=ren) (w:=w) (Wr:=wr U ω) hz
 rw [hi] at hi'; cases hi'
 obtain ⟨i2,hi2,e2⟩:=zeu hsz
 rw [hi] at hi2; cases hi2
 have hzs:zv.cells.size=sz:=by have:=hcz.1; simp at this; omega
 simp only [yd] at h
 split at h
 ·rename_i sz1 es sz2 es2 hg hv
  split at h
  ·rename_i hc
   obtain ⟨c1,c2,c3,c4⟩:=hc
   have c1:=c1.symm
   subst c1
   obtain ⟨B,cB,f2,eu2,hs2,hnews,hone2,hcell2⟩:=zqd R h2 hv c2
   split at h
   ·split at h
    ·rename_i x0
     obtain ⟨_,cc2⟩:=R.opndC h1
     have hx0:x0=.gs sz []:=hg
     subst hx0
     have hA:∃ A,a.eval s=.slice A 0 0:=by
      rcases (cc2 _ rfl (.slot 0 0)).gs_inv with ⟨A,_,_,_,ex,_⟩ | ⟨β,cap,arr,Ty,f,ex,hω,_⟩
      ·exact ⟨A,ex⟩
      ·rcases (cc2 _ rfl (.slot 1 0)).gs_inv with ⟨A,_,_,_,ex,_⟩ | ⟨β',cap',arr',Ty',f',ex',hω',_⟩
       ·exact ⟨A,ex⟩
       ·rw [ex] at ex'
        simp only [Value.slice.injEq,Wg,Addr.mk.injEq] at ex'
        obtain ⟨⟨rfl,_⟩,_⟩:=ex'
        rw [hω] at hω'; cases hω'
     obtain ⟨A,ex⟩:=hA
     refine zbe (e:=e) R hop hzs ex hs2 hcell2 h (fun hne=>?_) (fun he=>?_)
     ·rw [eu2]
      exact zgj (P:=P) (w:=w) (ty:=o.type) (c2:=cB) ht hi hzv (A:=A) (B:=B) (sLen:=0) (sCap:=0) (m:=es2.length) (olds:=[]) (news:=(Wy (es2.length*sz)).map f2) (by simp) (by simp) (by simp [e2]) hnews (by have:=WY.2 hne; omega) c3 c4
     ·rw [eu2]; subst he
      exact zgV (P:=P) (w:=w) (ty:=o.type) (A:=A) (B:=B) (c2:=cB) ht hi
    ·cases h
   ·exact zDK R hop (i:=i) (zv:=zv) e2 hzs h1 hg hs2 hcell2 (by simpa [St.putG] using h)
     (fun A sLen sCap olds q1 q2 q3 q4 q5=>by
      rw [eu2]
      exact zgj (P:=P) (w:=w) (ty:=o.type) (c2:=cB) ht hi hzv (A:=A) (B:=B) (sLen:=sLen) (sCap:=sCap) (m:=es2.length) (olds:=olds) (news:=(Wy (es2.length*sz)).map f2) q1 q2 (by simp [e2]) hnews q3 (by rw [q4]; exact c3) (by rw [q4]; exact c4))
     (fun he A n=>by
      rw [eu2]; subst he
      exact zgV (P:=P) (w:=w) (ty:=o.type) (A:=A) (B:=B) (c2:=cB) ht hi)
     (fun g sCap sLen cur Ty q1 q2 q3=>by
      rw [eu2]
      exact zjQ (P:=P) (w:=w) (ty:=o.type) (sLen:=sLen) (sCap:=sCap) (m:=es2.length) (c2:=cB) (B:=B) ht hi q1 (news:=(Wy (es2.length*sz)).map f2) (by simp [e2]) hnews hone2 q2 q3)
  ·cases h
 ·rename_i sz1 sz2 es2 hg hv
  split at h
  ·rename_i hc
   obtain ⟨c1,c2,c3,c4⟩:=hc
   have c1:=c1.symm
   subst c1
   obtain ⟨B,cB,f2,eu2,hs2,hnews,hone2,hcell2⟩:=zqd R h2 hv c2
   have hr:=R.opnd h1
   rw [hg] at hr
   have hA:∃ A,a.eval s=.slice A 0 0:=by
    generalize a.eval s=u at hr
    cases hr with
    | pure h=>cases h
    | fr0 _ A=>exact ⟨A,rfl⟩
    | fr _ _ β c arr Ty f hω hb hc hn=>obtain rfl:c=0:=(hn.2 rfl).resolve_left (by omega); exact ⟨_,rfl⟩
   obtain ⟨A,ex⟩:=hA
   refine zbe (e:=e) (R.demote ss) hop hzs ex hs2 hcell2 h (fun hne=>?_) (fun he=>?_)
   ·rw [eu2]
    exact zgj (P:=P) (w:=w) (ty:=o.type) (c2:=cB) ht hi hzv (A:=A) (B:=B) (sLen:=0) (sCap:=0) (m:=es2.length) (olds:=[]) (news:=(Wy (es2.length*sz)).map f2) (by simp) (by simp) (by simp [e2]) hnews (by have:=WY.2 hne; omega) c3 c4
   ·rw [eu2]; subst he
    exact zgV (P:=P) (w:=w) (ty:=o.type) (A:=A) (B:=B) (c2:=cB) ht hi
  ·cases h
 ·rename_i id off len sz1 sz2 es2 hg hv
  split at h
  ·rename_i cs hb
   split at h
   ·rename_i hc
    obtain ⟨c1,c2,c0,c3,c4,c5⟩:=hc
    have c1:=c1.symm
    subst c1
    subst c0
    obtain ⟨B,cB,f2,eu2,hs2,hnews,hone2,hcell2⟩:=zqd R h2 hv c2
    exact zOp R hop (i:=i) (zv:=zv) (e:=e) e2 hzs hpos h1 hg hb hs2 hcell2 c5 h
     (fun A sLen sCap olds q1 q2 q3 q4=>by
      rw [eu2]
      exact zgj (P:=P) (w:=w) (ty:=o.type) (c2:=cB) ht hi hzv (A:=A) (B:=B) (sLen:=sLen) (sCap:=sCap) (m:=es2.length) (olds:=olds) (news:=(Wy (es2.length*sz)).map f2) q1 q2 (by simp [e2]) hnews q3 (by rw [q4]; exact c3) (by rw [q4]; exact c4))
     (fun he A=>by
      rw [eu2]; subst he
      exact zgV (P:=P) (w:=w) (ty:=o.type) (A:=A) (B:=B) (c2:=cB) ht hi)
     (fun g sCap sLen cur Ty q1 q2 q3=>by
      rw [eu2]
      exact zjQ (P:=P) (w:=w) (ty:=o.type) (sLen:=sLen) (sCap:=sCap) (m:=es2.length) (c2:=cB) (B:=B) ht hi q1 (news:=(Wy (es2.length*sz)).map f2) (by simp [e2]) hnews hone2 q2 q3)
   ·cases h
  ·cases h
 ·rename_i id off len cap sz1 sz2 es2 hg hv
  split at h
  ·rename_i cs hb
   split at h
   ·rename_i hc
    obtain ⟨c1,c2,c0,c3,_⟩:=hc
    have c1:=c1.symm
    subst c1
    subst c0
    cases h
    obtain ⟨B,cB,f2,eu2,hs2,hnews,hone2,hcell2⟩:=zqd R h2 hv c2
    have hfl2:=yV hs2
    have hr:=R.opnd h1
    rw [hg] at hr
    obtain ⟨c,L,A,ex,hL,hl,⟨hlc,hcc,hzz⟩,hA⟩:=hr.cut_inv
    have hL':yr σ.b id=some L:=hL
    have:L=cs.length:=by simp [yr,hb] at hL'; exact hL'.symm
    subst this
    rw [WB] at hl
    by_cases hc0:c=0
    ·subst hc0
     obtain rfl:cap=0:=by omega
     obtain rfl:len=0:=by omega
     obtain rfl:es2=[]:=WZ.1 (by omega)
     refine .value (zcf hop (by rw [ex,eu2]; exact zgV (P:=P) (w:=w) (ty:=o.type) (A:=A) (B:=B) (c2:=cB) ht hi)) ⟨ω,μ,?_,fun _ _=>rfl⟩
     rw [show xd cs (0*sz) ([]:Ls).flatten=cs by simp [xd],zkO hb]
     exact R.put _ (fun i _=>.cut id 0 0 0 sz 0 cs.length A hL (by omega) ⟨by omega,by omega,fun _=>.inr rfl⟩ (.inr ⟨rfl,rfl⟩))
    ·have hne:cs≠[]:=by
      rintro rfl
      rcases hzz rfl with q | q
      ·omega
      ·exact hc0 q
     obtain ⟨e0,arr,T,e1,e2',e3⟩:=R.live hb hne
     rcases hA with ⟨rfl,hAc⟩ | ⟨_,q⟩
     ·have hAc:0+c*sz≤yA w (μ id):=hAc
      rw [zbl e1,WB] at hAc
      have hfit1:(len+es2.length)*sz≤cap*sz:=WI sz c3
      rw [WG] at hfit1
      have hfit2:cap*sz≤c*sz:=WI sz hcc
      have run:=zjQ (P:=P) (w:=w) (ty:=o.type) (sLen:=len) (sCap:=c) (m:=es2.length) (c2:=cB) (B:=B) ht hi e1 (news:=(Wy (es2.length*sz)).map f2) (by simp [e2]) hnews hone2 (by omega) (by simp [e2]; omega)
      rw [e2] at run
      refine .value (zcf hop (by rw [ex,eu2]; exact run)) ⟨ω,μ,?_,fun _ _=>rfl⟩
      have hnew:CellsP ren w (wr U ω) es2.flatten ((Wy (es2.length*sz)).map f2):=by
       refine ⟨by simp [hfl2],fun j v hj=>?_⟩
       have hlt:j<es2.flatten.length:=(Wi.1 hj).1
       exact ⟨f2 j,by rw [WJ,Qx (by omega)]; rfl,hcell2 j v hj⟩
      have R':=R.writeCells hb hne e1 hnew (off:=len*sz) (by rw [hfl2]; omega)
      refine R'.put _ (fun i _=>?_)
      refine .cut id 0 (len+es2.length) cap sz c cs.length _ ?_ (by omega) ⟨c3,hcc,hzz⟩ (.inl ⟨rfl,?_⟩)
      ·show yr (σ.b.set id _) id=some cs.length
       rw [zed (Wi.1 hb).1,znw (by rw [hfl2]; omega)]
      ·show 0+c*sz≤yA (w.setRow (μ id) _) (μ id)
       rw [zbl (setRow_heap w (μ id) arr _ T _ e1)]
       simp; omega
     ·exact absurd q hc0
   ·cases h
  ·cases h
 ·cases h
theorem zJp(R:Rel ren we ωe U O σ a w ω μ){o:Oper}(hop:o.op=.move (.const (.slice none 0 0))∨o.op=.assign (.const (.slice none 0 0))){sz nb:Nat}{cb:CB}{pin:Bool}{σ':St}(h:yd cb nb σ o.dst pin (.move (.const (.fr sz [])) true)=some σ'):StepOk P ren we ωe U O a w o σ' nb μ:=by
 have run:(execOp a.eval o).run P w=.ok (.value (.slice none 0 0)) w:=by
  rcases hop with e | e <;> simp [execOp,e] <;> rfl
 simp only [yd] at h
 split at h
 ·cases h
 ·simp only [if_true,Wg] at h
  subst h
  exact .value run ⟨ω,μ,R.put _ (fun i _=>.fr0 sz none),fun _ _=>rfl⟩
theorem zQ1{v:V}{sz:Nat}{es:Ls}(h:zIe v=some (sz,es)):(v=.gs sz []∧es=[])∨v=.fr sz es:=by
 unfold zIe at h
 split at h
 ·cases h; exact .inl ⟨rfl,rfl⟩
 ·cases h; exact .inr rfl
 ·cases h
theorem Rep.frOf_inv{E:En}{l:Loc}{sz:Nat}{es:Ls}{v:V}{u:Value}(hf:zIe v=some (sz,es))(h:Rep ren E l v.tk u):(∃ A,es=[]∧u=.slice A 0 0) ∨
  (∃ (β c:Nat) (arr:Array Value) (T:TypeId) (f:Nat→Value),u=.slice (some ⟨β,0,none⟩) es.length c∧E.ω β=.gs l 0∧E.w.heap[β]?=some (.cells arr T (0,0))∧c*sz≤arr.size∧es.length≤c∧(∀ e∈es,e.length=sz) ∧
   (∀ (i:Nat) (v:V),es.flatten[i]?=some v→arr[i]?=some (f i))∧(∀ (i:Nat) (v:V),es.flatten[i]?=some v→(f i).oneCell'=true)∧(∀ (i:Nat) (v:V),es.flatten[i]?=some v→RepP ren E.w E.Wr v (f i))):=by
 rcases zQ1 hf with ⟨rfl,rfl⟩ | rfl
 ·rcases Rep.gs_inv h with ⟨A,_,_,_,e,_⟩ | ⟨β,c,arr,T,f,e,hω,hb,hc,hn,hsz,hcell,h1,h9⟩
  ·exact .inl ⟨A,rfl,e⟩
  ·exact .inr ⟨β,c,arr,T,f,e,by simpa using hω,hb,hc,hn,hsz,hcell,h1,h9⟩
 ·have h:Rep ren E l (.fr sz es) u:=h
  cases h with
  | pure h=>cases h
  | fr0 _ A=>exact .inl ⟨A,rfl,rfl⟩
  | fr _ _ β c arr T f hω hb hc hn hsz hcell h1 h9=>exact .inr ⟨β,c,arr,T,f,rfl,hω,hb,hc,hn.1,hsz,hcell,h1,h9⟩
theorem zR1(R:Rel ren we ωe U O σ a w ω μ){dst:Option Nat}{sz:Nat}{es:Ls}{arr:Array Value}{T:TypeId}{c:Nat}(hsz:∀ e∈es,e.length=sz)(hn:es.length≤c)(hne:es≠[])(hc:c*sz≤arr.size)
  (hcell:∀ (i:Nat) (v:V),es.flatten[i]?=some v→∃ u,arr[i]?=some u∧u.oneCell'=true∧RepP ren w (wr U ω) v u) :
  ∃ ω',Rel ren we ωe U O (σ.put dst (.fr sz es)) (a.put dst (.slice (some ⟨w.heap.size,0,none⟩) es.length c)) (w.alloc (.cells arr T)) ω' μ:=by
 have hnew:(w.alloc (.cells arr T)).heap[w.heap.size]?=some (.cells arr T (0,0)):=heap_alloc_new w _
 cases dst with
 | none=>
  obtain ⟨F,R'⟩:=R.newGs (.slot 0 0) 0 arr T
  exact ⟨_,R'⟩
 | some d=>
  obtain ⟨F,R'⟩:=R.newGs (.slot d 0) 0 arr T
  refine ⟨_,R'.put (some d) (fun i hi=>?_)⟩
  cases hi
  refine .fr sz es w.heap.size c arr T (fun i=>arr.toList.getD i undef) (xv _ _ _) hnew hc ⟨hn,fun e=>absurd e hne⟩ hsz (fun i v hv=>?_) (fun i v hv=>?_) (fun i v hv=>?_) <;>
   (obtain ⟨u,g1,g2,g3⟩:=hcell i v hv
    have g1':arr.toList[i]?=some u:=by simpa using g1
    have e:arr.toList.getD i undef=u:=by rw [Ws,g1']; rfl
    simp only [e])
  ·exact g1
  ·exact g2
  ·exact g3.mono F.st
theorem zLz(R:Rel ren we ωe U O σ a w ω μ){o:Oper}{t e:TypeId}{s x:Operand}(hop:o.op=.call { callee:=.builtin .append,args:=#[s,x],argTypes:=#[t,t] })(ht:P.underlying t=some (.slice e)){sz:Nat}(hsz:xx P e=some sz){i:TypeInfo}(hi:P.info? e=some i){z:List V}(hz:zgv P e=some z)(hpos:0<sz)(hzl:z.length=sz)
  {ss sx:Src} {t1 t2:TypeId} (h1:yj P ren t1 s=some ss) (h2:yj P ren t2 x=some sx) {nb:Nat} {cb:CB} {pin:Bool} {σ':St} (h:yd cb nb σ o.dst pin (.appendF sz i.bytes ss sx)=some σ'):StepOk P ren we ωe U O a w o σ' nb μ:=by
 obtain ⟨i',zv,hi',hzv,hcz⟩:=zhc (ren:=ren) (w:=w) (Wr:=wr U ω) hz
 rw [hi] at hi'; cases hi'
 obtain ⟨i2,hi2,e2⟩:=zeu hsz
 rw [hi] at hi2; cases hi2
 have hzs:zv.cells.size=sz:=by have:=hcz.1; simp at this; omega
 simp only [yd] at h
 split at h
 ·cases h
 split at h
 rotate_left
 ·cases h
 rename_i sz1 es sz2 es2 hg hv
 split at h
 rotate_left
 ·cases h
 rename_i hc
 obtain ⟨c1,c2,c3,c4,c5⟩:=hc
 have c1:=c1.symm
 subst c1
 cases h
 obtain ⟨B,cB,f2,eu2,hs2,hnews,hone2,hcell2⟩:=zqd R h2 hv c2
 have hfl2:=yV hs2
 obtain ⟨cc1,cc2⟩:=R.opndC h1
 obtain ⟨ω1,F1,R1,hr1,hw1⟩:=R.taken ss (R.opnd h1) cc1 cc2 (.slot (σ.t.length) 0)
 have hT:(σ.demote ss).t.length≤σ.t.length:=by cases ss <;> simp [St.demote]
 have H2:∀ (i:Nat) (v:V),es2.flatten[i]?=some v→(f2 i).oneCell'=true∧RepP ren w (wr U ω1) v (f2 i):=fun i v hv=>⟨(hcell2 i v hv).1,by rw [hw1]; exact (hcell2 i v hv).2⟩
 have hlen:(es++es2).length=es.length+es2.length:=by simp
 have hne2:es++es2≠[]:=fun e=>c5 (by rw [← hlen,e]; rfl)
 have growing:∀ (A:Option Addr) (cap:Nat) (f:Nat→Value),a.eval s=.slice A es.length cap→(∀ e∈es,e.length=sz)→(es≠[]→∃ ad,A=some ad∧∀ (j:Nat) (u:Value),((Wy (es.length*sz)).map f)[j]?=some u→w.cell? (ad.add j)=some u) →
   (∀ (i:Nat) (v:V),es.flatten[i]?=some v→(f i).oneCell'=true∧RepP ren w (wr U ω1) v (f i))→cap<es.length+es2.length→es.length≤cap→StepOk P ren we ωe U O a w o ((σ.demote ss).put o.dst (.fr sz (es++es2))) nb μ:=by
  intro A cap f ex hes holds H1 hgrow hle0
  have run:=zgj (P:=P) (w:=w) (ty:=o.type) (c2:=cB) ht hi hzv (A:=A) (B:=B) (sLen:=es.length) (sCap:=cap) (m:=es2.length) (olds:=(Wy (es.length*sz)).map f) (news:=(Wy (es2.length*sz)).map f2) (by simp [e2]) (fun hne=>holds (by rintro rfl; simp at hne)) (by simp [e2]) hnews hgrow c3 c4
  refine .value (zcf hop (by rw [ex,eu2]; exact run)) ?_
  obtain ⟨Fd,Rd⟩:=R1.drew
  have hcapge:=grownCap_ge w (es.length+es2.length) cap e
  have key:=zR1 (dst:=o.dst) (sz:=sz) (es:=es++es2) Rd (arr:=((Wy (es.length*sz)).map f).toArray++((Wy (es2.length*sz)).map f2).toArray++Builtin.zeroCells zv.cells (grownCap w (es.length+es2.length) cap e-(es.length+es2.length))) (T:=e) (c:=grownCap w (es.length+es2.length) cap e)
   (fun x hx=>by rcases QD.1 hx with h | h; exact hes x h; exact hs2 x h) (by rw [hlen]; exact hcapge) hne2
   (by
    simp only [QC,Qz,QB,Qy,size_zeroCells,hzs]
    rw [← WG,← WG]
    exact WI sz (by omega))
   (fun j v hv=>by
    obtain ⟨u,g1,g2,g3⟩:=zBB (ren:=ren) (w:=w) (Wr:=wr U ω1) hes hv H1 H2 (es2.length*sz) hfl2
    refine ⟨u,?_,g2,g3.mono Fd.st⟩
    have hj:j<((Wy (es.length*sz)).map f++(Wy (es2.length*sz)).map f2).length:=(Wi.1 g1).1
    rw [W9 (by simp at hj ⊢; omega)]
    simpa using g1)
  rw [hlen] at key
  obtain ⟨ω',q⟩:=key
  exact ⟨ω',μ,q,fun _ _=>rfl⟩
 rcases Rep.frOf_inv hg hr1 with ⟨A,rfl,ex⟩ | ⟨β,cap,arr,Ty,f,ex,hω,hb,hcap,hn,hes,hcell1,hone1,hrep1⟩
 ·have:0<es2.length:=by simp at c5; exact WY.2 c5
  exact growing A 0 (fun _=>undef) (by rw [ex]; rfl) (by simp) (by simp) (by simp) (by simpa using this) (by simp)
 ·have hfl:=yV hes
  have H1:∀ (i:Nat) (v:V),es.flatten[i]?=some v→(f i).oneCell'=true∧RepP ren w (wr U ω1) v (f i):=fun i v hv=>⟨hone1 i v hv,hrep1 i v hv⟩
  have hb:w.heap[β]?=some (.cells arr Ty (0,0)):=hb
  by_cases hgrow:cap<es.length+es2.length
  ·refine growing _ cap f ex hes (fun hne=>⟨_,rfl,fun j u hu=>?_⟩) H1 hgrow hn
   have hj:j<es.length*sz:=by have:=(Wi.1 hu).1; simpa using this
   simp [hj] at hu; subst hu
   rw [zc6,WB,cell_of_row _ _ _ _ _ _ hb]
   exact hcell1 j _ (Wc (by omega))
  ·have hω:ω1 β=.gs (.slot σ.t.length 0) 0:=hω
   have hcapsz:(es.length+es2.length)*sz≤arr.size:=QE (WI _ (by omega)) hcap
   have hle:es.length*sz+es2.length*sz≤arr.size:=by rw [← WG]; exact hcapsz
   have run:=zjQ (P:=P) (w:=w) (ty:=o.type) (sLen:=es.length) (sCap:=cap) (m:=es2.length) (c2:=cB) (B:=B) ht hi hb (news:=(Wy (es2.length*sz)).map f2) (by simp [e2]) hnews hone2 (by omega) (by simp [e2]; omega)
   rw [e2] at run
   refine .value (zcf hop (by rw [ex,eu2]; exact run)) ?_
   have hasz:(arr.toList.take (es.length*sz)++(Wy (es2.length*sz)).map f2++arr.toList.drop (es.length*sz+((Wy (es2.length*sz)).map f2).length)).toArray.size=arr.size:=by simp; omega
   have hget:∀ j,(arr.toList.take (es.length*sz)++(Wy (es2.length*sz)).map f2++arr.toList.drop (es.length*sz+((Wy (es2.length*sz)).map f2).length)).toArray[j]?=if es.length*sz≤j∧j<es.length*sz+es2.length*sz then ((Wy (es2.length*sz)).map f2)[j-es.length*sz]? else arr.toList[j]?:=by
    intro j
    rw [W6,zij (by simp; omega)]
    simp
   obtain ⟨F2,R2⟩:=R1.grow hT hω hb hasz (fun j hj=>by omega)
   cases hd:o.dst with
   | none=>exact ⟨_,_,R2,fun _ _=>rfl⟩
   | some d=>
    obtain ⟨F3,R3⟩:=R2.reown hT hω (.slot d 0) 0 (Wq _)
    refine ⟨_,_,R3.put (some d) (fun j hj=>?_),fun _ _=>rfl⟩
    cases hj
    have hcells:∀ (j:Nat) (v:V),(es++es2).flatten[j]?=some v→∃ u,(arr.toList.take (es.length*sz)++(Wy (es2.length*sz)).map f2++arr.toList.drop (es.length*sz+((Wy (es2.length*sz)).map f2).length)).toArray[j]?=some u∧u.oneCell'=true∧RepP ren w (wr U ω1) v u:=by
     intro j v hv
     rw [hget]
     rw [QF] at hv
     by_cases hj:j<es.flatten.length
     ·rw [Wv hj] at hv
      rw [if_neg (by omega)]
      exact ⟨f j,by simpa using hcell1 j v hv,(H1 j v hv).1,(H1 j v hv).2⟩
     ·rw [Wt (by omega)] at hv
      have hlt:j-es.flatten.length<es2.flatten.length:=(Wi.1 hv).1
      rw [if_pos (by omega)]
      refine ⟨f2 (j-es.length*sz),?_,?_⟩
      ·rw [WJ,Qx (by omega)]; rfl
      ·rw [← hfl]; exact H2 _ v hv
    have key:=Rep.fr (ren:=ren) (E:=env U (σ.demote ss) (w.setRow β (arr.toList.take (es.length*sz)++(Wy (es2.length*sz)).map f2++arr.toList.drop (es.length*sz+((Wy (es2.length*sz)).map f2).length)).toArray) (upd ω1 β (.gs (.slot d 0) 0)) μ) (l:=.slot d 0) sz (es++es2) β cap _ Ty
     (fun j=>((arr.toList.take (es.length*sz)++(Wy (es2.length*sz)).map f2++arr.toList.drop (es.length*sz+((Wy (es2.length*sz)).map f2).length)).toArray[j]?).getD undef) (xv _ _ _) (setRow_heap w β arr _ Ty _ hb) (by rw [hasz]; exact hcap) ⟨by rw [hlen]; omega,fun e=>absurd e hne2⟩ (fun x hx=>by rcases QD.1 hx with h | h; exact hes x h; exact hs2 x h)
     (fun j v hv=>by obtain ⟨u,g1,g2,g3⟩:=hcells j v hv; rw [g1]; rfl) (fun j v hv=>by obtain ⟨u,g1,g2,g3⟩:=hcells j v hv; rw [g1]; exact g2)
     (fun j v hv=>by obtain ⟨u,g1,g2,g3⟩:=hcells j v hv; rw [g1]; exact (g3.mono F2.st).mono F3.st)
    rwa [show Value.slice (some ⟨β,0,none⟩) (es++es2).length cap=Value.slice (some ⟨β,0,none⟩) (es.length+es2.length) cap by rw [hlen]] at key
theorem zTr(R:Rel ren we ωe U O σ a w ω μ){T:Nat}(hT:σ.t.length≤T){sz:Nat}{es:Ls}{u:Value}(hr:Rep ren (env U σ w ω μ) (.slot T 0) (.fr sz es) u){id nb:Nat}(hg:σ.b[id]?=some .gone)(hnb:nb≤id)(p:Bool) :
  ∃ ω' μ',Fr (env U σ w ω μ) (env U (σ.setB id (.live p es.flatten)) w ω' μ')∧Rel ren we ωe U O (σ.setB id (.live p es.flatten)) a w ω' μ'∧(∀ k,k≠id→μ' k=μ k)∧∀ l,Rep ren (env U (σ.setB id (.live p es.flatten)) w ω' μ') l (.own id 0 es.length sz) u:=by
 have hlt:id<σ.b.length:=(Wi.1 hg).1
 cases hr with
 | pure h=>cases h
 | fr0 _ A=>
  obtain ⟨F,R'⟩:=R.empty hg p
  exact ⟨ω,μ,F,R',fun _ _=>rfl,fun l=>.own id 0 0 sz 0 0 A (zed hlt _ _) (by omega) ⟨by omega,fun _=>.inr rfl⟩ (.inr ⟨rfl,rfl⟩)⟩
 | fr _ _ β c arr Ty f hω hb hc hn hsz hcell h1 h=>
  have hfl:=yV hsz
  have hle:es.length*sz≤c*sz:=WI sz hn.1
  obtain ⟨F,R'⟩:=R.adopt hT (β:=β) hω hg p es.flatten arr Ty hb (by omega) (fun j cc hj=>⟨f j,hcell j cc hj,h1 j cc hj,h j cc hj⟩)
  refine ⟨_,_,F,R',fun k hk=>yl _ _ hk,fun l=>?_⟩
  refine .own id 0 es.length sz c es.flatten.length _ (zed hlt _ _) (by omega) ⟨hn.1,fun h0=>zzF hsz h0 hn.2⟩ (.inl ⟨by show some (Addr.mk β 0 none)=some ⟨upd μ id β id,0,none⟩; rw [xv],?_⟩)
  show 0+c*sz≤yA w (upd μ id β id)
  have hb':w.heap[β]?=some (.cells arr Ty (0,0)):=hb
  rw [xv,zbl hb']; omega
theorem Rel.setCellR(R:Rel ren we ωe U O σ a w ω μ){id:Nat}{cs:List V}(hid:σ.b[id]?=some (.live false cs)){off:Nat}(hlt:off<cs.length){v:V}{arr:Array Value}{T:TypeId}(ha:w.heap[μ id]?=some (.cells arr T (0,0))){u:Value}(hu:arr[off]?=some u)(h1:u.oneCell'=true)(hr:∀ l,Rep ren (env U σ w ω μ) l v u)(hv:∀ x xs,v≠.tup (x::xs)):Rel ren we ωe U O (σ.setB id (.live false (cs.set off v))) a w ω μ:=by
 have hne:cs≠[]:=by rintro rfl; simp at hlt
 obtain ⟨e0,arr',T',e1,e2,e3⟩:=R.live hid hne
 rw [ha] at e1; cases e1
 obtain ⟨F,key⟩:=R.write hid hne (cs':=cs.set off v) (by simp) ha rfl ha (fun k _=>rfl) (Kept.refl _ w)
 refine key (fun j c hc=>?_)
 by_cases hj:j=off
 ·subst hj
  rw [WF hlt] at hc
  cases hc
  exact ⟨u,hu,h1,by simp,Rep.frame0 F hr hv _⟩
 ·rw [WE (fun e=>hj e.symm)] at hc
  obtain ⟨u,g1,g2,g3,g4⟩:=e3 j c hc
  exact ⟨u,g1,g2,by simp,g4.frame F (fun l β h _ e=>⟨e,rfl⟩)⟩
theorem zPR(R:Rel ren we ωe U O σ a w ω μ){o:Oper}{t:TypeId}{x:Operand}(hop:o.op=.load t x)(h1:zap P t=some false)(h2:xx P t=some 1){s:Src}{t1:TypeId}(hs:yj P ren t1 x=some s){nb sz:Nat}{cb:CB}{p pin:Bool}{σ':St}(h:yd cb nb σ o.dst pin (.pinC p sz s)=some σ'):StepOk P ren we ωe U O a w o σ' nb μ:=by
 simp only [yd] at h
 split at h
 rotate_left
 ·cases h
 rename_i id off hg
 split at h
 rotate_left
 ·cases h
 rename_i cs hb
 split at h
 rotate_left
 ·cases h
 rename_i sz1 es hv
 split at h
 rotate_left
 ·cases h
 rename_i d hd
 split at h
 rotate_left
 ·cases h
 rename_i hsz
 obtain rfl:sz=sz1:=hsz.symm
 obtain ⟨d',hd',hg',rfl⟩:=zfe h
 rw [hd] at hd'
 cases hd'
 have hne:cs≠[]:=by rintro rfl; simp at hv
 have hoff:off<cs.length:=(Wi.1 hv).1
 have hlt:id<σ.b.length:=(Wi.1 hb).1
 obtain ⟨e0,arr,T,e1,e2,e3⟩:=R.live hb hne
 obtain ⟨u,g1,g2,_,g4⟩:=e3 off _ hv
 refine zkT R hop h1 h2 hs hg e1 g1 ?_
 have hidne:id≠nb+d:=by
  rintro rfl
  simp only [St.setB] at hg'
  rw [WF hlt] at hg'; cases hg'
 obtain ⟨ω1,R1,hr1⟩:=R.takenCell hb hv g4 (.slot σ.t.length 0)
 have hgone:(σ.setB id (.live false (cs.set off (V.fr sz es).dem))).b[nb+d]?=some .gone:=by
  simp only [St.setB] at hg' ⊢
  rw [WE hidne] at hg' ⊢
  exact hg'
 obtain ⟨ω2,μ2,F2,R2,hμ,hr2⟩:=zTr R1 (T:=σ.t.length) (Wq _) hr1 hgone (nb:=nb) (by omega) p
 have hb2:((σ.setB id (.live false (cs.set off (V.fr sz es).dem))).setB (nb+d) (.live p es.flatten)).b[id]?=some (.live false (cs.set off (V.fr sz es).dem)):=by
  simp only [St.setB]
  rw [WE (fun e=>hidne e.symm),WF hlt]
 have R3:=R2.setCellR hb2 (off:=off) (v:=.own (nb+d) 0 es.length sz) (by simp; exact hoff) (arr:=arr) (T:=T) (by rw [hμ id hidne]; exact e1) g1 g2 hr2 (by simp)
 have est:(((σ.setB id (.live false (cs.set off (V.fr sz es).dem))).setB (nb+d) (.live p es.flatten)).setB id (.live false ((cs.set off (V.fr sz es).dem).set off (.own (nb+d) 0 es.length sz))))=(σ.setB id (.live false (cs.set off (.own (nb+d) 0 es.length sz)))).setB (nb+d) (.live p es.flatten):=by
  simp only [St.setB,List.set_set]
  congr 1
  rw [List.set_comm _ _ (fun e=>hidne e.symm),List.set_set]
 rw [est] at R3
 refine ⟨ω2,μ2,R3.put _ (fun i _=>?_),fun k hk=>hμ k (by omega)⟩
 have ebl:yr ((σ.setB id (.live false (cs.set off (.own (nb+d) 0 es.length sz)))).setB (nb+d) (.live p es.flatten)).b=yr ((σ.setB id (.live false (cs.set off (V.fr sz es).dem))).setB (nb+d) (.live p es.flatten)).b:=by
  funext k
  simp only [St.setB,yr]
  by_cases hk:k=nb+d
  ·subst hk
   have hl2:=(Wi.1 hgone).1
   simp only [St.setB,QI] at hl2
   rw [WF (by rw [QI]; exact hl2),WF (by rw [QI]; exact hl2)]
  ·rw [WE (fun e=>hk e.symm),WE (fun e=>hk e.symm)]
   by_cases hk2:k=id
   ·subst hk2; rw [WF hlt,WF hlt]; simp
   ·rw [WE (fun e=>hk2 e.symm),WE (fun e=>hk2 e.symm)]
 have:=hr2 (.slot i 0)
 unfold env at this ⊢
 rw [ebl]
 exact this
theorem zSh(R:Rel ren we ωe U O σ a w ω μ){l:Loc}{v v':V}{u:Value}(h:Rep ren (env U σ w ω μ) l v u)(hs:zo4 σ.b v=some v'):RepP ren w (wr U ω) v' u:=by
 unfold zo4 at hs
 split at hs
 ·rename_i id off len sz
  obtain ⟨c,L,A,eu,hL,hl,hc,hA⟩:=h.own_inv
  have hL':yr σ.b id=some L:=hL
  split at hs
  ·rename_i cs hb
   cases hs
   obtain ⟨q0,arr,T,fr,q1,q2,q3⟩:=R.fs id cs hb
   have hLc:L=cs.length:=by
    rw [show yr σ.b id=some cs.length by simp [yr,hb]] at hL'; cases hL'; rfl
   subst hLc
   rw [eu]
   have key:=RepP.sl (ren:=ren) (w:=w) (Wr:=wr U ω) sz (yf sz len (cs.drop off)) A c (fun i=>arr.toList.getD (off+i) undef) (by rw [zw]; exact hc.1) (za2 _ _ _ (by simp; omega)) (μ id) off
    (fun hne=>by
     rcases hA with ⟨h1,_⟩ | ⟨h1,_⟩
     ·exact h1
     ·subst h1; simp [yf] at hne)
   have seg:∀ (i:Nat) (v:V),(yf sz len (cs.drop off)).flatten[i]?=some v→∃ u,arr.toList.getD (off+i) undef=u∧arr[off+i]?=some u∧u.oneCell'=true∧RepP ren w (wr U ω) v u:=by
    intro i v hv
    rw [z9,Wn] at hv
    split at hv
    ·rw [Wp] at hv
     obtain ⟨u,g1,g2,g3⟩:=q3 _ _ hv
     have g1':arr.toList[off+i]?=some u:=by simpa using g1
     exact ⟨u,by rw [Ws,g1']; rfl,g1,g2,g3⟩
    ·cases hv
   have key:=key (fun i v hv=>by obtain ⟨u,e,g1,g2,g3⟩:=seg i v hv; exact ⟨q0 _,by rw [cell_of_row _ _ _ _ _ _ q1,e]; exact g1⟩)
    (fun i v hv=>by obtain ⟨u,e,g1,g2,g3⟩:=seg i v hv; rw [e]; exact g2) (fun i v hv=>by obtain ⟨u,e,g1,g2,g3⟩:=seg i v hv; rw [e]; exact g3)
   rw [zw] at key
   exact key
  ·split at hs
   ·rename_i h0
    cases hs
    subst h0
    rw [eu]
    exact RepP.sl (ren:=ren) (w:=w) (Wr:=wr U ω) sz [] A c (fun _=>undef) hc.1 (by simp) 0 0 (fun h=>absurd rfl h) (fun i v hv=>by simp at hv) (fun i v hv=>by simp at hv) (fun i v hv=>by simp at hv)
   ·cases hs
  ·cases hs
 ·exact h.plain R.hU hs
theorem zOn(R:Rel ren we ωe U O σ a w ω μ){o:Oper}{t:TypeId}{x:Operand}(hop:o.op=.load t x){n:Nat}(h1:zap P t=some true)(h2:xx P t=some n){s:Src}{t1:TypeId}(hs:yj P ren t1 x=some s){nb:Nat}{cb:CB}{pin:Bool}{σ':St}(h:yd cb nb σ o.dst pin (.loadS n s)=some σ'):StepOk P ren we ωe U O a w o σ' nb μ:=by
 simp only [yd] at h
 split at h
 rotate_left
 ·cases h
 rename_i id off hg
 split at h
 rotate_left
 ·cases h
 rename_i cs hb
 split at h
 rotate_left
 ·cases h
 rename_i hoff
 simp only [Wb,Wa,Wg] at h
 obtain ⟨vs,hvs,rfl⟩:=h
 have hr:=R.opnd hs
 rw [hg] at hr
 obtain ⟨L,hL,ex⟩:=hr.ptr_inv
 have hlen:vs.length=n:=by rw [zb9 hvs]; simp; omega
 by_cases hne:cs=[]
 ·subst hne
  obtain rfl:n=0:=by simp at hoff; omega
  obtain rfl:vs=[]:=WZ.1 hlen
  have run:=zkq (P:=P) (a:=a) (w:=w) h1 h2 (k:=μ id) (q:=off) [] (by simp) (by simp) (fun j u hu=>by simp at hu) hop ex
  exact .value run ⟨ω,μ,R.put _ (fun i _=>.pure (.agg [] [] rfl (by simp) (by simp))),fun _ _=>rfl⟩
 obtain ⟨e0,arr,T,e1,e2,e3⟩:=R.live hb hne
 have hul:((arr.toList.drop off).take n).length=n:=by simp; omega
 have run:=zkq (P:=P) (a:=a) (w:=w) h1 h2 ((arr.toList.drop off).take n) (fun _=>hul) (by simp) (Rel.cellsAt e1 (by omega)) hop ex
 refine .value run ⟨ω,μ,R.put _ (fun i _=>.pure ?_),fun _ _=>rfl⟩
 have cell:∀ (j:Nat) (c:V),vs[j]?=some c→∃ u,((arr.toList.drop off).take n)[j]?=some u∧u.oneCell'=true∧RepP ren w (wr U ω) c u:=by
  intro j c hj
  have hlt:j<n:=by rw [← hlen]; exact (Wi.1 hj).1
  obtain ⟨c0,hc0⟩:∃ c0,((cs.drop off).take n)[j]?=some c0:=⟨_,Wc (by simp; omega)⟩
  obtain ⟨b,hb1,hb2⟩:=zhk hvs j c0 hc0
  rw [hj] at hb1; cases hb1
  rw [Wn,if_pos hlt,Wp] at hc0
  obtain ⟨u,g1,g2,_,g4⟩:=e3 _ _ hc0
  refine ⟨u,?_,g2,zSh R g4 hb2⟩
  rw [Wn,if_pos hlt,Wp]
  simpa using g1
 refine .agg vs _ (by rw [hlen,hul]) (fun j c u hc hu=>?_) (fun u hu=>?_)
 ·obtain ⟨u',q1,_,q3⟩:=cell j c hc
  rw [hu] at q1; cases q1; exact q3
 ·obtain ⟨j,hj⟩:=List.getElem?_of_mem hu
  have hlt:j<vs.length:=by rw [hlen,← hul]; exact (Wi.1 hj).1
  obtain ⟨u',q1,q2,_⟩:=cell j _ (Wc hlt)
  rw [hj] at q1; cases q1; exact q2
theorem zSS(a:Act)(t:Nat):a.put (some t) (a.tmps.getD t undef)=a:=by
 unfold Act.put
 simp only
 congr 1
 apply Array.ext_getElem?
 intro i
 rw [Array.getElem?_setIfInBounds]
 split
 ·rename_i hi
  subst hi
  split
  ·rename_i hlt
   rw [Array.getElem?_eq_getElem hlt]
   simp [Array.getD,hlt]
  ·rename_i hlt
   rw [WT (by omega)]
 ·rfl
theorem zI4(R:Rel ren we ωe U O σ a w ω μ){o:Oper}{x:Operand}(hop:o.op=.move x∨o.op=.assign x){s:Src}{t:TypeId}(hs:yj P ren t x=some s){nb sz:Nat}{cb:CB}{p pin:Bool}{σ':St}(h:yd cb nb σ o.dst pin (.pinS p sz s)=some σ'):StepOk P ren we ωe U O a w o σ' nb μ:=by
 have run:(execOp a.eval o).run P w=.ok (.value (a.eval x)) w:=by
  rcases hop with e | e <;> simp [execOp,e]
 simp only [yd] at h
 split at h
 rotate_left
 ·cases h
 rename_i sz1 es hg
 split at h
 rotate_left
 ·cases h
 rename_i t0 d hd
 split at h
 rotate_left
 ·cases h
 rename_i hc
 obtain ⟨hsz,htd⟩:=hc
 obtain rfl:sz=sz1:=hsz.symm
 obtain ⟨d',hd',hg',rfl⟩:=zfe h
 rw [hd] at hd'
 cases hd'
 refine .value run ?_
 obtain ⟨cc1,cc2⟩:=R.opndC hs
 obtain ⟨ω1,F1,R1,hr1,hw1⟩:=R.taken (.tmp t0) (R.opnd hs) cc1 cc2 (.slot σ.t.length 0)
 have hT:(σ.demote (.tmp t0)).t.length≤σ.t.length:=by simp [St.demote]
 rw [hg] at hr1
 have hgone:(σ.demote (.tmp t0)).b[nb+d]?=some .gone:=by
  simpa [St.put,St.demote] using hg'
 obtain ⟨ω2,μ2,F2,R2,hμ,hr2⟩:=zTr R1 hT hr1 hgone (nb:=nb) (by omega) p
 have ex:a.eval x=a.tmps.getD t0 undef:=cc1 t0 rfl
 have R3:=R2.put (some t0) (v:=.own (nb+d) 0 es.length sz) (u:=a.eval x) (fun i _=>hr2 _)
 rw [ex,zSS] at R3
 have est:((σ.demote (.tmp t0)).setB (nb+d) (.live p es.flatten)).put (some t0) (.own (nb+d) 0 es.length sz)=(σ.put (some t0) (.own (nb+d) 0 es.length sz)).setB (nb+d) (.live p es.flatten):=by
  simp only [St.demote,St.setB,St.put]
  congr 1
  apply List.ext_getElem?
  intro i
  rw [List.getElem?_set,List.getElem?_set]
  simp only [List.length_modify]
  split
  ·rfl
  ·rename_i hi
   rw [List.getElem?_modify]
   simp [hi]
 rw [est] at R3
 refine ⟨ω2,μ2,R3.put _ (fun i _=>?_),fun k hk=>hμ k (by omega)⟩
 exact hr2 _
theorem zCm{t u ty e:TypeId}{k:IntKind}{i:TypeInfo}{z:Value}(ht:P.underlying t=some (.slice e))(hu:P.underlying u=some (.int k))(hi:P.info? e=some i)(hz:i.zero=some z)(hpos:0<i.size){A:Option Addr}{sLen sCap m:Nat}{k':IntKind}{olds:List Value}(hol:olds.length=sLen*i.size)(hold:olds≠[]→∃ ad,A=some ad∧∀ (j:Nat) (u:Value),olds[j]?=some u→w.cell? (ad.add j)=some u)
  (hg:sCap<sLen+m) (hb:(sLen+m)*i.bytes≤140737488355328) (h63:sLen+m≤140737488355328) (hm:0<m) :
  (Builtin.append_ #[t,u] ty #[.slice A sLen sCap,.int k' m]).run P w =
   .ok (.slice (some ⟨w.heap.size,0,none⟩) (sLen+m) (grownCap w (sLen+m) sCap e)) (w.drew.alloc (.cells (olds.toArray++Builtin.zeroCells z.cells m++Builtin.zeroCells z.cells (grownCap w (sLen+m) sCap e-(sLen+m))) e)):=by
 have hn:¬ (sLen+m≤sCap):=by omega
 have h63':¬ (9223372036854775807<((sLen:Int)+(m:Int))):=by omega
 have h48':¬ (281474976710656<Builtin.nextslicecap (sLen+m) sCap*i.bytes):=by have:=growslice_fits hg hb; omega
 have hfo:=zqA (P:=P) (w:=w.drew) (len:=sLen) (cap:=sCap) olds hol (by simpa using hold)
 have hw:QG .i64 (m:Int)=(m:Int):=IntWalk.i64_in _ ⟨by omega,by omega⟩
 have hneg:¬ ((m:Int)<0):=by omega
 have hmb:m*i.bytes≤140737488355328:=QE (WI _ (by omega)) hb
 have h48:¬ ((m:Int)*(i.bytes:Int)>281474976710656):=by
  have:((m*i.bytes:Nat):Int)≤140737488355328:=Int.ofNat_le.2 hmb
  rw [Int.natCast_mul] at this; omega
 have hne:¬ (m*i.size=0):=by
  intro h0
  rcases Nat.mul_eq_zero.1 h0 with h | h <;> omega
 simp [Builtin.append_,run_underlying ht,run_underlying hu,sizeOf,typeInfo,zeroValue,hi,hz,asInt,asIntOf,hw,hneg,h48,hne,hn,h63',h48',Question.forced,hfo,newRow,grownCap]
theorem zE5{t u ty e:TypeId}{k:IntKind}{i:TypeInfo}{z:Value}(ht:P.underlying t=some (.slice e))(hu:P.underlying u=some (.int k))(hi:P.info? e=some i)(hz:i.zero=some z)(hzs:z.cells.size=i.size)(hpos:0<i.size){g sLen sCap m:Nat}{k':IntKind}{cur:Array Value}{Ty:TypeId}(hgb:w.heap[g]?=some (.cells cur Ty (0,0)))
  (h1:∀ u∈(Builtin.zeroCells z.cells m).toList,u.oneCell'=true) (hroom:sLen+m≤sCap) (hfit:sLen*i.size+(Builtin.zeroCells z.cells m).toList.length≤cur.size) (hm:m*i.bytes≤140737488355328) (hm2:m≤140737488355328) :
  (Builtin.append_ #[t,u] ty #[.slice (some ⟨g,0,none⟩) sLen sCap,.int k' m]).run P w =
   .ok (.slice (some ⟨g,0,none⟩) (sLen+m) sCap) (w.setRow g (cur.toList.take (sLen*i.size)++(Builtin.zeroCells z.cells m).toList++cur.toList.drop (sLen*i.size+(Builtin.zeroCells z.cells m).toList.length)).toArray):=by
 have hst:=run_storeCells_at P g (sLen*i.size) Ty (Builtin.zeroCells z.cells m).toList 0 cur w hgb (by simpa using hfit) h1
 simp only [Nat.add_zero] at hst
 have hw:QG .i64 (m:Int)=(m:Int):=IntWalk.i64_in _ ⟨by omega,by omega⟩
 have hneg:¬ ((m:Int)<0):=by omega
 have h48:¬ ((m:Int)*(i.bytes:Int)>281474976710656):=by
  have:((m*i.bytes:Nat):Int)≤140737488355328:=Int.ofNat_le.2 hm
  rw [Int.natCast_mul] at this; omega
 by_cases h0:m=0
 ·subst h0
  have hzc:(Builtin.zeroCells z.cells 0).toList=[]:=by simp [Builtin.zeroCells]
  rw [hzc] at hst ⊢
  have hsame:w=w.setRow g (cur.toList.take (sLen*i.size)++[]++cur.toList.drop (sLen*i.size+([]:List Value).length)).toArray:=by
   have:=hst
   simp only [storeCells,Sem.run_pure] at this
   injection this
  rw [← hsame]
  have hw0:QG .i64 0=0:=rfl
  have hr0:sLen≤sCap:=by omega
  simp [hw0,hr0,Builtin.append_,run_underlying ht,run_underlying hu,sizeOf,typeInfo,hi,asInt,asIntOf,Addr.add_lit,storeCells]
 ·have hne:¬ (m*i.size=0):=by
   intro h
   rcases Nat.mul_eq_zero.1 h with h | h <;> omega
  simp [Builtin.append_,run_underlying ht,run_underlying hu,sizeOf,typeInfo,zeroValue,hi,hz,asInt,asIntOf,hw,hneg,h48,hne,hroom,Addr.add_lit,hst]
theorem zK4(R:Rel ren we ωe U O σ a w ω μ){o:Oper}{t u e:TypeId}{k:IntKind}{s x:Operand}(hop:o.op=.call { callee:=.builtin .append,args:=#[s,x],argTypes:=#[t,u] })(ht:P.underlying t=some (.slice e))(hu:P.underlying u=some (.int k)){sz:Nat}(hsz:xx P e=some sz){i:TypeInfo}(hi:P.info? e=some i){z:List V}(hz:zgv P e=some z)(hpos:0<sz)(hzl:z.length=sz)
  {ss sx:Src} {t1 t2:TypeId} (h1:yj P ren t1 s=some ss) (h2:yj P ren t2 x=some sx) {nb:Nat} {cb:CB} {pin:Bool} {σ':St} (h:yd cb nb σ o.dst pin (.appendZ sz i.bytes (z.map V.dem) ss sx)=some σ'):StepOk P ren we ωe U O a w o σ' nb μ:=by
 obtain ⟨i',zv,hi',hzv,hcz⟩:=zhc (ren:=ren) (w:=w) (Wr:=wr U ω) hz
 rw [hi] at hi'; cases hi'
 obtain ⟨i2,hi2,e2⟩:=zeu hsz
 rw [hi] at hi2; cases hi2
 have hzs:zv.cells.size=sz:=by have:=hcz.1; simp at this; omega
 simp only [yd] at h
 split at h
 ·rename_i sz1 es n hg hv
  split at h
  ·rename_i hc
   obtain ⟨c1,c0,c3,c4⟩:=hc
   have c1:=c1.symm
   subst c1
   split at h
   ·cases h
   ·obtain ⟨k',ex⟩:=(R.opnd h2).int hv
    obtain ⟨m,rfl⟩:∃ m:Nat,n=m:=⟨n.toNat,by omega⟩
    simp only [Int.toNat_natCast] at c3 c4 h
    unfold zg at c3 c4
    have hd:=zkj hcz
    have hzl':(z.map V.dem).length=sz:=by simp [hzl]
    have hlen:(We m (z.map V.dem)).length=m:=by simp
    have hmb:m*i.bytes≤140737488355328:=QE (WI _ (by omega)) c3
    have hrng:(Wy (m*sz)).map (fun j=>zv.cells[j % zv.cells.size]!)=(Builtin.zeroCells zv.cells m).toList:=by
     simp [Builtin.zeroCells,hzs]
    have H2:∀ (j:Nat) (v:V),(We m (z.map V.dem)).flatten[j]?=some v→(zv.cells[j % zv.cells.size]!).oneCell'=true∧RepP ren w (wr U ω) v (zv.cells[j % zv.cells.size]!):=by
     intro j v hv
     obtain ⟨u,g1,g2,g3⟩:=zl3 hd m (m*sz) (by rw [hzl']; exact Wq _) (by omega) j v hv
     have hj:j<m*sz:=by have:=(QA.1 g1).1; simpa using this
     simp [hj] at g1
     subst g1
     exact ⟨by simpa using g2,by simpa using g3⟩
    have hone:∀ u∈(Builtin.zeroCells zv.cells m).toList,u.oneCell'=true:=by
     intro u hu
     rw [← hrng] at hu
     simp only [List.mem_map,List.mem_range] at hu
     obtain ⟨j,hj,rfl⟩:=hu
     have hfl:(We m (z.map V.dem)).flatten.length=m*sz:=by simp [hzl]
     exact (H2 j _ (Wc (by omega))).1
    refine zDK R hop (e:=e) (i:=i) (zv:=zv) e2 hzs h1 (es2:=We m (z.map V.dem)) hg (fun x hx=>by rw [List.eq_of_mem_replicate hx]; exact hzl') (f2:=fun j=>zv.cells[j % zv.cells.size]!) H2 h
     (fun A sLen sCap olds q1 q2 q3 q4 q5=>?_) (fun he A=>?_) (fun g sCap sLen cur Ty q1 q2 q3=>?_)
    ·rw [ex]
     simp only [hlen] at q3 ⊢
     rw [hrng]
     have hm:0<m:=by omega
     simpa using zCm (P:=P) (w:=w) (ty:=o.type) (k':=k') ht hu hi hzv (by omega) (A:=A) q1 q2 q3 (by rw [q4]; exact c3) (by rw [q4]; exact c4) hm
    ·rw [ex]
     have hm:m=0:=by
      have:=congrArg List.length he
      simpa using this
     subst hm
     have hw0:QG .i64 0=0:=rfl
     cases A <;> simp [hw0,Builtin.append_,run_underlying ht,run_underlying hu,sizeOf,typeInfo,hi,asInt,asIntOf,storeCells]
    ·rw [ex]
     simp only [hlen] at q2 q3 ⊢
     rw [hrng] at q3 ⊢
     exact zE5 (P:=P) (w:=w) (ty:=o.type) (k':=k') ht hu hi hzv (by omega) (by omega) q1 hone q2 q3 hmb (by omega)
  ·cases h
 ·cases h
end
section
variable {ren:Rn} {we:World} {ωe:Nat→Ow} {U:Nat→Nat→Prop} {O:Nat→Prop} {σ:St} {a:Act} {w:World} {ω:Nat→Ow} {μ:Nat→Nat} {P:Program} {nb:Nat}
def zLJ(P:Program)(em:Bool)(dd:Nat)(t:TypeId)(n:Nat):Prop:=
 ∀ (w:World) (us:List Value) (x:Value),us.length=n→zB2 P t us x→(Instr.checkKey em dd t x).run P w=.ok () w
theorem zuk{em:Bool}{dd d:Nat}(IH:∀ t n,zdu P d t=some n→zLJ P em dd t n)(xs:List Value)(w:World):∀ (fs:List Field) (off n:Nat),zev P (zdu P d) fs off=some n→xs.length=n →
  ∀ f∈fs,f.name≠"_"∧∃ x,(part f.type xs.toArray f.offset).run P w=.ok x w∧(Instr.checkKey em dd f.type x).run P w=.ok () w
 | [],off,n,h,hx=>by simp
 | f::fs,off,n,h,hx=>by
  simp only [zev,Wb,Wa] at h
  obtain ⟨s,hs,h⟩:=h
  split at h
  ·rename_i hc
   obtain ⟨hname,hoff,hsz⟩:=hc
   have hmono:∀ (fs:List Field) (o n:Nat),zev P (zdu P d) fs o=some n→o≤n:=by
    intro fs
    induction fs with
    | nil=>intro o n h; cases h; exact Wq _
    | cons g gs ih=>
     intro o n h
     simp only [zev,Wb,Wa] at h
     obtain ⟨s',_,h⟩:=h
     split at h
     ·have:=ih _ _ h; omega
     ·cases h
   have hle:=hmono _ _ _ h
   obtain ⟨b,hb,hb1⟩:=znQ hs
   obtain ⟨x,px,ox⟩:=zsm hb hsz hb1 (xs:=xs) (off:=off) (by omega) w
   intro g hg
   rcases List.mem_cons.1 hg with rfl | hg
   ·exact ⟨hname,x,by rw [hoff]; exact px,IH _ _ hs w _ x (by simp; omega) ox⟩
   ·exact zuk IH xs w fs (off+s) n h hx g hg
  ·cases h
theorem zun(em:Bool)(m:Nat):∀ (d:Nat) (t:TypeId) (n:Nat),zdu P d t=some n→zLJ P em (m+d) t n
 | 0,t,n,h=>by cases h
 | d+1,t,n,h=>by
  intro w us x hu ox
  unfold zdu at h
  split at h
  ·rename_i k hd
   show (Instr.checkKey em (m+d+1) t x).run P w=_
   simp [Instr.checkKey,run_underlying hd,WD]
  ·rename_i len e hd
   simp only [Wb,Wa] at h
   obtain ⟨s,hs,h⟩:=h
   split at h
   ·rename_i hsz
    cases h
    rcases ox with ⟨_,rfl⟩ | ⟨g,_⟩
    ·obtain ⟨i,hi,hi'⟩:=zeu hsz
     obtain ⟨b,hb,hb1⟩:=znQ hs
     have IH:=zun em m d e s hs
     show (Instr.checkKey em (m+d+1) t _).run P w=_
     rw [Instr.checkKey]
     simp only [Sem.run_bind,run_underlying hd,WD]
     simp only [Std.Legacy.Range.forIn_eq_forIn_range',Std.Legacy.Range.size,Nat.sub_zero,Nat.add_one_sub_one,Nat.div_one]
     have each:∀ j∈List.range' 0 len,∃ x,(part e us.toArray (j*s)).run P w=.ok x w∧(Instr.checkKey em (m+d) e x).run P w=.ok () w:=by
      intro j hj
      have hj:j<len:=by simpa using hj
      have hm:j*s+s≤len*s:=by rw [← Nat.succ_mul]; exact WI s hj
      obtain ⟨x,px,ox⟩:=zsm hb hsz hb1 (xs:=us) (off:=j*s) (by omega) w
      exact ⟨x,px,IH w _ x (by simp; omega) ox⟩
     generalize List.range' 0 len=is at each
     induction is with
     | nil=>simp
     | cons j is ih=>
      obtain ⟨x,p1,p2⟩:=each j (by simp)
      simp only [List.forIn_cons,Sem.run_bind,zab hsz,WD,p1,p2,Sem.run_pure]
      exact ih (fun y hy=>each y (by simp [hy]))
    ·simp [zap,hd] at g
   ·cases h
  ·rename_i fs hd
   split at h
   ·cases h
   ·rename_i hst
    rcases ox with ⟨_,rfl⟩ | ⟨g,_⟩
    ·show (Instr.checkKey em (m+d+1) t _).run P w=_
     rw [Instr.checkKey]
     simp only [Sem.run_bind,run_underlying hd,WD]
     rw [← Array.forIn_toList]
     have each:=zuk (fun t n h=>zun em m d t n h) us w fs.toList 0 n h hu
     clear h hd hst
     generalize fs.toList=L at each
     induction L with
     | nil=>simp
     | cons f L ih=>
      obtain ⟨hn,x,p1,p2⟩:=each f (by simp)
      simp only [List.forIn_cons,Sem.run_bind,hn,ne_eq,not_false_eq_true,if_true,WD,p1,p2,Sem.run_pure]
      exact ih (fun y hy=>each y (by simp [hy]))
    ·simp [zap,hd] at g
  ·cases h
theorem zKP:∀ {us vs:List Value},eqV us vs=some true→us=vs∧∀ u∈us,∃ k n,u=.int k n
 | [],[],_=>⟨rfl,by simp⟩
 | [],_::_,h=>by simp [eqV] at h
 | u::us,[],h=>by simp [eqV] at h
 | u::us,v::vs,h=>by
  unfold eqV at h
  split at h
  ·simp_all
  ·rename_i e1 e2
   cases e1; cases e2
   split at h
   ·rename_i hk
    simp only [Wj,Bool.and_eq_true,beq_iff_eq] at h
    obtain ⟨r,hr,e,rfl⟩:=h
    obtain ⟨e2,hi⟩:=zKP hr
    subst hk; subst e; subst e2
    exact ⟨rfl,fun u hu=>by rcases List.mem_cons.1 hu with rfl | hu; exact ⟨_,_,rfl⟩; exact hi u hu⟩
   ·cases h
  ·cases h
theorem zJL{us:List Value}(h:∀ u∈us,∃ k n,u=.int k n)(n:Nat):Instr.sameBits (n+1) (.agg us.toArray) (.agg us.toArray)=true:=by
 simp only [Instr.sameBits,BEq.rfl,Bool.true_and,List.all_eq_true]
 intro ⟨x,y⟩ hxy
 have e:x=y:=by
  obtain ⟨i,hi,e⟩:=List.getElem_of_mem hxy
  simp at e
  rw [← e.1,← e.2]
 subst e
 obtain ⟨k,m,rfl⟩:=h x (List.of_mem_zip hxy).1
 cases n <;> simp [Instr.sameBits]
theorem zKq{t:TypeId}{k:IntKind}(hd:P.underlying t=some (.int k)){x:Value}(em:Bool)(n:Nat):(Instr.checkKey em (n+1) t x).run P w=.ok () w:=by
 simp [Instr.checkKey,run_underlying hd,WD]
theorem zLl{t:TypeId}(hd:P.underlying t=some .string){x:Value}(em:Bool)(n:Nat):(Instr.checkKey em (n+1) t x).run P w=.ok () w:=by
 simp [Instr.checkKey,run_underlying hd,WD]
theorem zuc{Wr:Nat→Nat→Prop}{t:TypeId}{kd:Nat}(hk:zu0 P t=some kd){k:V}{x:Value}(ho:zld kd k=true)(h:RepP ren w Wr k x)(em:Bool)(w':World):(Instr.checkKey em 10000 t x).run P w'=.ok () w':=by
 unfold zu0 at hk
 simp only [Wb,Wa] at hk
 obtain ⟨d,hd,hk⟩:=hk
 split at hk
 ·exact zKq hd em 9999
 ·exact zLl hd em 9999
 ·rename_i fs
  simp only [Wa,Wg] at hk
  obtain ⟨n,hn,rfl⟩:=hk
  cases k <;> simp [zld] at ho
  obtain ⟨us,rfl,hc⟩:=CellsP.of_agg h
  exact zun em 9980 20 t n hn w' us _ (by rw [← hc.1]; exact ho) (.inl ⟨by simp [zap,hd],rfl⟩)
 ·rename_i n' e'
  simp only [Wa,Wg] at hk
  obtain ⟨n,hn,rfl⟩:=hk
  cases k <;> simp [zld] at ho
  obtain ⟨us,rfl,hc⟩:=CellsP.of_agg h
  exact zun em 9980 20 t n hn w' us _ (by rw [← hc.1]; exact ho) (.inl ⟨by simp [zap,hd],rfl⟩)
 ·cases hk
theorem zSJ{a b:ByteArray}(h:(a==b)=true):a=b:=by
 have h:(a.data==b.data)=true:=h
 cases a; cases b
 simpa using h
theorem zNX(a:ByteArray):(a==a)=true:=by
 show (a.data==a.data)=true
 simp
def zAw(P:Program)(t:TypeId)(d:TypeDesc)(w:World)(x y:Value)(r:Bool):Prop:=
 ((∃ b,zap P t=some b∧b=true)∧(∀ y,Instr.sameNow d x y=none)∧(Op.equal t x y).run P w=.ok r w)∨Instr.sameNow d x y=some r
theorem zss{Wr:Nat→Nat→Prop}{t:TypeId}{kd:Nat}(hk:zu0 P t=some kd){d:TypeDesc}(hd:P.underlying t=some d){k k':V}{x y:Value}(ho:zld kd k=true)(h:RepP ren w Wr k x)(h':RepP ren w Wr k' y){r:Bool}(he:zmw k k'=some r)(w':World) :
  zAw P t d w' x y r∧(r=true→Instr.sameBits 10000 y x=true):=by
 unfold zu0 at hk
 simp only [Wb,Wa] at hk
 obtain ⟨d',hd',hk⟩:=hk
 rw [hd] at hd'; cases hd'
 have agg:∀ n,zdu P 20 t=some n→kd=n+2→zap P t=some true→(∀ x y,Instr.sameNow d x y=none)→zAw P t d w' x y r∧(r=true→Instr.sameBits 10000 y x=true):=by
  intro n hn e hb hs
  subst e
  cases k <;> simp [zld] at ho
  rename_i cs
  cases k' <;> simp [zmw] at he
  rename_i ds
  obtain ⟨us,rfl,hc⟩:=CellsP.of_agg h
  obtain ⟨vs,rfl,hc'⟩:=CellsP.of_agg h'
  have hq:=zBr he.2 hc hc'
  refine ⟨.inl ⟨⟨_,hb,rfl⟩,fun y=>hs _ y,?_⟩,fun hr=>?_⟩
  ·exact zFF 9980 20 t n hn w' us vs _ _ r (by rw [← hc.1]; exact ho) (by rw [← hc'.1,← he.1]; exact ho) (.inl ⟨hb,rfl⟩) (.inl ⟨hb,rfl⟩) hq
  ·subst hr
   obtain ⟨e,hi⟩:=zKP hq
   subst e
   exact zJL hi 9999
 split at hk
 ·cases hk
  cases k <;> simp [zld] at ho
  rename_i v; cases v <;> simp at ho
  cases k' <;> simp [zmw] at he
  rename_i v'; cases v' <;> simp at he
  cases h; cases h'
  obtain ⟨e,rfl⟩:=he
  refine ⟨.inr (by simp [Instr.sameNow,e]),fun hr=>?_⟩
  simp at hr
  simp [Instr.sameBits,e,hr]
 ·cases hk
  cases k <;> simp [zld] at ho
  rename_i v; cases v <;> simp at ho
  cases k' <;> simp [zmw] at he
  rename_i v'; cases v' <;> simp at he
  cases h; cases h'
  subst he
  refine ⟨.inr (by simp [Instr.sameNow]),fun hr=>?_⟩
  simp only [Instr.sameBits]
  rw [zSJ hr]
  exact zNX _
 ·simp only [Wa,Wg] at hk
  obtain ⟨n,hn,rfl⟩:=hk
  exact agg n hn rfl (by simp [zap,hd]) (fun x y=>by cases x <;> cases y <;> rfl)
 ·simp only [Wa,Wg] at hk
  obtain ⟨n,hn,rfl⟩:=hk
  exact agg n hn rfl (by simp [zap,hd]) (fun x y=>by cases x <;> cases y <;> rfl)
 ·cases hk
theorem zFc{key:V}:∀ {es:Lm},zyt key es=some none→∀ (j:Nat) (k v:V),es[j]?=some (k,v)→zmw key k=some false
 | [],_,j,k,v,hj=>by simp at hj
 | (k0,v0)::es,h,j,k,v,hj=>by
  unfold zyt at h
  split at h
  ·cases h
  ·rename_i he
   cases j with
   | zero=>simp at hj; rw [← hj.1]; exact he
   | succ j=>exact zFc h j k v (by simpa using hj)
  ·cases h
theorem zG0{key r:V}:∀ {es:Lm},zyt key es=some (some r)→∃ (j:Nat) (k:V),es[j]?=some (k,r)∧zmw key k=some true∧∀ (i:Nat) (k' v':V),i<j→es[i]?=some (k',v')→zmw key k'=some false
 | [],h=>by cases h
 | (k0,v0)::es,h=>by
  unfold zyt at h
  split at h
  ·rename_i he; cases h; exact ⟨0,k0,rfl,he,fun i _ _ hi=>by omega⟩
  ·rename_i he
   obtain ⟨j,k,h1,h2,h3⟩:=zG0 h
   refine ⟨j+1,k,by simpa using h1,h2,fun i k' v' hi hk'=>?_⟩
   cases i with
   | zero=>simp at hk'; rw [← hk'.1]; exact he
   | succ i=>exact h3 i k' v' (by omega) (by simpa using hk')
  ·cases h
theorem zIU{key val:V}:∀ {es es':Lm},zMn key val es=some es' →
  ((∀ (j:Nat) (k v:V),es[j]?=some (k,v)→zmw key k=some false)∧es'=es++[(key,val)]) ∨
  (∃ (j:Nat) (k r:V),es[j]?=some (k,r)∧zmw key k=some true∧(∀ (i:Nat) (k' v':V),i<j→es[i]?=some (k',v')→zmw key k'=some false)∧es'=es.set j (key,val))
 | [],es',h=>by cases h; exact .inl ⟨by simp,rfl⟩
 | (k0,v0)::es,es',h=>by
  unfold zMn at h
  split at h
  ·rename_i he; cases h; exact .inr ⟨0,k0,v0,rfl,he,fun i _ _ hi=>by omega,rfl⟩
  ·rename_i he
   simp only [Wj] at h
   obtain ⟨es1,h1,rfl⟩:=h
   rcases zIU h1 with ⟨g1,g2⟩ | ⟨j,k,r,g1,g2,g3,g4⟩
   ·refine .inl ⟨fun j k v hj=>?_,by rw [g2]; rfl⟩
    cases j with
    | zero=>simp at hj; rw [← hj.1]; exact he
    | succ j=>exact g1 j k v (by simpa using hj)
   ·refine .inr ⟨j+1,k,r,by simpa using g1,g2,fun i k' v' hi hk'=>?_,by rw [g4]; rfl⟩
    cases i with
    | zero=>simp at hk'; rw [← hk'.1]; exact he
    | succ i=>exact g3 i k' v' (by omega) (by simpa using hk')
  ·cases h
theorem zAK{d:TypeDesc}{x:Value}:∀ (L:List MapEntry) (i:Nat),(∀ e∈L,Instr.sameNow d x e.key=some false)→Instr.findNow d x L i=some none
 | [],i,_=>rfl
 | e::L,i,h=>by simp only [Instr.findNow,h e (by simp)]; exact zAK L (i+1) (fun e he=>h e (by simp [he]))
theorem zz5{d:TypeDesc}{x:Value}:∀ (L:List MapEntry) (i j:Nat) (e:MapEntry),L[j]?=some e→Instr.sameNow d x e.key=some true→(∀ i' e',i'<j→L[i']?=some e'→Instr.sameNow d x e'.key=some false)→Instr.findNow d x L i=some (some (i+j,e.val))
 | [],i,j,e,h,_,_=>by simp at h
 | e0::L,i,0,e,h,h1,_=>by simp at h; subst h; simp [Instr.findNow,h1]
 | e0::L,i,j+1,e,h,h1,h2=>by
  have:=zz5 L (i+1) j e (by simpa using h) h1 (fun i' e' hi he=>h2 (i'+1) e' (by omega) (by simpa using he))
  simp only [Instr.findNow,h2 0 e0 (by omega) rfl,this]
  congr 3; omega
theorem zuU{t:TypeId}{x:Value}{w:World}:∀ (L:List MapEntry) (i:Nat),(∀ e∈L,(Op.equal t x e.key).run P w=.ok false w)→(Instr.findAsking t x L i).run P w=.ok none w
 | [],i,_=>by simp [Instr.findAsking]
 | e::L,i,h=>by simp [Instr.findAsking,h e (by simp),zuU L (i+1) (fun e he=>h e (by simp [he]))]
theorem zuu{t:TypeId}{x:Value}{w:World}:∀ (L:List MapEntry) (i j:Nat) (e:MapEntry),L[j]?=some e→(Op.equal t x e.key).run P w=.ok true w→(∀ i' e',i'<j→L[i']?=some e'→(Op.equal t x e'.key).run P w=.ok false w)→(Instr.findAsking t x L i).run P w=.ok (some (i+j,e.val)) w
 | [],i,j,e,h,_,_=>by simp at h
 | e0::L,i,0,e,h,h1,_=>by simp at h; subst h; simp [Instr.findAsking,h1]
 | e0::L,i,j+1,e,h,h1,h2=>by
  have:=zuu L (i+1) j e (by simpa using h) h1 (fun i' e' hi he=>h2 (i'+1) e' (by omega) (by simpa using he))
  have e3:i+1+j=i+(j+1):=by omega
  rw [e3] at this
  simp [Instr.findAsking,h2 0 e0 (by omega) rfl,this]
theorem zBw{t:TypeId}{d:TypeDesc}(hd:P.underlying t=some d){x:Value}{w:World}{L:List MapEntry}(h:∀ e∈L,zAw P t d w x e.key false):(Instr.findKey t x L).run P w=.ok none w:=by
 simp only [Instr.findKey,Sem.run_bind,run_underlying hd,WD]
 cases L with
 | nil=>simp [Instr.findNow]
 | cons e0 L=>
  rcases h e0 (by simp) with ⟨⟨b,hb,rfl⟩,h1,h2⟩ | h1
  ·have ask:∀ e∈e0::L,(Op.equal t x e.key).run P w=.ok false w:=fun e he=>by
    rcases h e he with ⟨_,_,g⟩ | g
    ·exact g
    ·rw [h1] at g; cases g
   rw [show Instr.findNow d x (e0::L) 0=none by simp [Instr.findNow,h1]]
   exact zuU _ 0 ask
  ·by_cases hall:∀ e∈e0::L,Instr.sameNow d x e.key=some false
   ·rw [zAK _ 0 hall]; rfl
   ·exfalso
    apply hall
    intro e he
    rcases h e he with ⟨_,g,_⟩ | g
    ·rw [g] at h1; cases h1
    ·exact g
theorem zAJ{t:TypeId}{d:TypeDesc}(hd:P.underlying t=some d){x:Value}{w:World}{L:List MapEntry}{j:Nat}{e:MapEntry}(hj:L[j]?=some e)(h1:zAw P t d w x e.key true)(h2:∀ i' e',i'<j→L[i']?=some e'→zAw P t d w x e'.key false):(Instr.findKey t x L).run P w=.ok (some (j,e.val)) w:=by
 simp only [Instr.findKey,Sem.run_bind,run_underlying hd,WD]
 rcases h1 with ⟨_,g1,g2⟩ | g1
 ·have hn:Instr.findNow d x L 0=none:=by
   cases L with
   | nil=>simp at hj
   | cons e0 L=>simp [Instr.findNow,g1]
  rw [hn]
  have:=zuu (P:=P) L 0 j e hj g2 (fun i' e' hi he=>by
   rcases h2 i' e' hi he with ⟨_,_,g⟩ | g
   ·exact g
   ·rw [g1] at g; cases g)
  simpa using this
 ·have:=zz5 L 0 j e hj g1 (fun i' e' hi he=>by
   rcases h2 i' e' hi he with ⟨_,g,_⟩ | g
   ·rw [g] at g1; cases g1
   ·exact g)
  rw [this]; simp
theorem zUc{b:List B}{id:Nat}(hid:id<b.length)(es:Lm):yr (b.set id (.mp es)) id=some 0:=by
 unfold yr; rw [WF hid]
theorem Rel.newMap(R:Rel ren we ωe U O σ a w ω μ){id:Nat}(hid:σ.b[id]?=some .gone) :
  Rel ren we ωe U O (σ.setB id (.mp [])) a (w.alloc (.map #[] 0)) (upd ω w.heap.size (.blk id)) (upd μ id w.heap.size):=by
 have hlt:id<σ.b.length:=(Wi.1 hid).1
 have hnew:(w.alloc (.map #[] 0)).heap[w.heap.size]?=some (.map #[] 0):=heap_alloc_new w _
 have hwsz:∀ k,ω k≠.no→k<w.heap.size:=fun k h=>(R.ow k h).2
 have hgs:∀ (l:Loc) β h,ω β=.gs l h→upd ω w.heap.size (.blk id) β=.gs l h∧(w.alloc (.map #[] 0)).heap[β]?=w.heap[β]?:=by
  intro l β h e
  have hβ:=hwsz β (by rw [e]; simp)
  exact ⟨by rw [yl _ _ (by omega)]; exact e,heap_alloc_old w _ hβ⟩
 have F:Fr (env U σ w ω μ) (env U (σ.setB id (.mp [])) (w.alloc (.map #[] 0)) (upd ω w.heap.size (.blk id)) (upd μ id w.heap.size)):=by
  refine ⟨fun k o u h1 h2=>?_,fun id' L hL=>?_⟩
  ·have hk:k<w.heap.size:=World.block_lt_of_cell? w ⟨k,o,none⟩ h2
   refine ⟨?_,(World.cell?_alloc_lt w _ ⟨k,o,none⟩ hk).trans h2⟩
   show ¬ wr U (upd ω w.heap.size (.blk id)) k o
   unfold wr
   rw [yl _ _ (by omega)]
   exact h1
  ·have hL:yr σ.b id'=some L:=hL
   have hne:id'≠id:=by rintro rfl; simp [yr,hid] at hL
   refine ⟨?_,yl _ _ hne,?_⟩
   ·show yr (σ.b.set id _) id'=some L
    unfold yr at hL ⊢
    rw [WE (fun e=>hne e.symm)]
    exact hL
   ·show yA w (μ id')≤yA (w.alloc (.map #[] 0)) (μ id')
    by_cases hm:μ id'<w.heap.size
    ·unfold yA; rw [heap_alloc_old w _ hm]; exact Wq _
    ·unfold yA; rw [WT (by omega)]; exact Nat.zero_le _
 refine R.step F rfl (fun t j β h _ e=>hgs _ β h e) (fun id' p' cs' h' hne'=>?_) (fun id' cs' h'=>?_) (fun id' es' h'=>?_) (Kept.alloc No w _) (fun k _ h=>zn1 h) (fun k hk=>?_) (fun k=>?_)
 ·by_cases hne:id'=id
  ·subst hne
   simp only [St.setB] at h'
   rw [WF hlt] at h'
   cases h'
  ·simp only [St.setB] at h'
   rw [WE (fun e=>hne e.symm)] at h'
   obtain ⟨e0,arr',T',e1,_⟩:=R.live h' hne'
   have hβ:=hwsz (μ id') (by rw [e0]; simp)
   exact .inl ⟨h',by rw [yl _ _ (by omega)]; exact e0,heap_alloc_old w _ hβ,fun j β h e=>hgs _ β h e⟩
 ·by_cases hne:id'=id
  ·subst hne
   simp only [St.setB] at h'
   rw [WF hlt] at h'
   cases h'
  ·simp only [St.setB] at h'
   rw [WE (fun e=>hne e.symm)] at h'
   obtain ⟨e0,arr',T',fr',e1,_⟩:=R.fs id' cs' h'
   have hβ:μ id'<w.heap.size:=(QA.1 e1).1
   refine .inl ⟨h',fun o hw=>e0 o ?_,heap_alloc_old w _ hβ⟩
   unfold wr at hw ⊢
   rwa [yl _ _ (by omega)] at hw
 ·by_cases hne:id'=id
  ·subst hne
   simp only [St.setB] at h'
   rw [WF hlt] at h'
   cases h'
   exact .inr ⟨by rw [xv,xv],#[],0,by rw [xv]; exact hnew,rfl,by simp⟩
  ·simp only [St.setB] at h'
   rw [WE (fun e=>hne e.symm)] at h'
   obtain ⟨e0,arr',clock',e1,_⟩:=R.ms id' es' h'
   have hβ:=hwsz (μ id') (by rw [e0]; simp)
   exact .inl ⟨h',by rw [yl _ _ (by omega)]; exact e0,heap_alloc_old w _ hβ⟩
 ·by_cases hk':k=w.heap.size
  ·subst hk'; exact ⟨.inl R.kp.size,by simp⟩
  ·rw [yl _ _ hk'] at hk
   exact ⟨(R.ow k hk).1,by have:=(R.ow k hk).2; simp; omega⟩
 ·by_cases hm:k<w.heap.size
  ·unfold yA; rw [heap_alloc_old w _ hm]; exact Wq _
  ·unfold yA; rw [WT (xs:=w.heap) (by omega)]; exact Nat.zero_le _
theorem Rel.writeMap(R:Rel ren we ωe U O σ a w ω μ){id:Nat}{es es':Lm}(hid:σ.b[id]?=some (.mp es)){arr':Array MapEntry}{clock':Nat}(hr:MapRep ren w (wr U ω) es' arr') :
  Rel ren we ωe U O (σ.setB id (.mp es')) a { w with heap:=w.heap.setIfInBounds (μ id) (.map arr' clock') } ω μ:=by
 have hlt:id<σ.b.length:=(Wi.1 hid).1
 obtain ⟨e0,arr,clock,ha,_⟩:=R.ms id es hid
 have hin:μ id<w.heap.size:=(QA.1 ha).1
 generalize hw':({ w with heap:=w.heap.setIfInBounds (μ id) (.map arr' clock') }:World)=w'
 have hw1:w'.heap[μ id]?=some (.map arr' clock'):=by subst hw'; simp [hin]
 have hw2:∀ k,k≠μ id→w'.heap[k]?=w.heap[k]?:=by intro k hk; subst hw'; simp [Ne.symm hk]
 have hk:Kept (fun k=>k=μ id) w w':=by subst hw'; exact ⟨rfl,rfl,rfl,by simp,fun k _ hn=>by simp [Ne.symm hn]⟩
 have hcell:∀ k o,k≠μ id→w'.cell? ⟨k,o,none⟩=w.cell? ⟨k,o,none⟩:=fun k o h=>World.cell?_of_block (hw2 k h)
 have hwr:∀ o,wr U ω (μ id) o:=fun o=>.inr (by rw [e0]; trivial)
 have hgs:∀ (l:Loc) β h,ω β=.gs l h→ω β=.gs l h∧w'.heap[β]?=w.heap[β]?:=by
  intro l β h e
  exact ⟨e,hw2 β (by rintro rfl; rw [e0] at e; cases e)⟩
 have hrs:∀ k,yA w k≤yA w' k:=by
  intro k
  by_cases hm:k=μ id
  ·rw [hm]; unfold yA; rw [ha,hw1]; exact Wq _
  ·unfold yA; rw [hw2 _ hm]; exact Wq _
 have F:Fr (env U σ w ω μ) (env U (σ.setB id (.mp es')) w' ω μ):=by
  refine ⟨fun k o u h1 h2=>⟨h1,?_⟩,fun id' L hL=>⟨?_,rfl,hrs _⟩⟩
  ·have:k≠μ id:=by rintro rfl; exact h1 (hwr o)
   exact (hcell k o this).trans h2
  ·have hL:yr σ.b id'=some L:=hL
   show yr (σ.b.set id _) id'=some L
   unfold yr at hL ⊢
   by_cases hne:id'=id
   ·subst hne
    rw [WF hlt]
    rw [hid] at hL
    simpa using hL
   ·rw [WE (fun e=>hne e.symm)]; exact hL
 refine R.step F rfl (fun t j β h _ e=>hgs _ β h e) (fun id' p' cs'' h' hne'=>?_) (fun id' cs'' h'=>?_) (fun id' es'' h'=>?_) hk (fun k hk1 hk2=>?_) (fun k hk1=>?_) hrs
 ·by_cases hne:id'=id
  ·subst hne
   simp only [St.setB] at h'
   rw [WF hlt] at h'
   cases h'
  ·simp only [St.setB] at h'
   rw [WE (fun e=>hne e.symm)] at h'
   obtain ⟨e1,_⟩:=R.live h' hne'
   exact .inl ⟨h',e1,hw2 _ (by intro e; rw [e,e0] at e1; cases e1; exact hne rfl),fun j β h e=>hgs _ β h e⟩
 ·by_cases hne:id'=id
  ·subst hne
   simp only [St.setB] at h'
   rw [WF hlt] at h'
   cases h'
  ·simp only [St.setB] at h'
   rw [WE (fun e=>hne e.symm)] at h'
   obtain ⟨e1,_⟩:=R.fs id' cs'' h'
   exact .inl ⟨h',e1,hw2 _ (by intro e; rw [e] at e1; exact e1 0 (hwr 0))⟩
 ·by_cases hne:id'=id
  ·subst hne
   simp only [St.setB] at h'
   rw [WF hlt] at h'
   cases h'
   exact .inr ⟨e0,arr',clock',hw1,hr.mono F.st⟩
  ·simp only [St.setB] at h'
   rw [WE (fun e=>hne e.symm)] at h'
   obtain ⟨e1,_⟩:=R.ms id' es'' h'
   exact .inl ⟨h',e1,hw2 _ (by intro e; rw [e,e0] at e1; cases e1; exact hne rfl)⟩
 ·subst hk2
  rcases (R.ow (μ id) (by rw [e0]; simp)).1 with h | h
  ·omega
  ·exact h
 ·exact ⟨(R.ow k hk1).1,Nat.lt_of_lt_of_le (R.ow k hk1).2 hk.size⟩
theorem zMz(t:TypeId)(w:World):(Instr.makeMap t none).run P w=.ok (.map (some w.heap.size)) (w.alloc (.map #[] 0)):=rfl
theorem zn9{r:Nat}{es:Array MapEntry}{clock:Nat}(hb:w.heap[r]?=some (.map es clock)):(getObj r).run P w=.ok (.map es clock) w:=by
 simp [getObj,Sem.run,hb]
theorem zGl{r:Nat}{es:Array MapEntry}{clock:Nat}(o:Obj)(hb:w.heap[r]?=some (.map es clock)):(setObj r o).run P w=.ok () { w with heap:=w.heap.setIfInBounds r o }:=by
 simp [setObj,Sem.run,hb]
theorem zKp(R:Rel ren we ωe U O σ a w ω μ){o:Oper}{t:TypeId}(hop:o.op=.makeMap t none){nb:Nat}{cb:CB}{pin:Bool}{σ':St}(h:yd cb nb σ o.dst pin .makeMap=some σ'):StepOk P ren we ωe U O a w o σ' nb μ:=by
 simp only [yd] at h
 obtain ⟨d,hd,hg,rfl⟩:=zfe h
 have hlt:nb+d<σ.b.length:=(Wi.1 hg).1
 refine .value (u:=.map (some w.heap.size)) (w':=w.alloc (.map #[] 0)) (by simp [execOp,hop,zMz]) ?_
 refine ⟨_,_,(R.newMap hg).put o.dst (fun i _=>?_),fun k hk=>zlP hk⟩
 have:=Rep.mp (ren:=ren) (E:=env U (σ.setB (nb+d) (.mp [])) (w.alloc (.map #[] 0)) (upd ω w.heap.size (.blk (nb+d))) (upd μ (nb+d) w.heap.size)) (l:=.slot i 0) (nb+d) 0 (zUc hlt _)
 simpa [env,xv] using this
theorem zI6{E:En}{l:Loc}{kd:Nat}{k:V}{u:Value}(ho:zld kd k=true)(h:Rep ren E l k u):RepP ren E.w E.Wr k u:=by
 unfold zld at ho
 split at ho
 ·cases h with | pure h=>exact h
 ·cases h with | pure h=>exact h
 ·cases h with | pure h=>exact h
 ·cases ho
theorem zQp{Wr:Nat→Nat→Prop}{t:TypeId}{v:V}(h:zKk P t=some v):∃ i zv,P.info? t=some i∧i.zero=some zv∧RepP ren w Wr v zv:=by
 unfold zKk at h
 simp only [Wb,Wa] at h
 obtain ⟨z,hz,b,hb,zv,⟨i,hi,hzv⟩,h⟩:=h
 obtain ⟨i',zv',hi',hzv',hc⟩:=zhc (ren:=ren) (w:=w) (Wr:=Wr) hz
 rw [hi] at hi'; cases hi'
 rw [hzv] at hzv'; cases hzv'
 have hd:=zkj hc
 refine ⟨i,zv,hi,hzv,?_⟩
 split at h
 ·cases h
  have:=hd.agg
  simpa [Value.cells] using this
 ·cases h
 ·rename_i hne
  cases h
  have e:zv.cells=#[zv]:=by cases zv <;> first | rfl | exact absurd rfl (hne _)
  rw [e] at hd
  obtain ⟨u,hu,_,hr⟩:=hd.2 0 _ rfl
  simp at hu; subst hu; exact hr
 ·cases h
theorem zOf(R:Rel ren we ωe U O σ a w ω μ){o:Oper}{t kt e:TypeId}{x i:Operand}{ok:Bool}(hop:o.op=.lookup t x i ok)(ht:P.underlying t=some (.map kt e)){kd:Nat}(hkd:zu0 P kt=some kd){zero:V}(hz:zKk P e=some zero){sx si:Src}{t1 t2:TypeId}(hx:yj P ren t1 x=some sx)(hi:yj P ren t2 i=some si)
  {nb:Nat} {cb:CB} {pin:Bool} {σ':St} (h:yd cb nb σ o.dst pin (.mlook kd ok zero sx si)=some σ'):StepOk P ren we ωe U O a w o σ' nb μ:=by
 simp only [yd] at h
 split at h
 ·rename_i id hgx
  split at h
  ·rename_i es hes
   split at h
   ·rename_i hko
    simp only [Wb,Wa,Option.pure_def,Wg] at h
    obtain ⟨r,hr,rfl⟩:=h
    have rx:=R.opnd hx; rw [hgx] at rx
    obtain ⟨L,_,ex⟩:=rx.mp_inv
    have ri:RepP ren w (wr U ω) (si.get σ) (a.eval i):=zI6 hko (R.opnd hi)
    obtain ⟨_,arr,clock,ha,hm1,hm2⟩:=R.ms id es hes
    have ex:a.eval x=.map (some (μ id)):=ex
    obtain ⟨d,hd⟩:∃ d,P.underlying kt=some d:=by
     unfold zu0 at hkd
     simp only [Wb,Wa] at hkd
     exact ⟨hkd.choose,hkd.choose_spec.1⟩
    obtain ⟨iz,zv,hiz,hzv,hzr⟩:=zQp (ren:=ren) (w:=w) (Wr:=wr U ω) hz
    have hent:∀ (j:Nat) (e:MapEntry),arr.toList[j]?=some e→∃ k v,es[j]?=some (k,v)∧RepP ren w (wr U ω) k e.key∧RepP ren w (wr U ω) v e.val:=by
     intro j e he
     have hj:j<arr.size:=by have:=(Wi.1 he).1; simpa using this
     have hj':j<es.length:=by omega
     obtain ⟨e',h1,h2,h3⟩:=hm2 j es[j].1 es[j].2 (Wc hj')
     have:e'=e:=by
      rw [W5] at he
      rw [he] at h1; cases h1; rfl
     subst this
     exact ⟨_,_,Wc hj',h2,h3⟩
    have key:∃ q:Option (Nat × Value),(Instr.findKey kt (a.eval i) arr.toList).run P w=.ok q w∧(match q with | some (_,v)=>r.isSome=true∧RepP ren w (wr U ω) (r.getD zero) v | none=>r=none):=by
     cases r with
     | none=>
      refine ⟨none,zBw hd (fun e he=>?_),rfl⟩
      obtain ⟨j,hj⟩:=QJ.1 he
      obtain ⟨k,v,g1,g2,g3⟩:=hent j e hj
      exact (zss hkd hd hko ri g2 (zFc hr j k v g1) w).1
     | some rv=>
      obtain ⟨j,k,g1,g2,g3⟩:=zG0 hr
      obtain ⟨e,f1,f2,f3⟩:=hm2 j k rv g1
      refine ⟨some (j,e.val),zAJ hd (by simpa using f1) (zss hkd hd hko ri f2 g2 w).1 (fun i' e' hi' he'=>?_),rfl,f3⟩
      obtain ⟨k',v',q1,q2,q3⟩:=hent i' e' he'
      exact (zss hkd hd hko ri q2 (g3 i' k' v' hi' q1) w).1
    obtain ⟨q,hq1,hq2⟩:=key
    have fin:∃ uv:Value,∃ ub:Bool,(execOp a.eval o).run P w=.ok (.value (if ok then .tuple #[uv,.bool ub] else uv)) w∧RepP ren w (wr U ω) (r.getD zero) uv∧ub=r.isSome:=by
     cases q with
     | none=>
      have hq2:r=none:=hq2
      subst hq2
      refine ⟨zv,false,?_,hzr,rfl⟩
      simp [execOp,hop,ex,Instr.lookup,run_underlying ht,zn9 ha,zuc hkd hko ri,hq1,zeroValue,typeInfo,hiz,hzv,WD]
     | some p=>
      obtain ⟨j,v⟩:=p
      obtain ⟨g1,g2⟩:=hq2
      refine ⟨v,true,?_,g2,g1.symm⟩
      simp [execOp,hop,ex,Instr.lookup,run_underlying ht,zn9 ha,zuc hkd hko ri,hq1,WD]
    obtain ⟨uv,ub,f1,f2,f3⟩:=fin
    refine .value f1 ⟨ω,μ,R.put _ (fun s _=>?_),fun _ _=>rfl⟩
    subst f3
    cases ok with
    | false=>exact .pure f2
    | true=>
     refine .tup _ [uv,.bool r.isSome] rfl (fun j v u hv hu=>?_)
     match j with
     | 0=>simp at hv hu; subst hv; subst hu; exact .pure f2
     | 1=>simp at hv hu; subst hv; subst hu; exact .pure (.sc _ rfl)
     | j+2=>simp at hv
   ·cases h
  ·cases h
 ·cases h
theorem zQk(R:Rel ren we ωe U O σ a w ω μ){o:Oper}{t kt e:TypeId}{x:Operand}(hop:o.op=.call { callee:=.builtin .len,args:=#[x],argTypes:=#[t] })(ht:P.underlying t=some (.map kt e)){sx:Src}{t1:TypeId}(hx:yj P ren t1 x=some sx)
  {nb:Nat} {cb:CB} {pin:Bool} {σ':St} (h:yd cb nb σ o.dst pin (.lenM sx)=some σ'):StepOk P ren we ωe U O a w o σ' nb μ:=by
 simp only [yd] at h
 split at h
 ·rename_i id hgx
  split at h
  ·rename_i es hes
   cases h
   have rx:=R.opnd hx; rw [hgx] at rx
   obtain ⟨L,_,ex⟩:=rx.mp_inv
   have ex:a.eval x=.map (some (μ id)):=ex
   obtain ⟨_,arr,clock,ha,hm1,hm2⟩:=R.ms id es hes
   refine .value (u:=.int .i64 es.length) (w':=w) ?_ ⟨ω,μ,R.put _ (fun s _=>.pure (.sc _ rfl)),fun _ _=>rfl⟩
   simp [execOp,hop,resolve,invoke,builtin,Builtin.len_,run_underlying ht,ex,zn9 ha,goInt,hm1,WD]
  ·cases h
 ·cases h
theorem zIR(R:Rel ren we ωe U O σ a w ω μ){o:Oper}{t kt e:TypeId}{x i y:Operand}(hop:o.op=.mapUpdate t x i y∨o.op=.insert t x i y)(ht:P.underlying t=some (.map kt e)){kd:Nat}(hkd:zu0 P kt=some kd){sx si sy:Src}{t1 t2 t3:TypeId}(hx:yj P ren t1 x=some sx)(hi:yj P ren t2 i=some si)(hy:yj P ren t3 y=some sy)
  {nb:Nat} {cb:CB} {pin:Bool} {σ':St} (h:yd cb nb σ o.dst pin (.mput kd sx si sy)=some σ'):StepOk P ren we ωe U O a w o σ' nb μ:=by
 simp only [yd] at h
 split at h
 ·cases h
 rename_i hdst
 have hdst:o.dst=none:=by simpa using hdst
 split at h
 ·rename_i id hgx
  split at h
  ·rename_i es hes
   split at h
   ·rename_i hko
    simp only [Wb,Wa,Option.pure_def,Wg] at h
    obtain ⟨val,hval,es',hset,rfl⟩:=h
    have rx:=R.opnd hx; rw [hgx] at rx
    obtain ⟨L,_,ex⟩:=rx.mp_inv
    have ri:RepP ren w (wr U ω) (si.get σ) (a.eval i):=zI6 hko (R.opnd hi)
    have ry:RepP ren w (wr U ω) val (a.eval y):=(R.opnd hy).plain R.hU hval
    obtain ⟨_,arr,clock,ha,hm1,hm2⟩:=R.ms id es hes
    have ex:a.eval x=.map (some (μ id)):=ex
    obtain ⟨d,hd⟩:∃ d,P.underlying kt=some d:=by
     unfold zu0 at hkd
     simp only [Wb,Wa] at hkd
     exact ⟨hkd.choose,hkd.choose_spec.1⟩
    have hent:∀ (j:Nat) (e:MapEntry),arr.toList[j]?=some e→∃ k v,es[j]?=some (k,v)∧RepP ren w (wr U ω) k e.key∧RepP ren w (wr U ω) v e.val:=by
     intro j e he
     have hj:j<arr.size:=by have:=(Wi.1 he).1; simpa using this
     have hj':j<es.length:=by omega
     obtain ⟨e',h1,h2,h3⟩:=hm2 j es[j].1 es[j].2 (Wc hj')
     have:e'=e:=by
      rw [W5] at he
      rw [he] at h1; cases h1; rfl
     subst this
     exact ⟨_,_,Wc hj',h2,h3⟩
    have fin:∃ arr' clock',(execOp a.eval o).run P w=.ok .skip { w with heap:=w.heap.setIfInBounds (μ id) (.map arr' clock') }∧MapRep ren w (wr U ω) es' arr':=by
     rcases zIU hset with ⟨g1,rfl⟩ | ⟨j,k,r,g1,g2,g3,rfl⟩
     ·have hq:(Instr.findKey kt (a.eval i) arr.toList).run P w=.ok none w:=zBw hd (fun e he=>by
       obtain ⟨j,hj⟩:=QJ.1 he
       obtain ⟨k,v,q1,q2,q3⟩:=hent j e hj
       exact (zss hkd hd hko ri q2 (g1 j k v q1) w).1)
      refine ⟨arr.push { key:=a.eval i,val:=a.eval y,born:=clock },clock+1,?_,by simp [hm1],fun j k v hj=>?_⟩
      ·rcases hop with hop | hop <;> simp [execOp,hop,ex,Instr.mapUpdate,run_underlying ht,zn9 ha,zuc hkd hko ri,hq,zGl _ ha,WD]
      ·by_cases hlt:j<es.length
       ·rw [Wv hlt] at hj
        obtain ⟨e,f1,f2,f3⟩:=hm2 j k v hj
        exact ⟨e,by rw [QL,if_neg (by omega)]; exact f1,f2,f3⟩
       ·rw [Wt (by omega)] at hj
        have hj0:j=es.length:=by
         have:=(Wi.1 hj).1
         simp at this; omega
        subst hj0
        simp at hj
        obtain ⟨rfl,rfl⟩:=hj
        exact ⟨_,by rw [QL,if_pos hm1.symm],ri,ry⟩
     ·obtain ⟨e,f1,f2,f3⟩:=hm2 j k r g1
      have hkc:=zss hkd hd hko ri f2 g2 w
      have hq:(Instr.findKey kt (a.eval i) arr.toList).run P w=.ok (some (j,e.val)) w:=zAJ hd (by simpa using f1) hkc.1 (fun i' e' hi' he'=>by
       obtain ⟨k',v',q1,q2,q3⟩:=hent i' e' he'
       exact (zss hkd hd hko ri q2 (g3 i' k' v' hi' q1) w).1)
      have hst:(Instr.keyThatStays e.key (a.eval i)).run P w=.ok (a.eval i) w:=by
       simp [Instr.keyThatStays,hkc.2 rfl]
      have hjl:j<es.length:=(Wi.1 g1).1
      refine ⟨arr.modify j fun e=>{ e with key:=a.eval i,val:=a.eval y },clock,?_,by simp [hm1],fun j' k' v' hj'=>?_⟩
      ·rcases hop with hop | hop <;> simp [execOp,hop,ex,Instr.mapUpdate,run_underlying ht,zn9 ha,zuc hkd hko ri,hq,f1,hst,zGl _ ha,WD]
      ·by_cases hjj:j'=j
       ·subst hjj
        rw [WF hjl] at hj'
        cases hj'
        exact ⟨{ e with key:=a.eval i,val:=a.eval y },by rw [QK,if_pos rfl,f1]; rfl,ri,ry⟩
       ·rw [WE (fun e=>hjj e.symm)] at hj'
        obtain ⟨e',q1,q2,q3⟩:=hm2 j' k' v' hj'
        exact ⟨e',by rw [QK,if_neg (fun e=>hjj e.symm)]; exact q1,q2,q3⟩
    obtain ⟨arr',clock',f1,f2⟩:=fin
    refine .skip f1 ⟨ω,μ,?_,fun _ _=>rfl⟩
    rw [hdst]
    exact R.writeMap hes f2
   ·cases h
  ·cases h
 ·cases h
end
end Go.Proofs.YtgmhijonllockaaGreatDoor
