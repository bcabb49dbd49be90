/- Part 4 of the proof of ScanRewinds: an abstract machine over plain values, its soundness, and the functions of the program on plain values. -/
import Derived.Laws.AppendOwn
import Derived.MapKept
import Derived.Carry
import Derived.Test.YtipklgbboecciaaGreatMScanRewinds3
namespace Go.Proofs.YtipklgbboecciaaGreat
set_option maxRecDepth 100000
set_option linter.unusedVariables false
set_option linter.unusedSimpArgs false
open Option renaming bind_eq_some_iff->Waa,bind_eq_bind->Wab
open List renaming getElem?_set_self->Wax,range->Waq,getElem?_eq_some_iff->Wam,getElem?_set_ne->Waw,getElem?_eq_getElem->Wac,getElem?_append_right->Wal,getElem?_append_left->Wan,getElem?_take->Wai,length_eq_zero_iff->WaT,getElem?_toArray->Wba,flatten_append->Wbc,getElem?_range->Wbd,getElem?_drop->Waj,getElem?_map->WaU,mem_iff_getElem?->Wbh,replicate->Wad,length_pos_iff->Wbi
open Option.some renaming injEq->Waf
open Nat renaming le_refl->Wah,mul_le_mul_right->WaA,add_mul->WaC,zero_add->Wau,le_trans->Wbb,le_mul_of_pos_left->Wbg
open Result renaming andThen_ok->Waz
open Bool renaming false_eq_true->WaR
open _root_.Array renaming getElem?_append_left->Wbe,getElem?_eq_some_iff->WaL,getElem?_eq_none->WaE
open IntKind renaming wrap->Wbf
section
variable {T Ty t ty e t1 t2:TypeId}{arr cur:Array Value}{sz n sLen sCap id:Nat}{i:TypeInfo}{z cs:List V}{olds news:List Value}{E:En}{l:Loc}{es es2:Ls}{u zv:Value}{o:Oper}{s ss sx:Src}{x:Operand}{v:V}{f2:Nat->Value}{σ':St}{ah p:Bool}{cb:CB}{k k':IntKind}
variable {aa:Rn} {we:World} {ωe:Nat->Ow} {U:Nat->Nat->Prop} {O:Nat->Prop} {Z:St} {a:Act} {w:World} {ω:Nat->Ow} {μ:Nat->Nat} {P:Program} {nb:Nat}
theorem Rel.grow(R:Rel aa we ωe U O Z a w ω μ){T j0:Nat}(hT:Z.t.length<=T){Y h:Nat}(hβ:ω Y=.gs (.slot T j0) h){arr':Array Value}(hb:w.heap[Y]?=some (.cells arr Ty (0,0)))(hs:arr'.size=arr.size)(hsame:∀ i,i<h->arr'[i]?=arr[i]?) :
  Fr (env U Z w ω μ) (env U Z (w.setRow Y arr') ω μ)/\Rel aa we ωe U O Z a (w.setRow Y arr') ω μ:=by
 have hnew:=setRow_heap w Y arr arr' Ty _ hb;have hoth:=λk (hk:k≠Y)=>setRow_other w Y k arr' hk;have F:Fr (env U Z w ω μ) (env U Z (w.setRow Y arr') ω μ):=by
  refine ⟨λk o u h1 h2=>⟨h1,?_⟩,λid L hL=>⟨hL,rfl,?_⟩⟩
  ·by_cases hk:k=Y
   ·subst hk;have h1:¬ wr U ω k o:=h1;have ho:o<h:=by
     grind [wr]
    have h2:w.cell? ⟨k,o,none⟩=some u:=h2;show (w.setRow k arr').cell? ⟨k,o,none⟩=some u;rw [cell_of_row _ _ _ _ _ _ hb] at h2;rw [cell_of_row _ _ _ _ _ _ hnew,hsame o ho]; exact h2
   ·exact (World.cell?_of_block (a:=⟨k,o,none⟩) (hoth k hk)).trans h2
  ·show eR w (μ id)<=eR (w.setRow Y arr') (μ id);by_cases hk:μ id=Y
   ·rw [hk,jX hb,jX hnew,hs]; exact Wah _
   ·unfold eR; rw [hoth _ hk]; exact Wah _
 refine ⟨F,R.step F rfl (λt j β2 h2 ht e=>⟨e,hoth β2 ?_⟩) (λid p cs h' hne=>.inl ⟨h',(R.live h' hne).1,hoth _ ?_,λj β2 h2 e=>⟨e,hoth β2 (by grind)⟩⟩) (λid cs h'=>?_) (λid es h'=>.inl ⟨h',(R.ms id es h').1,hoth _ (by intro e; have:=(R.ms id es h').1; grind)⟩) (DY w Y arr') (λk hk1 hk2=>?_) (λk hk=>by rw [setRow_size]; exact R.ow k hk) (λk=>?_)⟩
 ·grind
 ·intro e;have:=(R.live h' hne).1
  grind
 ·by_cases hk:μ id=Y
  ·obtain ⟨e0,arr0,T0,aU,e1,e2,e3⟩:=R.fs id cs h'
   exfalso
   rw [hk] at e0;exact e0 h (.inr (by rw [hβ]; exact Wah _))
  ·exact .inl ⟨h',(R.fs id cs h').1,hoth _ hk⟩
 ·subst hk2;rcases (R.ow k (by rw [hβ]; simp)).1 with h | h
  ·omega
  ·exact h
 ·by_cases hk:k=Y
  ·rw [hk,jX hb,jX hnew,hs]; exact Wah _
  ·unfold eR; rw [hoth _ hk]; exact Wah _
theorem Ea{A:Option Addr}{len cap:Nat}(xs:List Value)(hl:xs.length=n*sz)(h:xs≠[]->∃ ad,A=some ad/\∀ (j:Nat) (u:Value),xs[j]?=some u->w.cell? (ad.add j)=some u):(Builtin.firstCells sz n (.slice A len cap)).run P w=.ok xs.toArray w:=by
 cases A with
 | none=>
  have:xs=[]:=by
   grind
  subst this;simp [Builtin.firstCells]
 | some ad=>
  have hl':=run_loadCells_list (P:=P) w ad xs (λj u hu=>by
   have hne:xs≠[]:=by rintro rfl; simp at hu
   grind)
  rw [hl] at hl';simp [Builtin.firstCells,hl']
theorem qk{z:Value}(ht:P.underlying t=some (.slice e))(hi:P.info? e=some i)(hz:i.zero=some z){A B:Option Addr}{m c2:Nat}(hol:olds.length=sLen*i.size)(hold:olds≠[]->∃ ad,A=some ad/\∀ (j:Nat) (u:Value),olds[j]?=some u->w.cell? (ad.add j)=some u)
  (hnl:news.length=m*i.size) (hnew:news≠[]->∃ ad,B=some ad/\∀ (j:Nat) (u:Value),news[j]?=some u->w.cell? (ad.add j)=some u) (hg:sCap<sLen+m) (hb:(sLen+m)*i.bytes<=140737488355328) (h63:sLen+m<=140737488355328) :
  (Builtin.append_ #[t,t] ty #[.slice A sLen sCap,.slice B m c2]).run P w =
   .ok (.slice (some ⟨w.heap.size,0,none⟩) (sLen+m) (grownCap w (sLen+m) sCap e)) (w.drew.alloc (.cells (olds.toArray++news.toArray++Builtin.zeroCells z.cells (grownCap w (sLen+m) sCap e-(sLen+m))) e)):=by
 have hn:¬ (sLen+m<=sCap):=by omega
 have h63':¬ (9223372036854775807<((sLen:Int)+(m:Int))):=by omega
 have h48':¬ (281474976710656<Builtin.nextslicecap (sLen+m) sCap*i.bytes):=by have:=growslice_fits hg hb; omega
 have hf:=Ea (P:=P) (w:=w.drew) (len:=m) (cap:=c2) news hnl (by simpa using hnew);have hfo:=Ea (P:=P) (w:=w.drew) (len:=sLen) (cap:=sCap) olds hol (by simpa using hold);simp [Builtin.append_,run_underlying ht,sizeOf,typeInfo,zeroValue,hi,hz,Builtin.lenOf,hn,h63',h48',Question.forced,hf,hfo,newRow,grownCap]
 grind
theorem vo(ht:P.underlying t=some (.slice e))(hi:P.info? e=some i){B:Option Addr}{g m c2:Nat}(hgb:w.heap[g]?=some (.cells cur Ty (0,0)))
  (hnl:news.length=m*i.size) (hnew:news≠[]->∃ ad,B=some ad/\∀ (j:Nat) (u:Value),news[j]?=some u->w.cell? (ad.add j)=some u) (h1:∀ u∈news,u.oneCell'=true) (hroom:sLen+m<=sCap) (hfit:sLen*i.size+news.length<=cur.size) :
  (Builtin.append_ #[t,t] ty #[.slice (some ⟨g,0,none⟩) sLen sCap,.slice B m c2]).run P w =
   .ok (.slice (some ⟨g,0,none⟩) (sLen+m) sCap) (w.setRow g (cur.toList.take (sLen*i.size)++news++cur.toList.drop (sLen*i.size+news.length)).toArray):=by
 have hf:=Ea (P:=P) (w:=w) (len:=m) (cap:=c2) news hnl hnew;have hst:=run_storeCells_at P g (sLen*i.size) Ty news 0 cur w hgb (by simpa using hfit) h1;simp only [Nat.add_zero] at hst;simp [Builtin.append_,run_underlying ht,sizeOf,typeInfo,hi,Builtin.lenOf,hroom,hf,Addr.add_lit,hst]
theorem qQ(ht:P.underlying t=some (.slice e))(hi:P.info? e=some i){A B:Option Addr}{c2:Nat} :
  (Builtin.append_ #[t,t] ty #[.slice A n n,.slice B 0 c2]).run P w=.ok (.slice A n n) w:=by
 have hf:(Builtin.firstCells i.size 0 (.slice B 0 c2)).run P w=.ok #[] w:=Ea (P:=P) (w:=w) [] (by simp) (by simp);cases A <;> simp [Builtin.append_,run_underlying ht,sizeOf,typeInfo,hi,Builtin.lenOf,hf,storeCells]
theorem Rep.bm(h:Rep aa E l (.gs sz es) u):(∃ (A:Option Addr) (f:Nat->Value) (k o:Nat),u=.slice A es.length es.length/\(∀ e∈es,e.length=sz)/\(es≠[]->A=some ⟨k,o,none⟩)/\(∀ (i:Nat) (v:V),es.flatten[i]?=some v->¬ E.Wr k (o+i)/\E.w.cell? ⟨k,o+i,none⟩=some (f i)) /\
   (∀ (i:Nat) (v:V),es.flatten[i]?=some v->(f i).oneCell'=true)/\(∀ (i:Nat) (v:V),es.flatten[i]?=some v->RepP aa E.w E.Wr v (f i))/\(es=[]∨D0=true)) ∨
  (∃ (Y c:Nat) (arr:Array Value) (T:TypeId) (f:Nat->Value),u=.slice (some ⟨Y,0,none⟩) es.length c/\E.ω Y=.gs l (es.length*sz)/\E.w.heap[Y]?=some (.cells arr T (0,0))/\c*sz<=arr.size/\es.length<=c/\(∀ e∈es,e.length=sz) /\
   (∀ (i:Nat) (v:V),es.flatten[i]?=some v->arr[i]?=some (f i))/\(∀ (i:Nat) (v:V),es.flatten[i]?=some v->(f i).oneCell'=true)/\(∀ (i:Nat) (v:V),es.flatten[i]?=some v->RepP aa E.w E.Wr v (f i))):=by
 cases h with
 | pure h=>cases h with | bv _ _ A f hsz k o hA hcell h1 h hon=>exact .inl ⟨A,f,k,o,rfl,hsz,hA,hcell,h1,h,hon⟩
 | gs _ _ Y c arr T f hω hb hc hn hsz hcell h1 h=>exact .inr ⟨Y,c,arr,T,f,rfl,hω,hb,hc,hn,hsz,hcell,h1,h⟩
theorem lD{u:TypeId}{s:Operand}(hop:o.op=.call { callee:=.builtin .append,args:=#[s,x],argTypes:=#[t,u] }){v:Value}{w':World}(h:(Builtin.append_ #[t,u] o.type #[a.eval s,a.eval x]).run P w=.ok v w'):(execOp a.eval o).run P w=.ok (.value v) w':=by
 simp only [execOp,hop,resolve,Sem.run_bind,Sem.run_pure,Waz,invoke,builtin]
 simp_all
theorem O9{Wr:Nat->Nat->Prop}{f g:Nat->Value}(h1:∀ e∈es,e.length=sz){i:Nat}(hv:(es++es2).flatten[i]?=some v)
  (H1:∀ (i:Nat) (v:V),es.flatten[i]?=some v->(f i).oneCell'=true/\RepP aa w Wr v (f i)) (H2:∀ (i:Nat) (v:V),es2.flatten[i]?=some v->(g i).oneCell'=true/\RepP aa w Wr v (g i)) (n2:Nat) (hn2:es2.flatten.length=n2) :
  ∃ u,((Waq (es.length*sz)).map f++(Waq n2).map g)[i]?=some u/\u.oneCell'=true/\RepP aa w Wr v u:=by
 have hfl:=gY h1;rw [Wbc] at hv;by_cases hi:i<es.flatten.length
 ·rw [Wan hi] at hv;refine ⟨f i,?_,(H1 i v hv).1,(H1 i v hv).2⟩;rw [Wan (by simp; omega)];simp [show i<es.length*sz by omega]
 ·rw [Wal (by omega)] at hv;have hlt:i-es.flatten.length<es2.flatten.length:=(Wam.1 hv).1;refine ⟨g (i-es.length*sz),?_,?_⟩
  ·rw [Wal (by simp; omega)];simp only [List.length_map,List.length_range];rw [WaU,Wbd (by omega)]; rfl
  ·rw [<- hfl]; exact H2 _ v hv
theorem Q4(R:Rel aa we ωe U O Z a w ω μ){u:TypeId}{s:Operand}(hop:o.op=.call { callee:=.builtin .append,args:=#[s,x],argTypes:=#[t,u] })(e2:i.size=sz)(hzs:zv.cells.size=sz)
    (h1:du P aa t1 s=some ss)   (hg:ss.get Z=.gs sz es) (hs2:∀ x∈es2,x.length=sz)  (H2w:∀ (i:Nat) (v:V),es2.flatten[i]?=some v->(f2 i).oneCell'=true/\RepP aa w (wr U ω) v (f2 i))
   (hput:(Z.ac ss).aq nb o.dst false sz (es++es2)=some σ')
  (rG:∀ (A:Option Addr) (sLen sCap:Nat) (olds:List Value),olds.length=sLen*i.size->(olds≠[]->∃ ad,A=some ad/\∀ (j:Nat) (u:Value),olds[j]?=some u->w.cell? (ad.add j)=some u)->sCap<sLen+es2.length->sLen=es.length->sLen<=sCap ->
   (Builtin.append_ #[t,u] o.type #[.slice A sLen sCap,a.eval x]).run P w=.ok (.slice (some ⟨w.heap.size,0,none⟩) (sLen+es2.length) (grownCap w (sLen+es2.length) sCap e)) (w.drew.alloc (.cells (olds.toArray++((Waq (es2.length*sz)).map f2).toArray++Builtin.zeroCells zv.cells (grownCap w (sLen+es2.length) sCap e-(sLen+es2.length))) e)))
  (rN:es2=[]->∀ (A:Option Addr) (n:Nat),(Builtin.append_ #[t,u] o.type #[.slice A n n,a.eval x]).run P w=.ok (.slice A n n) w)
  (rF:∀ (g sCap sLen:Nat) (cur:Array Value) (Ty:TypeId),w.heap[g]?=some (.cells cur Ty (0,0))->sLen+es2.length<=sCap->sLen*i.size+((Waq (es2.length*sz)).map f2).length<=cur.size ->
   (Builtin.append_ #[t,u] o.type #[.slice (some ⟨g,0,none⟩) sLen sCap,a.eval x]).run P w=.ok (.slice (some ⟨g,0,none⟩) (sLen+es2.length) sCap) (w.setRow g (cur.toList.take (sLen*i.size)++(Waq (es2.length*sz)).map f2++cur.toList.drop (sLen*i.size+((Waq (es2.length*sz)).map f2).length)).toArray)):StepOk P aa we ωe U O a w o σ' nb μ:=by
 have hfl2:=gY hs2;obtain ⟨cc1,cc2⟩:=R.opndC h1;obtain ⟨ω1,F1,R1,hr1,hw1⟩:=R.taken ss (R.opnd h1) cc1 cc2 (.slot (Z.t.length) 0);have en:env U (Z.ac ss) w ω1 μ=env U Z w ω1 μ:=by cases ss <;> rfl
 have hT:(Z.ac ss).t.length<=Z.t.length:=by cases ss <;> simp [St.ac]
 rw [hg] at hr1;have hr1:Rep aa (env U Z w ω1 μ) (.slot Z.t.length 0) (.gs sz es) (a.eval s):=hr1;have H2:∀ (i:Nat) (v:V),es2.flatten[i]?=some v->(f2 i).oneCell'=true/\RepP aa w (wr U ω1) v (f2 i):=λi v hv=>⟨(H2w i v hv).1,by grind⟩;have hlen:(es++es2).length=es.length+es2.length:=by simp
 have growing:∀ (A:Option Addr) (cap:Nat) (f:Nat->Value),a.eval s=.slice A es.length cap->(∀ e∈es,e.length=sz)->(es≠[]->∃ ad,A=some ad/\∀ (j:Nat) (u:Value),((Waq (es.length*sz)).map f)[j]?=some u->w.cell? (ad.add j)=some u) ->
   (∀ (i:Nat) (v:V),es.flatten[i]?=some v->(f i).oneCell'=true/\RepP aa w (wr U ω1) v (f i))->cap<es.length+es2.length->es.length<=cap->StepOk P aa we ωe U O a w o σ' nb μ:=by
  intro A cap f ex hes holds H1 hgrow hle0;have run:=rG A es.length cap ((Waq (es.length*sz)).map f) (by simp [e2]) (λhne=>holds (by rintro rfl; simp at hne)) hgrow rfl hle0;refine .value (lD hop (by rw [ex]; exact run)) ?_;obtain ⟨Fd,Rd⟩:=R1.drew;have hcapge:=grownCap_ge w (es.length+es2.length) cap e;have key:=L7 (nb:=nb) (dst:=o.dst) (ah:=false) (sz:=sz) (es:=es++es2) Rd hput (arr:=((Waq (es.length*sz)).map f).toArray++((Waq (es2.length*sz)).map f2).toArray++Builtin.zeroCells zv.cells (grownCap w (es.length+es2.length) cap e-(es.length+es2.length))) (T:=e) (c:=grownCap w (es.length+es2.length) cap e)
   (λx hx=>by grind) (by rw [hlen]; exact hcapge) (λh=>by cases h)
   (by
    simp [size_zeroCells,hzs];rw [<- WaC,<- WaC]
    grind)
   (λj v hv=>by
    obtain ⟨u,g1,g2,g3⟩:=O9 (aa:=aa) (w:=w) (Wr:=wr U ω1) hes hv H1 H2 (es2.length*sz) hfl2;refine ⟨u,?_,g2,g3.mono Fd.st⟩
    grind)
  rw [hlen] at key;exact key
 rcases hr1.bm with ⟨A,f,k0,o0,ex,hsz,hA,hcellF,hone1,hrep1,hon⟩ | ⟨Y,cap,arr,Ty,f,ex,hω,hb,hcap,hn,hsz,hcell1,hone1,hrep1⟩
 ·by_cases hm:es2=[]
  ·subst hm;simp only [St.aq,WaR,if_false,Waf] at hput;subst hput;have run:=rN rfl A es.length;refine .value (lD hop (by rw [ex]; exact run)) ⟨ω1,μ,R1.put _ (λi _=>?_),λ_ _=>rfl⟩;rw [List.append_nil];exact .pure (.bv sz es A f hsz k0 o0 hA (by rw [en]; exact hcellF) hone1 (by rw [en]; exact hrep1) hon)
  ·have:0<es2.length:=Wbi.2 hm;have hfl:=gY hsz;exact growing A es.length f ex hsz (λhne=>⟨_,hA hne,λj u hu=>by
    have hj:j<es.length*sz:=by grind
    simp [hj] at hu; subst hu;rw [mB];exact (hcellF j _ (Wac (by omega))).2⟩) (λi v hv=>⟨hone1 i v hv,hrep1 i v hv⟩) (by omega) (Wah _)
 ·have hes:∀ e∈es,e.length=sz:=hsz;have hfl:=gY hes;have H1:∀ (i:Nat) (v:V),es.flatten[i]?=some v->(f i).oneCell'=true/\RepP aa w (wr U ω1) v (f i):=λi v hv=>⟨hone1 i v hv,hrep1 i v hv⟩;have hb:w.heap[Y]?=some (.cells arr Ty (0,0)):=hb;by_cases hgrow:cap<es.length+es2.length
  ·refine growing _ cap f ex hes (λhne=>⟨_,rfl,λj u hu=>?_⟩) H1 hgrow hn;have hj:j<es.length*sz:=by grind
   simp [hj] at hu; subst hu;rw [mB,Wau,cell_of_row _ _ _ _ _ _ hb];exact hcell1 j _ (Wac (by omega))
  ·have hω:ω1 Y=.gs (.slot Z.t.length 0) (es.length*sz):=hω;have hcapsz:(es.length+es2.length)*sz<=arr.size:=Wbb (WaA _ (by omega)) hcap;have hle:es.length*sz+es2.length*sz<=arr.size:=by grind
   have run:=rF Y cap es.length arr Ty hb (by omega) (by simp [e2]; omega);rw [e2] at run;refine .value (lD hop (by rw [ex]; exact run)) ?_;have hasz:(arr.toList.take (es.length*sz)++(Waq (es2.length*sz)).map f2++arr.toList.drop (es.length*sz+((Waq (es2.length*sz)).map f2).length)).toArray.size=arr.size:=by simp; omega
   have hget:∀ j,(arr.toList.take (es.length*sz)++(Waq (es2.length*sz)).map f2++arr.toList.drop (es.length*sz+((Waq (es2.length*sz)).map f2).length)).toArray[j]?=if es.length*sz<=j/\j<es.length*sz+es2.length*sz then ((Waq (es2.length*sz)).map f2)[j-es.length*sz]? else arr.toList[j]?:=by
    intro j;rw [Wba,tm (by simp; omega)];simp
   obtain ⟨F2,R2⟩:=R1.grow hT hω hb hasz (λj hj=>by grind);simp only [St.aq,WaR,if_false,Waf] at hput;subst hput;cases hd:o.dst with
   | none=>exact ⟨_,_,R2,λ_ _=>rfl⟩
   | some d=>
    obtain ⟨F3,R3⟩:=R2.reown hT hω (.slot d 0) ((es++es2).length*sz) (by rw [hlen]; grind);refine ⟨_,_,R3.put (some d) (λj hj=>?_),λ_ _=>rfl⟩;cases hj;have hcells:∀ (j:Nat) (v:V),(es++es2).flatten[j]?=some v->∃ u,(arr.toList.take (es.length*sz)++(Waq (es2.length*sz)).map f2++arr.toList.drop (es.length*sz+((Waq (es2.length*sz)).map f2).length)).toArray[j]?=some u/\u.oneCell'=true/\RepP aa w (wr U ω1) v u:=by
     intro j v hv;rw [hget];rw [Wbc] at hv;by_cases hj:j<es.flatten.length
     ·rw [Wan hj] at hv
      grind
     ·rw [Wal (by omega)] at hv;have hlt:j-es.flatten.length<es2.flatten.length:=(Wam.1 hv).1;rw [if_pos (by omega)];refine ⟨f2 (j-es.length*sz),?_,?_⟩
      ·rw [WaU,Wbd (by omega)]; rfl
      ·rw [<- hfl]; exact H2 _ v hv
    have en2:env U (Z.ac ss) w ω1 μ=env U Z w ω1 μ:=en;have key:=Rep.gs (aa:=aa) (E:=env U (Z.ac ss) (w.setRow Y (arr.toList.take (es.length*sz)++(Waq (es2.length*sz)).map f2++arr.toList.drop (es.length*sz+((Waq (es2.length*sz)).map f2).length)).toArray) (upd ω1 Y (.gs (.slot d 0) ((es++es2).length*sz))) μ) (l:=.slot d 0) sz (es++es2) Y cap _ Ty
     (λj=>((arr.toList.take (es.length*sz)++(Waq (es2.length*sz)).map f2++arr.toList.drop (es.length*sz+((Waq (es2.length*sz)).map f2).length)).toArray[j]?).getD undef) (d7 _ _ _) (setRow_heap w Y arr _ Ty _ hb) (by rw [hasz]; exact hcap) (by rw [hlen]; omega) (λx hx=>by grind)
     (λj v hv=>by obtain ⟨u,g1,g2,g3⟩:=hcells j v hv; rw [g1]; rfl) (λj v hv=>by obtain ⟨u,g1,g2,g3⟩:=hcells j v hv; rw [g1]; exact g2)
     (λj v hv=>by obtain ⟨u,g1,g2,g3⟩:=hcells j v hv; rw [g1]; exact (g3.mono F2.st).mono F3.st)
    rwa [show Value.slice (some ⟨Y,0,none⟩) (es++es2).length cap=Value.slice (some ⟨Y,0,none⟩) (es.length+es2.length) cap by rw [hlen]] at key
theorem jS(R:Rel aa we ωe U O Z a w ω μ){u:TypeId}{s:Operand}(hop:o.op=.call { callee:=.builtin .append,args:=#[s,x],argTypes:=#[t,u] })(hzs:zv.cells.size=sz)
    {A:Option Addr} (ex:a.eval s=.slice A 0 0) (hs2:∀ x∈es2,x.length=sz)  (H2:∀ (i:Nat) (v:V),es2.flatten[i]?=some v->(f2 i).oneCell'=true/\RepP aa w (wr U ω) v (f2 i))
    (hput:Z.aq nb o.dst ah sz es2=some σ')
  (rG:es2≠[]->(Builtin.append_ #[t,u] o.type #[.slice A 0 0,a.eval x]).run P w=.ok (.slice (some ⟨w.heap.size,0,none⟩) (0+es2.length) (grownCap w (0+es2.length) 0 e)) (w.drew.alloc (.cells (([]:List Value).toArray++((Waq (es2.length*sz)).map f2).toArray++Builtin.zeroCells zv.cells (grownCap w (0+es2.length) 0 e-(0+es2.length))) e)))
  (rN:es2=[]->(Builtin.append_ #[t,u] o.type #[.slice A 0 0,a.eval x]).run P w=.ok (.slice A 0 0) w):StepOk P aa we ωe U O a w o σ' nb μ:=by
 have hfl2:=gY hs2;by_cases hm:es2=[]
 ·subst hm;refine .value (lD hop (by rw [ex]; exact rN rfl)) ?_;cases ah with
  | true=>
   simp only [St.aq,if_true] at hput;obtain ⟨d,hd,hg,rfl⟩:=o8 hput;have hlt:nb+d<Z.b.length:=(Wam.1 hg).1;obtain ⟨F,R'⟩:=R.empty hg true;rw [hd];exact ⟨_,_,R'.put (some d) (λi hi=>.own (nb+d) 0 0 sz 0 0 A (om hlt _ _) (by omega) ⟨by omega,λ_=>.inr rfl⟩ (.inr ⟨rfl,rfl⟩)),λ_ _=>rfl⟩
  | false=>
   simp only [St.aq,WaR,if_false,Waf] at hput;subst hput;exact ⟨ω,μ,R.put _ (λi _=>.pure (.nil _ _)),λ_ _=>rfl⟩
 ·refine .value (lD hop (by rw [ex]; exact rG hm)) ?_;obtain ⟨Fd,Rd⟩:=R.drew;have hcapge:=grownCap_ge w (0+es2.length) 0 e;have key:=L7 (nb:=nb) (dst:=o.dst) (ah:=ah) (sz:=sz) (es:=es2) Rd hput (arr:=([]:List Value).toArray++((Waq (es2.length*sz)).map f2).toArray++Builtin.zeroCells zv.cells (grownCap w (0+es2.length) 0 e-(0+es2.length))) (T:=e) (c:=grownCap w (0+es2.length) 0 e)
   hs2 (by omega) (λ_ he=>absurd he hm)
   (by
    simp [size_zeroCells,hzs];rw [<- WaC]
    grind)
   (λj v hv=>by
    have hj:j<es2.length*sz:=by grind
    obtain ⟨g2,g3⟩:=H2 j v hv;refine ⟨f2 j,?_,g2,g3.mono Fd.st⟩
    grind)
  rw [Wau] at key ⊢;exact key
theorem Rel.deaden(R:Rel aa we ωe U O Z a w ω μ)(hid:Z.b[id]?=some (.live p cs)) :
  Fr (env U Z w ω μ) (env U (Z.ab id (.dead cs.length)) w ω μ)/\Rel aa we ωe U O (Z.ab id (.dead cs.length)) a w ω μ:=by
 have hlt:id<Z.b.length:=(Wam.1 hid).1;have F:Fr (env U Z w ω μ) (env U (Z.ab id (.dead cs.length)) w ω μ):=by
  refine ⟨λk o u h1 h2=>⟨h1,h2⟩,λid' L hL=>⟨?_,rfl,Wah _⟩⟩;have hL:dS Z.b id'=some L:=hL;show dS (Z.b.set id _) id'=some L
  grind [dS]
 refine ⟨F,R.step F rfl (λt j Y h _ e=>⟨e,rfl⟩) (λid' p' cs' h' hne'=>?_) (λid' cs' h'=>?_) (λid' es' h'=>?_) (Kept.refl No w) (λk _ h=>AH h) R.ow (λk=>Wah _)⟩
 ·simp [St.ab] at h';by_cases hne:id'=id
  ·subst hne; rw [Wax hlt] at h'; cases h'
  ·rw [Waw (λe=>hne e.symm)] at h';exact .inl ⟨h',(R.live h' hne').1,rfl,λj Y h e=>⟨e,rfl⟩⟩
 ·simp only [St.ab] at h';by_cases hne:id'=id
  ·subst hne; rw [Wax hlt] at h'; cases h'
  ·rw [Waw (λe=>hne e.symm)] at h';exact .inl ⟨h',(R.fs id' cs' h').1,rfl⟩
 ·simp only [St.ab] at h';by_cases hne:id'=id
  ·subst hne; rw [Wax hlt] at h'; cases h'
  ·rw [Waw (λe=>hne e.symm)] at h';exact .inl ⟨h',(R.ms id' es' h').1,rfl⟩
theorem Rel.rehome(R:Rel aa we ωe U O Z a w ω μ){id2:Nat}{cs2:List V}(hid:Z.b[id]?=some (.live true cs))(hne:cs≠[])(h2:(Z.ab id (.dead cs.length)).b[id2]?=some .gone){arr2:Array Value}(ha:w.heap[μ id]?=some (.cells arr T (0,0)))(hs:arr2.size=arr.size)(hl:cs2.length<=arr2.size)
  (hc:∀ (j:Nat) (c:V),cs2[j]?=some c->∃ u,arr2[j]?=some u/\u.oneCell'=true/\RepP aa w (wr U ω) c u) :
  Fr (env U Z w ω μ) (env U ((Z.ab id (.dead cs.length)).ab id2 (.live true cs2)) (w.setRow (μ id) arr2) (upd ω (μ id) (.ax id2)) (upd μ id2 (μ id))) /\
  Rel aa we ωe U O ((Z.ab id (.dead cs.length)).ab id2 (.live true cs2)) a (w.setRow (μ id) arr2) (upd ω (μ id) (.ax id2)) (upd μ id2 (μ id)):=by
 obtain ⟨e0,arr0,T0,e1,e2,e3⟩:=R.live hid hne;have hlt:id<Z.b.length:=(Wam.1 hid).1;have hlt2:id2<(Z.ab id (.dead cs.length)).b.length:=(Wam.1 h2).1;have hidne:id2≠id:=by
  grind [St.ab]
 have hold:∀ k,k≠id->k≠id2->((Z.ab id (.dead cs.length)).ab id2 (.live true cs2)).b[k]?=Z.b[k]?:=by
  grind [St.ab]
 have hat:((Z.ab id (.dead cs.length)).ab id2 (.live true cs2)).b[id2]?=some (.live true cs2):=Wax hlt2;have hat1:((Z.ab id (.dead cs.length)).ab id2 (.live true cs2)).b[id]?=some (.dead cs.length):=by
  grind [St.ab]
 have hg2:Z.b[id2]?=some .gone:=by
  grind [St.ab]
 have hnew:=setRow_heap w (μ id) arr arr2 T _ ha;have hoth:=λk (hk:k≠μ id)=>setRow_other w (μ id) k arr2 hk;have hw:wr U (upd ω (μ id) (.ax id2))=wr U ω:=by
  grind [dC,d7,wr]
 have hgs:∀ (l:Loc) Y h,ω Y=.gs l h->upd ω (μ id) (.ax id2) Y=.gs l h/\(w.setRow (μ id) arr2).heap[Y]?=w.heap[Y]?:=by
  grind [dC]
 have F:Fr (env U Z w ω μ) (env U ((Z.ab id (.dead cs.length)).ab id2 (.live true cs2)) (w.setRow (μ id) arr2) (upd ω (μ id) (.ax id2)) (upd μ id2 (μ id))):=by
  refine ⟨λk o u h1 h2=>?_,λid' L hL=>?_⟩
  ·have h1:¬ wr U ω k o:=h1;have hk:k≠μ id:=by rintro rfl; exact h1 (.inr (by rw [e0]; trivial))
   refine ⟨?_,(World.cell?_of_block (a:=⟨k,o,none⟩) (hoth k hk)).trans h2⟩;show ¬ wr U (upd ω (μ id) (.ax id2)) k o;rw [hw]; exact h1
  ·have hL:dS Z.b id'=some L:=hL;have hne2:id'≠id2:=by grind [dS]
   refine ⟨?_,dC _ _ hne2,?_⟩
   ·show dS ((Z.ab id (.dead cs.length)).ab id2 (.live true cs2)).b id'=some L;unfold dS at hL ⊢;by_cases hne1:id'=id
    ·subst hne1; rw [hat1]; rw [hid] at hL; exact hL
    ·rw [hold id' hne1 hne2]; exact hL
   ·show eR w (μ id')<=eR (w.setRow (μ id) arr2) (μ id');by_cases hm:μ id'=μ id
    ·rw [hm,jX ha,jX hnew,hs]; exact Wah _
    ·unfold eR; rw [hoth _ hm]; exact Wah _
 refine ⟨F,R.step F rfl (λt j Y h _ e=>hgs _ Y h e) (λid' p' cs' h' hne'=>?_) (λid' cs' h'=>?_) (λid' es' h'=>?_) (DY w (μ id) arr2) (λk hk1 hk2=>?_) (λk hk=>?_) (λk=>?_)⟩
 ·by_cases hx:id'=id2
  ·subst hx;rw [hat] at h'; cases h';refine .inr ⟨by rw [d7,d7],arr2,T,by rw [d7]; exact hnew,hl,λj c hj=>?_⟩;obtain ⟨u,g1,g2,g3⟩:=hc j c hj;exact ⟨u,g1,g2,λ_=>g3.mono F.st,.pure (g3.mono F.st)⟩
  ·by_cases hy:id'=id
   ·subst hy; rw [hat1] at h'; cases h'
   ·rw [hold id' hy hx] at h';obtain ⟨q0,_⟩:=R.live h' hne';have hm:μ id'≠μ id:=by grind
    exact .inl ⟨h',by grind [dC],hoth _ hm,λj Y h e=>hgs _ Y h e⟩
 ·by_cases hx:id'=id2
  ·subst hx; rw [hat] at h'; cases h'
  ·by_cases hy:id'=id
   ·subst hy; rw [hat1] at h'; cases h'
   ·rw [hold id' hy hx] at h';obtain ⟨q0,_⟩:=R.fs id' cs' h';have hm:μ id'≠μ id:=by intro e; rw [e] at q0; exact q0 0 (.inr (by rw [e0]; trivial))
    exact .inl ⟨h',by rw [hw]; exact q0,hoth _ hm⟩
 ·by_cases hx:id'=id2
  ·subst hx; rw [hat] at h'; cases h'
  ·by_cases hy:id'=id
   ·subst hy; rw [hat1] at h'; cases h'
   ·rw [hold id' hy hx] at h';obtain ⟨q0,_⟩:=R.ms id' es' h';have hm:μ id'≠μ id:=by grind
    exact .inl ⟨h',by grind [dC],hoth _ hm⟩
 ·subst hk2;rcases (R.ow (μ id) (by rw [e0]; simp)).1 with h | h
  ·omega
  ·exact h
 ·rw [setRow_size];by_cases hkb:k=μ id
  ·subst hkb; exact R.ow _ (by rw [e0]; simp)
  ·rw [dC _ _ hkb] at hk; exact R.ow k hk
 ·by_cases hk:k=μ id
  ·rw [hk,jX ha,jX hnew,hs]; exact Wah _
  ·unfold eR; rw [hoth _ hk]; exact Wah _
theorem Rel.unhome(R:Rel aa we ωe U O Z a w ω μ)(hid:Z.b[id]?=some (.live true cs))(hne:cs≠[])(l:Loc)(h:Nat) :
  Fr (env U Z w ω μ) (env U (Z.ab id (.dead cs.length)) w (upd ω (μ id) (.gs l h)) μ)/\Rel aa we ωe U O (Z.ab id (.dead cs.length)) a w (upd ω (μ id) (.gs l h)) μ:=by
 obtain ⟨e0,arr0,T0,e1,e2,e3⟩:=R.live hid hne;have hlt:id<Z.b.length:=(Wam.1 hid).1;have hgs:∀ (l':Loc) Y h',ω Y=.gs l' h'->upd ω (μ id) (.gs l h) Y=.gs l' h'/\w.heap[Y]?=w.heap[Y]?:=by
  grind [dC]
 have F:Fr (env U Z w ω μ) (env U (Z.ab id (.dead cs.length)) w (upd ω (μ id) (.gs l h)) μ):=by
  refine ⟨λk o u h1 h2=>⟨?_,h2⟩,λid' L hL=>⟨?_,rfl,Wah _⟩⟩
  ·have h1:¬ wr U ω k o:=h1;have hk:k≠μ id:=by rintro rfl; exact h1 (.inr (by rw [e0]; trivial))
   show ¬ wr U (upd ω (μ id) (.gs l h)) k o;unfold wr;rw [dC _ _ hk]; exact h1
  ·have hL:dS Z.b id'=some L:=hL;show dS (Z.b.set id _) id'=some L;unfold dS at hL ⊢;by_cases hne:id'=id
   ·subst hne; rw [Wax hlt]; rw [hid] at hL; exact hL
   ·rw [Waw (λe=>hne e.symm)]; exact hL
 refine ⟨F,R.step F rfl (λt j Y h _ e=>hgs _ Y h e) (λid' p' cs' h' hne'=>?_) (λid' cs' h'=>?_) (λid' es' h'=>?_) (Kept.refl No w) (λk _ h=>AH h) (λk hk=>?_) (λk=>Wah _)⟩
 ·simp only [St.ab] at h';by_cases hne:id'=id
  ·subst hne; rw [Wax hlt] at h'; cases h'
  ·rw [Waw (λe=>hne e.symm)] at h';have q0:=(R.live h' hne').1;have hm:μ id'≠μ id:=by grind
   exact .inl ⟨h',by grind [dC],rfl,λj Y h e=>hgs _ Y h e⟩
 ·simp only [St.ab] at h';by_cases hne:id'=id
  ·subst hne; rw [Wax hlt] at h'; cases h'
  ·rw [Waw (λe=>hne e.symm)] at h';have q0:=(R.fs id' cs' h').1;have hm:μ id'≠μ id:=by intro e; rw [e] at q0; exact q0 0 (.inr (by rw [e0]; trivial))
   refine .inl ⟨h',λo hw=>q0 o ?_,rfl⟩;unfold wr at hw ⊢
   rwa [dC _ _ hm] at hw
 ·simp only [St.ab] at h';by_cases hne:id'=id
  ·subst hne; rw [Wax hlt] at h'; cases h'
  ·rw [Waw (λe=>hne e.symm)] at h';have q0:=(R.ms id' es' h').1;have hm:μ id'≠μ id:=by grind
   exact .inl ⟨h',by grind [dC],rfl⟩
 ·by_cases hkb:k=μ id
  ·subst hkb; exact R.ow _ (by rw [e0]; simp)
  ·rw [dC _ _ hkb] at hk; exact R.ow k hk
theorem V6(R:Rel aa we ωe U O Z a w ω μ)(hop:o.op=.move x∨o.op=.assign x)(hs:du P aa t x=some s)(h:ck cb nb Z o.dst ah (.a8 s)=some σ'):StepOk P aa we ωe U O a w o σ' nb μ:=by
 have run:(execOp a.eval o).run P w=.ok (.value (a.eval x)) w:=by
  rcases hop with e | e <;> simp [execOp,e]
 cases ah with
 | true=>simp [ck] at h
 | false=>
  have h0:=h;simp only [ck,WaR,if_false] at h;split at h
  ·rename_i id off len sz hg;split at h
   ·rename_i cs hb;split at h
    ·rename_i hc;obtain ⟨rfl,hle,hn0⟩:=hc;have hne:cs≠[]:=by rintro rfl; exact hn0 rfl
     cases h;have hr:=R.opnd hs;rw [hg] at hr;obtain ⟨c,L,A,ex,hL,hl,⟨hlc,hz⟩,hA⟩:=hr.own_inv;have hcl:=eo sz len cs;have hce:=jF sz len cs hle;have hcf:=ig sz len cs;refine .value run ?_;cases hd:o.dst with
     | none=>
      obtain ⟨Fd,Rd⟩:=R.deaden hb;exact ⟨_,_,Rd,λ_ _=>rfl⟩
     | some d=>
      rcases hA with ⟨rfl,hAc⟩ | ⟨rfl,rfl⟩
      ·obtain ⟨e0,arr,T,e1,e2,e3⟩:=R.live hb hne;have hAc:0+c*sz<=eR w (μ id):=hAc;rw [jX e1,Wau] at hAc;obtain ⟨F,R'⟩:=R.unhome hb hne (.slot d 0) (len*sz);refine ⟨_,_,R'.put (some d) (λj hj=>?_),λ_ _=>rfl⟩;cases hj;have hcells:∀ (i:Nat) (v:V),(bY sz len cs).flatten[i]?=some v->∃ u,arr[i]?=some u/\u.oneCell'=true/\RepP aa w (wr U ω) v u:=by
        intro i v hv;rw [hcf,Wai] at hv;split at hv
        ·obtain ⟨u,g1,g2,g3,_⟩:=e3 i v hv;exact ⟨u,g1,g2,g3 rfl⟩
        ·cases hv
       have key:=Rep.gs (aa:=aa) (E:=env U (Z.ab id (.dead cs.length)) w (upd ω (μ id) (.gs (.slot d 0) (len*sz))) μ) (l:=.slot d 0) sz (bY sz len cs) (μ id) c arr T (λj=>(arr[j]?).getD undef) (by rw [hcl]; exact d7 _ _ _) e1 hAc (by rw [hcl]; exact hlc) hce
        (λi v hv=>by obtain ⟨u,g1,g2,g3⟩:=hcells i v hv; rw [g1]; rfl)
        (λi v hv=>by obtain ⟨u,g1,g2,g3⟩:=hcells i v hv; rw [g1]; exact g2)
        (λi v hv=>by obtain ⟨u,g1,g2,g3⟩:=hcells i v hv; rw [g1]; exact g3.mono F.st)
       rw [hcl] at key;rw [ex];exact key
      ·obtain ⟨Fd,Rd⟩:=R.deaden hb;refine ⟨_,_,Rd.put (some d) (λj hj=>?_),λ_ _=>rfl⟩;rw [ex];exact .pure (.nil _ _)
    ·cases h
   ·cases h
  ·rename_i sz es hg;refine Oq (take:=true) (ah:=false) (cb:=cb) (nb:=nb) R hop hs ?_;simp only [ck,WaR,if_false,if_true,hg];exact h
  ·cases h
theorem Eb(R:Rel aa we ωe U O Z a w ω μ)(h2:du P aa t2 x=some sx){sz2:Nat}(hv:i4 Z.b (sx.get Z)=some (.sl sz2 es2))(c2:sz2=sz∨es2=[]) :
  ∃ (B:Option Addr) (cB:Nat) (f2:Nat->Value),a.eval x=.slice B es2.length cB/\(∀ x∈es2,x.length=sz) /\
   ((Waq (es2.length*sz)).map f2≠[]->∃ ad,B=some ad/\∀ (j:Nat) (u:Value),((Waq (es2.length*sz)).map f2)[j]?=some u->w.cell? (ad.add j)=some u) /\
   (∀ u∈(Waq (es2.length*sz)).map f2,u.oneCell'=true)/\(∀ (i:Nat) (v:V),es2.flatten[i]?=some v->(f2 i).oneCell'=true/\RepP aa w (wr U ω) v (f2 i)):=by
 obtain ⟨B,cB,f2,k2,q2,eu2,hcB,hsz2,hB,hcell2⟩:=R.view (R.opnd h2) hv;have hs2:∀ x∈es2,x.length=sz:=by
  grind
 have hfl2:=gY hs2;refine ⟨B,cB,f2,eu2,hs2,λhne=>?_,λu hu=>?_,λi v hv=>⟨(hcell2 i v hv).2.1,(hcell2 i v hv).2.2⟩⟩
 ·have:es2≠[]:=by rintro rfl; simp at hne
  refine ⟨_,hB this,λj u hu=>?_⟩;have hj:j<es2.length*sz:=by grind
  simp [hj] at hu; subst hu;rw [mB];exact (hcell2 j _ (Wac (by omega))).1
 ·simp only [List.mem_map,List.mem_range] at hu;obtain ⟨j,hj,rfl⟩:=hu;exact (hcell2 j _ (Wac (by omega))).2.1
theorem zd4(R:Rel aa we ωe U O Z a w ω μ){s:Operand}(hop:o.op=.call { callee:=.builtin .append,args:=#[s,x],argTypes:=#[t,t] })(e2:i.size=sz)(hzs:zv.cells.size=sz)(hpos:0<sz)
    (h1:du P aa t1 s=some ss) {len:Nat}   (hg:ss.get Z=.own id 0 len sz) (hb:Z.b[id]?=some (.live true cs)) (hs2:∀ x∈es2,x.length=sz)  (H2:∀ (i:Nat) (v:V),es2.flatten[i]?=some v->(f2 i).oneCell'=true/\RepP aa w (wr U ω) v (f2 i)) (hsome:len+es2.length≠0∨cs.length=0)
   (hput:(Z.ab id (.dead cs.length)).ao nb o.dst (.live true (cs.take (len*sz)++es2.flatten)) (λid'=>.own id' 0 (len+es2.length) sz)=some σ')
  (rG:∀ (A:Option Addr) (sLen sCap:Nat) (olds:List Value),olds.length=sLen*i.size->(olds≠[]->∃ ad,A=some ad/\∀ (j:Nat) (u:Value),olds[j]?=some u->w.cell? (ad.add j)=some u)->sCap<sLen+es2.length->sLen=len ->
   (Builtin.append_ #[t,t] o.type #[.slice A sLen sCap,a.eval x]).run P w=.ok (.slice (some ⟨w.heap.size,0,none⟩) (sLen+es2.length) (grownCap w (sLen+es2.length) sCap e)) (w.drew.alloc (.cells (olds.toArray++((Waq (es2.length*sz)).map f2).toArray++Builtin.zeroCells zv.cells (grownCap w (sLen+es2.length) sCap e-(sLen+es2.length))) e)))
  (rN:es2=[]->∀ A:Option Addr,(Builtin.append_ #[t,t] o.type #[.slice A 0 0,a.eval x]).run P w=.ok (.slice A 0 0) w)
  (rF:∀ (g sCap sLen:Nat) (cur:Array Value) (Ty:TypeId),w.heap[g]?=some (.cells cur Ty (0,0))->sLen+es2.length<=sCap->sLen*i.size+((Waq (es2.length*sz)).map f2).length<=cur.size ->
   (Builtin.append_ #[t,t] o.type #[.slice (some ⟨g,0,none⟩) sLen sCap,a.eval x]).run P w=.ok (.slice (some ⟨g,0,none⟩) (sLen+es2.length) sCap) (w.setRow g (cur.toList.take (sLen*i.size)++(Waq (es2.length*sz)).map f2++cur.toList.drop (sLen*i.size+((Waq (es2.length*sz)).map f2).length)).toArray)):StepOk P aa we ωe U O a w o σ' nb μ:=by
 have hfl2:=gY hs2;obtain ⟨d,hd,hgone,rfl⟩:=o8 hput;have hr:=R.opnd h1;rw [hg] at hr;obtain ⟨c,L,A,ex,hL,hl,⟨hlc,hz⟩,hA⟩:=hr.own_inv;have hL':dS Z.b id=some L:=hL;have:L=cs.length:=by grind [dS]
 subst this;rw [Wau] at hl;have hlt2:nb+d<(Z.ab id (.dead cs.length)).b.length:=(Wam.1 hgone).1;have htl:(cs.take (len*sz)).length=len*sz:=by simp; omega
 have hcl:(cs.take (len*sz)++es2.flatten).length=(len+es2.length)*sz:=by grind
 obtain ⟨Fd,Rd⟩:=R.deaden hb;by_cases hroom:len+es2.length<=c
 ·by_cases hc0:c=0
  ·subst hc0;have hl0:len=0:=by omega
   have he0:es2=[]:=WaT.1 (by omega);subst hl0 he0;refine .value (lD hop (by rw [ex]; exact rN rfl A)) ?_;obtain ⟨F,R'⟩:=Rd.empty hgone true;rw [hd];have hnil:cs.take (0*sz)++([]:Ls).flatten=[]:=by simp
   rw [hnil];exact ⟨_,_,R'.put (some d) (λi hi=>.own (nb+d) 0 0 sz 0 0 A (om hlt2 _ _) (by omega) ⟨by omega,λ_=>.inr rfl⟩ (.inr ⟨rfl,rfl⟩)),λ_ _=>rfl⟩
  ·have hne:cs≠[]:=by
    grind
   have hne0:len+es2.length≠0:=by
    grind
   obtain ⟨e0,arr,T,e1,e2',e3⟩:=R.live hb hne;rcases hA with ⟨rfl,hAc⟩ | ⟨_,q⟩
   ·have hAc:0+c*sz<=eR w (μ id):=hAc;rw [jX e1,Wau] at hAc;have hfit:(len+es2.length)*sz<=arr.size:=Wbb (WaA sz hroom) hAc;have hfit':len*sz+es2.length*sz<=arr.size:=by grind
    have run:=rF (μ id) c len arr T e1 hroom (by simp [e2]; omega);rw [e2] at run;refine .value (lD hop (by rw [ex]; exact run)) ?_;have hasz:(arr.toList.take (len*sz)++(Waq (es2.length*sz)).map f2++arr.toList.drop (len*sz+((Waq (es2.length*sz)).map f2).length)).toArray.size=arr.size:=by simp; omega
    have hget:∀ j,(arr.toList.take (len*sz)++(Waq (es2.length*sz)).map f2++arr.toList.drop (len*sz+((Waq (es2.length*sz)).map f2).length)).toArray[j]?=if len*sz<=j/\j<len*sz+es2.length*sz then ((Waq (es2.length*sz)).map f2)[j-len*sz]? else arr.toList[j]?:=by
     intro j;rw [Wba,tm (by simp; omega)];simp
    obtain ⟨F,R'⟩:=R.rehome hb hne hgone (cs2:=cs.take (len*sz)++es2.flatten) e1 hasz (by rw [hasz,hcl]; exact hfit) (λj v hj=>by
     rw [hget];by_cases hjl:j<len*sz
     ·rw [Wan (by omega),Wai,if_pos hjl] at hj;rw [if_neg (by omega)];obtain ⟨u,g1,g2,g3,_⟩:=e3 j v hj
      grind
     ·rw [Wal (by omega),htl] at hj;have hlt:j-len*sz<es2.flatten.length:=(Wam.1 hj).1;rw [if_pos (by omega)];exact ⟨f2 (j-len*sz),by simp_all,H2 _ v hj⟩)
    rw [hd];refine ⟨_,_,R'.put (some d) (λi hi=>?_),λk hk=>yG hk⟩;have hposn:sz<=(len+es2.length)*sz:=Wbg sz (by omega);refine .own (nb+d) 0 (len+es2.length) sz c _ _ (om hlt2 _ _) (by rw [hcl]; omega) ⟨hroom,λh0=>by rw [hcl] at h0; omega⟩ (.inl ⟨?_,?_⟩)
    ·show some (Addr.mk (μ id) 0 none)=some ⟨upd μ (nb+d) (μ id) (nb+d),0,none⟩;rw [d7]
    ·show 0+c*sz<=eR (w.setRow (μ id) _) (upd μ (nb+d) (μ id) (nb+d));rw [d7,jX (setRow_heap w (μ id) arr _ T _ e1),hasz]; omega
   ·exact absurd q hc0
 ·have hpn:0<es2.length:=by omega
  obtain ⟨olds,hol,hold,hcells⟩:∃ olds:List Value,olds.length=len*sz/\(olds≠[]->∃ ad,A=some ad/\∀ (j:Nat) (u:Value),olds[j]?=some u->w.cell? (ad.add j)=some u)/\∀ (j:Nat) (v:V),(cs.take (len*sz))[j]?=some v->∃ u,olds[j]?=some u/\u.oneCell'=true/\RepP aa w (wr U ω) v u:=by
   by_cases hne:cs=[]
   ·subst hne;have:len*sz=0:=by simp at hl; omega
    exact ⟨[],by simp [this],λh=>absurd rfl h,λj v hj=>by simp at hj⟩
   ·obtain ⟨e0,arr,T,e1,e2',e3⟩:=R.live hb hne;refine ⟨arr.toList.take (len*sz),by simp; omega,λhn=>?_,λj v hj=>?_⟩
    ·rcases hA with ⟨rfl,_⟩ | ⟨rfl,_⟩
     ·refine ⟨_,rfl,λj u hu=>?_⟩;rw [Wai] at hu;split at hu
      ·rw [mB,Wau];show w.cell? ⟨μ id,j,none⟩=some u;rw [cell_of_row _ _ _ _ _ _ e1]; simpa using hu
      ·cases hu
     ·simp at hn
    ·rw [Wai] at hj;split at hj
     ·rename_i hjl;obtain ⟨u,g1,g2,g3,_⟩:=e3 j v hj;exact ⟨u,by grind,g2,g3 rfl⟩
     ·cases hj
  have run:=rG A len c olds (by rw [hol,e2]) hold (by omega) rfl;refine .value (lD hop (by rw [ex]; exact run)) ?_;obtain ⟨Fw,Rw⟩:=Rd.drew;have hcapge:=grownCap_ge w (len+es2.length) c e;have hasz:(olds.toArray++((Waq (es2.length*sz)).map f2).toArray++Builtin.zeroCells zv.cells (grownCap w (len+es2.length) c e-(len+es2.length))).size=grownCap w (len+es2.length) c e*sz:=by
   simp [size_zeroCells,hzs,hol];rw [<- WaC,<- WaC];congr 1;omega
  have hcapsz:(len+es2.length)*sz<=grownCap w (len+es2.length) c e*sz:=WaA sz hcapge;obtain ⟨F,R'⟩:=Rw.newBlock hgone true (cs.take (len*sz)++es2.flatten) (olds.toArray++((Waq (es2.length*sz)).map f2).toArray++Builtin.zeroCells zv.cells (grownCap w (len+es2.length) c e-(len+es2.length))) e (by rw [hasz,hcl]; exact hcapsz) (λj v hj=>by
   have hjl:j<(cs.take (len*sz)++es2.flatten).length:=(Wam.1 hj).1;rw [hcl,WaC] at hjl;rw [Wbe (by simp [hol]; omega)];by_cases hj1:j<len*sz
   ·rw [Wan (by omega)] at hj;obtain ⟨u,g1,g2,g3⟩:=hcells j v hj;refine ⟨u,?_,g2,(g3.mono Fd.st).mono Fw.st⟩
    grind
   ·rw [Wal (by omega),htl] at hj;obtain ⟨g2,g3⟩:=H2 _ v hj;refine ⟨f2 (j-len*sz),?_,g2,(g3.mono Fd.st).mono Fw.st⟩
    simp_all)
  rw [hd];refine ⟨_,_,R'.put (some d) (λi hi=>?_),λk hk=>yG hk⟩;have hposn:sz<=(len+es2.length)*sz:=Wbg sz (by omega);have hnewh:(w.drew.alloc (.cells (olds.toArray++((Waq (es2.length*sz)).map f2).toArray++Builtin.zeroCells zv.cells (grownCap w (len+es2.length) c e-(len+es2.length))) e)).heap[w.drew.heap.size]?=some (.cells _ e (0,0)):=heap_alloc_new w.drew _;refine .own (nb+d) 0 (len+es2.length) sz _ _ _ (om hlt2 _ _) (by rw [hcl]; omega) ⟨hcapge,λh0=>by rw [hcl] at h0; omega⟩ (.inl ⟨?_,?_⟩)
  ·show some (Addr.mk w.heap.size 0 none)=some ⟨upd μ (nb+d) w.drew.heap.size (nb+d),0,none⟩;rw [d7]; rfl
  ·show 0+_<=eR (w.drew.alloc _) (upd μ (nb+d) w.drew.heap.size (nb+d));rw [d7,jX hnewh,hasz]; omega
theorem zbD(R:Rel aa we ωe U O Z a w ω μ){s:Operand}(hop:o.op=.call { callee:=.builtin .append,args:=#[s,x],argTypes:=#[t,t] })(ht:P.underlying t=some (.slice e))(hsz:eJ P e=some sz)(hi:P.info? e=some i)(hz:qv P e=some z)(hpos:0<sz)(hzl:z.length=sz)
    (h1:du P aa t1 s=some ss) (h2:du P aa t2 x=some sx)     (h:ck cb nb Z o.dst ah (.append sz i.bytes ss sx)=some σ'):StepOk P aa we ωe U O a w o σ' nb μ:=by
 obtain ⟨i',zv,hi',hzv,hcz⟩:=rg (aa:=aa) (w:=w) (Wr:=wr U ω) hz;rw [hi] at hi'; cases hi';obtain ⟨i2,hi2,e2⟩:=oA hsz;rw [hi] at hi2; cases hi2;have hzs:zv.cells.size=sz:=by have:=hcz.1; simp at this; omega
 simp only [ck] at h;split at h
 ·rename_i sz1 es sz2 es2 hg hv;split at h
  ·rename_i hc;obtain ⟨c1,c2,c3,c4⟩:=hc;have c1:=c1.symm;subst c1;obtain ⟨B,cB,f2,eu2,hs2,hnews,hone2,hcell2⟩:=Eb R h2 hv c2;split at h
   ·split at h
    ·rename_i x0;obtain ⟨_,cc2⟩:=R.opndC h1;have hx0:x0=.gs sz []:=hg;subst hx0;have hA:∃ A,a.eval s=.slice A 0 0:=by
      rcases (cc2 _ rfl (.slot 0 0)).bm with ⟨A,_,_,_,ex,_⟩ | ⟨Y,cap,arr,Ty,f,ex,hω,_⟩
      ·exact ⟨A,ex⟩
      ·rcases (cc2 _ rfl (.slot 1 0)).bm with ⟨A,_,_,_,ex,_⟩ | ⟨β',cap',arr',Ty',f',ex',hω',_⟩ <;> grind
     obtain ⟨A,ex⟩:=hA;refine jS (e:=e) R hop hzs ex hs2 hcell2 h (λhne=>?_) (λhe=>?_)
     ·rw [eu2];exact qk (P:=P) (w:=w) (ty:=o.type) (c2:=cB) ht hi hzv (A:=A) (B:=B) (sLen:=0) (sCap:=0) (m:=es2.length) (olds:=[]) (news:=(Waq (es2.length*sz)).map f2) (by simp) (by simp) (by simp [e2]) hnews (by grind) c3 c4
     ·rw [eu2]; subst he;exact qQ (P:=P) (w:=w) (ty:=o.type) (A:=A) (B:=B) (c2:=cB) ht hi
    ·cases h
   ·exact Q4 R hop (i:=i) (zv:=zv) e2 hzs h1 hg hs2 hcell2 (by simpa [St.aq] using h)
     (λA sLen sCap olds q1 q2 q3 q4 q5=>by
      rw [eu2];exact qk (P:=P) (w:=w) (ty:=o.type) (c2:=cB) ht hi hzv (A:=A) (B:=B) (sLen:=sLen) (sCap:=sCap) (m:=es2.length) (olds:=olds) (news:=(Waq (es2.length*sz)).map f2) q1 q2 (by simp [e2]) hnews q3 (by rw [q4]; exact c3) (by rw [q4]; exact c4))
     (λhe A n=>by
      rw [eu2]; subst he;exact qQ (P:=P) (w:=w) (ty:=o.type) (A:=A) (B:=B) (c2:=cB) ht hi)
     (λg sCap sLen cur Ty q1 q2 q3=>by
      rw [eu2];exact vo (P:=P) (w:=w) (ty:=o.type) (sLen:=sLen) (sCap:=sCap) (m:=es2.length) (c2:=cB) (B:=B) ht hi q1 (news:=(Waq (es2.length*sz)).map f2) (by simp [e2]) hnews hone2 q2 q3)
  ·cases h
 ·rename_i sz1 sz2 es2 hg hv;split at h
  ·rename_i hc;obtain ⟨c1,c2,c3,c4⟩:=hc;have c1:=c1.symm;subst c1;obtain ⟨B,cB,f2,eu2,hs2,hnews,hone2,hcell2⟩:=Eb R h2 hv c2;have hr:=R.opnd h1;rw [hg] at hr;have hA:∃ A,a.eval s=.slice A 0 0:=by
    generalize a.eval s=u at hr;cases hr with
    | pure h=>cases h
    | aU _ A=>exact ⟨A,rfl⟩
    | fr _ _ Y c arr Ty f hω hb hc hn=>obtain rfl:c=0:=(hn.2 rfl).resolve_left (by omega); exact ⟨_,rfl⟩
   obtain ⟨A,ex⟩:=hA;refine jS (e:=e) (R.ac ss) hop hzs ex hs2 hcell2 h (λhne=>?_) (λhe=>?_)
   ·rw [eu2];exact qk (P:=P) (w:=w) (ty:=o.type) (c2:=cB) ht hi hzv (A:=A) (B:=B) (sLen:=0) (sCap:=0) (m:=es2.length) (olds:=[]) (news:=(Waq (es2.length*sz)).map f2) (by simp) (by simp) (by simp [e2]) hnews (by grind) c3 c4
   ·rw [eu2]; subst he;exact qQ (P:=P) (w:=w) (ty:=o.type) (A:=A) (B:=B) (c2:=cB) ht hi
  ·cases h
 ·rename_i id off len sz1 sz2 es2 hg hv;split at h
  ·rename_i cs hb;split at h
   ·rename_i hc;obtain ⟨c1,c2,c0,c3,c4,c5⟩:=hc;have c1:=c1.symm;subst c1;subst c0;obtain ⟨B,cB,f2,eu2,hs2,hnews,hone2,hcell2⟩:=Eb R h2 hv c2;exact zd4 R hop (i:=i) (zv:=zv) (e:=e) e2 hzs hpos h1 hg hb hs2 hcell2 c5 h
     (λA sLen sCap olds q1 q2 q3 q4=>by
      rw [eu2];exact qk (P:=P) (w:=w) (ty:=o.type) (c2:=cB) ht hi hzv (A:=A) (B:=B) (sLen:=sLen) (sCap:=sCap) (m:=es2.length) (olds:=olds) (news:=(Waq (es2.length*sz)).map f2) q1 q2 (by simp [e2]) hnews q3 (by rw [q4]; exact c3) (by rw [q4]; exact c4))
     (λhe A=>by
      rw [eu2]; subst he;exact qQ (P:=P) (w:=w) (ty:=o.type) (A:=A) (B:=B) (c2:=cB) ht hi)
     (λg sCap sLen cur Ty q1 q2 q3=>by
      rw [eu2];exact vo (P:=P) (w:=w) (ty:=o.type) (sLen:=sLen) (sCap:=sCap) (m:=es2.length) (c2:=cB) (B:=B) ht hi q1 (news:=(Waq (es2.length*sz)).map f2) (by simp [e2]) hnews hone2 q2 q3)
   ·cases h
  ·cases h
 ·rename_i id off len cap sz1 sz2 es2 hg hv;split at h
  ·rename_i cs hb;split at h
   ·rename_i hc;obtain ⟨c1,c2,c0,c3,_⟩:=hc;have c1:=c1.symm;subst c1;subst c0;cases h;obtain ⟨B,cB,f2,eu2,hs2,hnews,hone2,hcell2⟩:=Eb R h2 hv c2;have hfl2:=gY hs2;have hr:=R.opnd h1;rw [hg] at hr;obtain ⟨c,L,A,ex,hL,hl,⟨hlc,hcc,hzz⟩,hA⟩:=hr.cut_inv;have hL':dS Z.b id=some L:=hL;have:L=cs.length:=by grind [dS]
    subst this;rw [Wau] at hl;by_cases hc0:c=0
    ·subst hc0;obtain rfl:cap=0:=by omega
     obtain rfl:len=0:=by omega
     obtain rfl:es2=[]:=WaT.1 (by omega);refine .value (lD hop (by rw [ex,eu2]; exact qQ (P:=P) (w:=w) (ty:=o.type) (A:=A) (B:=B) (c2:=cB) ht hi)) ⟨ω,μ,?_,λ_ _=>rfl⟩;rw [show cq cs (0*sz) ([]:Ls).flatten=cs by simp [cq],vQ hb];exact R.put _ (λi _=>.cut id 0 0 0 sz 0 cs.length A hL (by omega) ⟨by omega,by omega,λ_=>.inr rfl⟩ (.inr ⟨rfl,rfl⟩))
    ·have hne:cs≠[]:=by
      grind
     obtain ⟨e0,arr,T,e1,e2',e3⟩:=R.live hb hne;rcases hA with ⟨rfl,hAc⟩ | ⟨_,q⟩
     ·have hAc:0+c*sz<=eR w (μ id):=hAc;rw [jX e1,Wau] at hAc;have hfit1:(len+es2.length)*sz<=cap*sz:=WaA sz c3;rw [WaC] at hfit1;have hfit2:cap*sz<=c*sz:=WaA sz hcc;have run:=vo (P:=P) (w:=w) (ty:=o.type) (sLen:=len) (sCap:=c) (m:=es2.length) (c2:=cB) (B:=B) ht hi e1 (news:=(Waq (es2.length*sz)).map f2) (by simp [e2]) hnews hone2 (by omega) (by simp [e2]; omega);rw [e2] at run;refine .value (lD hop (by rw [ex,eu2]; exact run)) ⟨ω,μ,?_,λ_ _=>rfl⟩;have hnew:CellsP aa w (wr U ω) es2.flatten ((Waq (es2.length*sz)).map f2):=by
       refine ⟨by simp [hfl2],λj v hj=>?_⟩
       grind
      have R':=R.writeCells hb hne e1 hnew (off:=len*sz) (by rw [hfl2]; omega);refine R'.put _ (λi _=>?_);refine .cut id 0 (len+es2.length) cap sz c cs.length _ ?_ (by omega) ⟨c3,hcc,hzz⟩ (.inl ⟨rfl,?_⟩)
      ·show dS (Z.b.set id _) id=some cs.length;rw [om (Wam.1 hb).1,AR (by rw [hfl2]; omega)]
      ·show 0+c*sz<=eR (w.setRow (μ id) _) (μ id);rw [jX (setRow_heap w (μ id) arr _ T _ e1)];simp; omega
     ·exact absurd q hc0
   ·cases h
  ·cases h
 ·cases h
theorem X6(R:Rel aa we ωe U O Z a w ω μ)(hop:o.op=.move (.const (.slice none 0 0))∨o.op=.assign (.const (.slice none 0 0)))(h:ck cb nb Z o.dst ah (.move (.const (.fr sz [])) true)=some σ'):StepOk P aa we ωe U O a w o σ' nb μ:=by
 have run:(execOp a.eval o).run P w=.ok (.value (.slice none 0 0)) w:=by
  rcases hop with e | e <;> simp [execOp,e] <;> rfl
 simp only [ck] at h;split at h
 ·cases h
 ·simp at h;subst h;exact .value run ⟨ω,μ,R.put _ (λi _=>.aU sz none),λ_ _=>rfl⟩
theorem zgH(h:XB v=some (sz,es)):(v=.gs sz []/\es=[])∨v=.fr sz es:=by
 unfold XB at h
 grind
theorem Rep.frOf_inv(hf:XB v=some (sz,es))(h:Rep aa E l v.tk u):(∃ A,es=[]/\u=.slice A 0 0) ∨
  (∃ (Y c:Nat) (arr:Array Value) (T:TypeId) (f:Nat->Value),u=.slice (some ⟨Y,0,none⟩) es.length c/\E.ω Y=.gs l 0/\E.w.heap[Y]?=some (.cells arr T (0,0))/\c*sz<=arr.size/\es.length<=c/\(∀ e∈es,e.length=sz) /\
   (∀ (i:Nat) (v:V),es.flatten[i]?=some v->arr[i]?=some (f i))/\(∀ (i:Nat) (v:V),es.flatten[i]?=some v->(f i).oneCell'=true)/\(∀ (i:Nat) (v:V),es.flatten[i]?=some v->RepP aa E.w E.Wr v (f i))):=by
 rcases zgH hf with ⟨rfl,rfl⟩ | rfl
 ·rcases Rep.bm h with ⟨A,_,_,_,e,_⟩ | ⟨Y,c,arr,T,f,e,hω,hb,hc,hn,hsz,hcell,h1,h9⟩
  ·exact .inl ⟨A,rfl,e⟩
  ·exact .inr ⟨Y,c,arr,T,f,e,by simpa using hω,hb,hc,hn,hsz,hcell,h1,h9⟩
 ·have h:Rep aa E l (.fr sz es) u:=h;cases h with
  | pure h=>cases h
  | aU _ A=>exact .inl ⟨A,rfl,rfl⟩
  | fr _ _ Y c arr T f hω hb hc hn hsz hcell h1 h9=>exact .inr ⟨Y,c,arr,T,f,rfl,hω,hb,hc,hn.1,hsz,hcell,h1,h9⟩
theorem zip(R:Rel aa we ωe U O Z a w ω μ){dst:Option Nat}{c:Nat}(hsz:∀ e∈es,e.length=sz)(hn:es.length<=c)(hne:es≠[])(hc:c*sz<=arr.size)
  (hcell:∀ (i:Nat) (v:V),es.flatten[i]?=some v->∃ u,arr[i]?=some u/\u.oneCell'=true/\RepP aa w (wr U ω) v u) :
  ∃ ω',Rel aa we ωe U O (Z.put dst (.fr sz es)) (a.put dst (.slice (some ⟨w.heap.size,0,none⟩) es.length c)) (w.alloc (.cells arr T)) ω' μ:=by
 have hnew:(w.alloc (.cells arr T)).heap[w.heap.size]?=some (.cells arr T (0,0)):=heap_alloc_new w _;cases dst with
 | none=>
  obtain ⟨F,R'⟩:=R.newGs (.slot 0 0) 0 arr T;exact ⟨_,R'⟩
 | some d=>
  obtain ⟨F,R'⟩:=R.newGs (.slot d 0) 0 arr T;refine ⟨_,R'.put (some d) (λi hi=>?_)⟩;cases hi;refine .fr sz es w.heap.size c arr T (λi=>arr.toList.getD i undef) (d7 _ _ _) hnew hc ⟨hn,λe=>absurd e hne⟩ hsz (λi v hv=>?_) (λi v hv=>?_) (λi v hv=>?_) <;>
   (obtain ⟨u,g1,g2,g3⟩:=hcell i v hv
    have g1':arr.toList[i]?=some u:=by simpa using g1
    have e:arr.toList.getD i undef=u:=by grind
    simp only [e])
  ·exact g1
  ·exact g2
  ·exact g3.mono F.st
theorem zaI(R:Rel aa we ωe U O Z a w ω μ){s:Operand}(hop:o.op=.call { callee:=.builtin .append,args:=#[s,x],argTypes:=#[t,t] })(ht:P.underlying t=some (.slice e))(hsz:eJ P e=some sz)(hi:P.info? e=some i)(hz:qv P e=some z)(hpos:0<sz)(hzl:z.length=sz)
    (h1:du P aa t1 s=some ss) (h2:du P aa t2 x=some sx)     (h:ck cb nb Z o.dst ah (.aM sz i.bytes ss sx)=some σ'):StepOk P aa we ωe U O a w o σ' nb μ:=by
 obtain ⟨i',zv,hi',hzv,hcz⟩:=rg (aa:=aa) (w:=w) (Wr:=wr U ω) hz;rw [hi] at hi'; cases hi';obtain ⟨i2,hi2,e2⟩:=oA hsz;rw [hi] at hi2; cases hi2;have hzs:zv.cells.size=sz:=by have:=hcz.1; simp at this; omega
 simp only [ck] at h;split at h
 ·cases h
 split at h;rotate_left
 ·cases h
 rename_i sz1 es sz2 es2 hg hv;split at h;rotate_left
 ·cases h
 rename_i hc;obtain ⟨c1,c2,c3,c4,c5⟩:=hc;have c1:=c1.symm;subst c1;cases h;obtain ⟨B,cB,f2,eu2,hs2,hnews,hone2,hcell2⟩:=Eb R h2 hv c2;have hfl2:=gY hs2;obtain ⟨cc1,cc2⟩:=R.opndC h1;obtain ⟨ω1,F1,R1,hr1,hw1⟩:=R.taken ss (R.opnd h1) cc1 cc2 (.slot (Z.t.length) 0);have hT:(Z.ac ss).t.length<=Z.t.length:=by cases ss <;> simp [St.ac]
 have H2:∀ (i:Nat) (v:V),es2.flatten[i]?=some v->(f2 i).oneCell'=true/\RepP aa w (wr U ω1) v (f2 i):=λi v hv=>⟨(hcell2 i v hv).1,by rw [hw1]; exact (hcell2 i v hv).2⟩;have hlen:(es++es2).length=es.length+es2.length:=by simp
 have hne2:es++es2≠[]:=λe=>c5 (by rw [<- hlen,e]; rfl);have growing:∀ (A:Option Addr) (cap:Nat) (f:Nat->Value),a.eval s=.slice A es.length cap->(∀ e∈es,e.length=sz)->(es≠[]->∃ ad,A=some ad/\∀ (j:Nat) (u:Value),((Waq (es.length*sz)).map f)[j]?=some u->w.cell? (ad.add j)=some u) ->
   (∀ (i:Nat) (v:V),es.flatten[i]?=some v->(f i).oneCell'=true/\RepP aa w (wr U ω1) v (f i))->cap<es.length+es2.length->es.length<=cap->StepOk P aa we ωe U O a w o ((Z.ac ss).put o.dst (.fr sz (es++es2))) nb μ:=by
  intro A cap f ex hes holds H1 hgrow hle0;have run:=qk (P:=P) (w:=w) (ty:=o.type) (c2:=cB) ht hi hzv (A:=A) (B:=B) (sLen:=es.length) (sCap:=cap) (m:=es2.length) (olds:=(Waq (es.length*sz)).map f) (news:=(Waq (es2.length*sz)).map f2) (by simp [e2]) (λhne=>holds (by rintro rfl; simp at hne)) (by simp [e2]) hnews hgrow c3 c4;refine .value (lD hop (by rw [ex,eu2]; exact run)) ?_;obtain ⟨Fd,Rd⟩:=R1.drew;have hcapge:=grownCap_ge w (es.length+es2.length) cap e;have key:=zip (dst:=o.dst) (sz:=sz) (es:=es++es2) Rd (arr:=((Waq (es.length*sz)).map f).toArray++((Waq (es2.length*sz)).map f2).toArray++Builtin.zeroCells zv.cells (grownCap w (es.length+es2.length) cap e-(es.length+es2.length))) (T:=e) (c:=grownCap w (es.length+es2.length) cap e)
   (λx hx=>by rcases List.mem_append.1 hx with h | h; exact hes x h; exact hs2 x h) (by rw [hlen]; exact hcapge) hne2
   (by
    simp [size_zeroCells,hzs];rw [<- WaC,<- WaC];exact WaA sz (by omega))
   (λj v hv=>by
    obtain ⟨u,g1,g2,g3⟩:=O9 (aa:=aa) (w:=w) (Wr:=wr U ω1) hes hv H1 H2 (es2.length*sz) hfl2;refine ⟨u,?_,g2,g3.mono Fd.st⟩;have hj:j<((Waq (es.length*sz)).map f++(Waq (es2.length*sz)).map f2).length:=(Wam.1 g1).1;rw [Wbe (by simp at hj ⊢; omega)];simpa using g1)
  rw [hlen] at key;obtain ⟨ω',q⟩:=key;exact ⟨ω',μ,q,λ_ _=>rfl⟩
 rcases Rep.frOf_inv hg hr1 with ⟨A,rfl,ex⟩ | ⟨Y,cap,arr,Ty,f,ex,hω,hb,hcap,hn,hes,hcell1,hone1,hrep1⟩
 ·have:0<es2.length:=by simp at c5; exact Wbi.2 c5
  exact growing A 0 (λ_=>undef) (by rw [ex]; rfl) (by simp) (by simp) (by simp) (by simpa using this) (by simp)
 ·have hfl:=gY hes;have H1:∀ (i:Nat) (v:V),es.flatten[i]?=some v->(f i).oneCell'=true/\RepP aa w (wr U ω1) v (f i):=λi v hv=>⟨hone1 i v hv,hrep1 i v hv⟩;have hb:w.heap[Y]?=some (.cells arr Ty (0,0)):=hb;by_cases hgrow:cap<es.length+es2.length
  ·refine growing _ cap f ex hes (λhne=>⟨_,rfl,λj u hu=>?_⟩) H1 hgrow hn;have hj:j<es.length*sz:=by have:=(Wam.1 hu).1; simpa using this
   simp [hj] at hu; subst hu;rw [mB,Wau,cell_of_row _ _ _ _ _ _ hb];exact hcell1 j _ (Wac (by omega))
  ·have hω:ω1 Y=.gs (.slot Z.t.length 0) 0:=hω;have hcapsz:(es.length+es2.length)*sz<=arr.size:=Wbb (WaA _ (by omega)) hcap;have hle:es.length*sz+es2.length*sz<=arr.size:=by rw [<- WaC]; exact hcapsz
   have run:=vo (P:=P) (w:=w) (ty:=o.type) (sLen:=es.length) (sCap:=cap) (m:=es2.length) (c2:=cB) (B:=B) ht hi hb (news:=(Waq (es2.length*sz)).map f2) (by simp [e2]) hnews hone2 (by omega) (by simp [e2]; omega);rw [e2] at run;refine .value (lD hop (by rw [ex,eu2]; exact run)) ?_;have hasz:(arr.toList.take (es.length*sz)++(Waq (es2.length*sz)).map f2++arr.toList.drop (es.length*sz+((Waq (es2.length*sz)).map f2).length)).toArray.size=arr.size:=by simp; omega
   have hget:∀ j,(arr.toList.take (es.length*sz)++(Waq (es2.length*sz)).map f2++arr.toList.drop (es.length*sz+((Waq (es2.length*sz)).map f2).length)).toArray[j]?=if es.length*sz<=j/\j<es.length*sz+es2.length*sz then ((Waq (es2.length*sz)).map f2)[j-es.length*sz]? else arr.toList[j]?:=by
    intro j;rw [Wba,tm (by simp; omega)];simp
   obtain ⟨F2,R2⟩:=R1.grow hT hω hb hasz (λj hj=>by omega);cases hd:o.dst with
   | none=>exact ⟨_,_,R2,λ_ _=>rfl⟩
   | some d=>
    obtain ⟨F3,R3⟩:=R2.reown hT hω (.slot d 0) 0 (Wah _);refine ⟨_,_,R3.put (some d) (λj hj=>?_),λ_ _=>rfl⟩;cases hj;have hcells:∀ (j:Nat) (v:V),(es++es2).flatten[j]?=some v->∃ u,(arr.toList.take (es.length*sz)++(Waq (es2.length*sz)).map f2++arr.toList.drop (es.length*sz+((Waq (es2.length*sz)).map f2).length)).toArray[j]?=some u/\u.oneCell'=true/\RepP aa w (wr U ω1) v u:=by
     intro j v hv;rw [hget];rw [Wbc] at hv;by_cases hj:j<es.flatten.length
     ·rw [Wan hj] at hv;rw [if_neg (by omega)];exact ⟨f j,by simpa using hcell1 j v hv,(H1 j v hv).1,(H1 j v hv).2⟩
     ·rw [Wal (by omega)] at hv;have hlt:j-es.flatten.length<es2.flatten.length:=(Wam.1 hv).1;rw [if_pos (by omega)];refine ⟨f2 (j-es.length*sz),?_,?_⟩
      ·rw [WaU,Wbd (by omega)]; rfl
      ·rw [<- hfl]; exact H2 _ v hv
    have key:=Rep.fr (aa:=aa) (E:=env U (Z.ac ss) (w.setRow Y (arr.toList.take (es.length*sz)++(Waq (es2.length*sz)).map f2++arr.toList.drop (es.length*sz+((Waq (es2.length*sz)).map f2).length)).toArray) (upd ω1 Y (.gs (.slot d 0) 0)) μ) (l:=.slot d 0) sz (es++es2) Y cap _ Ty
     (λj=>((arr.toList.take (es.length*sz)++(Waq (es2.length*sz)).map f2++arr.toList.drop (es.length*sz+((Waq (es2.length*sz)).map f2).length)).toArray[j]?).getD undef) (d7 _ _ _) (setRow_heap w Y arr _ Ty _ hb) (by rw [hasz]; exact hcap) ⟨by rw [hlen]; omega,λe=>absurd e hne2⟩ (λx hx=>by rcases List.mem_append.1 hx with h | h; exact hes x h; exact hs2 x h)
     (λj v hv=>by obtain ⟨u,g1,g2,g3⟩:=hcells j v hv; rw [g1]; rfl) (λj v hv=>by obtain ⟨u,g1,g2,g3⟩:=hcells j v hv; rw [g1]; exact g2)
     (λj v hv=>by obtain ⟨u,g1,g2,g3⟩:=hcells j v hv; rw [g1]; exact (g3.mono F2.st).mono F3.st)
    rwa [show Value.slice (some ⟨Y,0,none⟩) (es++es2).length cap=Value.slice (some ⟨Y,0,none⟩) (es.length+es2.length) cap by rw [hlen]] at key
theorem ziL(R:Rel aa we ωe U O Z a w ω μ){T:Nat}(hT:Z.t.length<=T)(hr:Rep aa (env U Z w ω μ) (.slot T 0) (.fr sz es) u)(hg:Z.b[id]?=some .gone)(hnb:nb<=id)(p:Bool) :
  ∃ ω' μ',Fr (env U Z w ω μ) (env U (Z.ab id (.live p es.flatten)) w ω' μ')/\Rel aa we ωe U O (Z.ab id (.live p es.flatten)) a w ω' μ'/\(∀ k,k≠id->μ' k=μ k)/\∀ l,Rep aa (env U (Z.ab id (.live p es.flatten)) w ω' μ') l (.own id 0 es.length sz) u:=by
 have hlt:id<Z.b.length:=(Wam.1 hg).1;cases hr with
 | pure h=>cases h
 | aU _ A=>
  obtain ⟨F,R'⟩:=R.empty hg p;exact ⟨ω,μ,F,R',λ_ _=>rfl,λl=>.own id 0 0 sz 0 0 A (om hlt _ _) (by omega) ⟨by omega,λ_=>.inr rfl⟩ (.inr ⟨rfl,rfl⟩)⟩
 | fr _ _ Y c arr Ty f hω hb hc hn hsz hcell h1 h=>
  have hfl:=gY hsz;have hle:es.length*sz<=c*sz:=WaA sz hn.1;obtain ⟨F,R'⟩:=R.adopt hT (Y:=Y) hω hg p es.flatten arr Ty hb (by omega) (λj cc hj=>⟨f j,hcell j cc hj,h1 j cc hj,h j cc hj⟩);refine ⟨_,_,F,R',λk hk=>dC _ _ hk,λl=>?_⟩;refine .own id 0 es.length sz c es.flatten.length _ (om hlt _ _) (by omega) ⟨hn.1,λh0=>NO hsz h0 hn.2⟩ (.inl ⟨by show some (Addr.mk Y 0 none)=some ⟨upd μ id Y id,0,none⟩; rw [d7],?_⟩);show 0+c*sz<=eR w (upd μ id Y id);have hb':w.heap[Y]?=some (.cells arr Ty (0,0)):=hb
  grind [jX,d7]
theorem Rel.setCellR(R:Rel aa we ωe U O Z a w ω μ)(hid:Z.b[id]?=some (.live false cs)){off:Nat}(hlt:off<cs.length)(ha:w.heap[μ id]?=some (.cells arr T (0,0)))(hu:arr[off]?=some u)(h1:u.oneCell'=true)(hr:∀ l,Rep aa (env U Z w ω μ) l v u)(hv:∀ x xs,v≠.ae (x::xs)):Rel aa we ωe U O (Z.ab id (.live false (cs.set off v))) a w ω μ:=by
 have hne:cs≠[]:=by rintro rfl; simp at hlt
 obtain ⟨e0,arr',T',e1,e2,e3⟩:=R.live hid hne;rw [ha] at e1; cases e1;obtain ⟨F,key⟩:=R.write hid hne (cs':=cs.set off v) (by simp) ha rfl ha (λk _=>rfl) (Kept.refl _ w);refine key (λj c hc=>?_);by_cases hj:j=off
 ·grind [Rep.frame0]
 ·rw [Waw (λe=>hj e.symm)] at hc;obtain ⟨u,g1,g2,g3,g4⟩:=e3 j c hc;exact ⟨u,g1,g2,by simp,g4.frame F (λl Y h _ e=>⟨e,rfl⟩)⟩
theorem zeV(R:Rel aa we ωe U O Z a w ω μ)(hop:o.op=.load t x)(h1:iC P t=some false)(h2:eJ P t=some 1)(hs:du P aa t1 x=some s)(h:ck cb nb Z o.dst ah (.bj p sz s)=some σ'):StepOk P aa we ωe U O a w o σ' nb μ:=by
 simp [ck] at h;split at h;rotate_left
 ·cases h
 rename_i id off hg;split at h;rotate_left
 ·cases h
 rename_i cs hb;split at h;rotate_left
 ·cases h
 rename_i sz1 es hv;split at h;rotate_left
 ·cases h
 rename_i d hd;split at h;rotate_left
 ·cases h
 rename_i hsz;obtain rfl:sz=sz1:=hsz.symm;obtain ⟨d',hd',hg',rfl⟩:=o8 h;rw [hd] at hd';cases hd';have hne:cs≠[]:=by rintro rfl; simp at hv
 have hoff:off<cs.length:=(Wam.1 hv).1;have hlt:id<Z.b.length:=(Wam.1 hb).1;obtain ⟨e0,arr,T,e1,e2,e3⟩:=R.live hb hne;obtain ⟨u,g1,g2,_,g4⟩:=e3 off _ hv;refine xd R hop h1 h2 hs hg e1 g1 ?_;have hidne:id≠nb+d:=by
  rintro rfl
  simp [St.ab] at hg';rw [Wax hlt] at hg'; cases hg'
 obtain ⟨ω1,R1,hr1⟩:=R.takenCell hb hv g4 (.slot Z.t.length 0);have hgone:(Z.ab id (.live false (cs.set off (V.fr sz es).ag))).b[nb+d]?=some .gone:=by
  simp [St.ab] at hg' ⊢;rw [Waw hidne] at hg' ⊢;exact hg'
 obtain ⟨ω2,μ2,F2,R2,hμ,hr2⟩:=ziL R1 (T:=Z.t.length) (Wah _) hr1 hgone (nb:=nb) (by omega) p;have hb2:((Z.ab id (.live false (cs.set off (V.fr sz es).ag))).ab (nb+d) (.live p es.flatten)).b[id]?=some (.live false (cs.set off (V.fr sz es).ag)):=by
  simp [St.ab];rw [Waw (λe=>hidne e.symm),Wax hlt]
 have R3:=R2.setCellR hb2 (off:=off) (v:=.own (nb+d) 0 es.length sz) (by simp; exact hoff) (arr:=arr) (T:=T) (by rw [hμ id hidne]; exact e1) g1 g2 hr2 (by simp);have est:(((Z.ab id (.live false (cs.set off (V.fr sz es).ag))).ab (nb+d) (.live p es.flatten)).ab id (.live false ((cs.set off (V.fr sz es).ag).set off (.own (nb+d) 0 es.length sz))))=(Z.ab id (.live false (cs.set off (.own (nb+d) 0 es.length sz)))).ab (nb+d) (.live p es.flatten):=by
  simp only [St.ab,List.set_set];congr 1;rw [List.set_comm _ _ (λe=>hidne e.symm),List.set_set]
 rw [est] at R3;refine ⟨ω2,μ2,R3.put _ (λi _=>?_),λk hk=>hμ k (by omega)⟩;have ebl:dS ((Z.ab id (.live false (cs.set off (.own (nb+d) 0 es.length sz)))).ab (nb+d) (.live p es.flatten)).b=dS ((Z.ab id (.live false (cs.set off (V.fr sz es).ag))).ab (nb+d) (.live p es.flatten)).b:=by
  funext k;simp [St.ab,dS];by_cases hk:k=nb+d
  ·subst hk;have hl2:=(Wam.1 hgone).1;simp [St.ab] at hl2;rw [Wax (by rw [List.length_set]; exact hl2),Wax (by rw [List.length_set]; exact hl2)]
  ·rw [Waw (λe=>hk e.symm),Waw (λe=>hk e.symm)];by_cases hk2:k=id
   ·subst hk2; rw [Wax hlt,Wax hlt]; simp
   ·rw [Waw (λe=>hk2 e.symm),Waw (λe=>hk2 e.symm)]
 have:=hr2 (.slot i 0);unfold env at this ⊢;rw [ebl];exact this
theorem zbn(R:Rel aa we ωe U O Z a w ω μ){v':V}(h:Rep aa (env U Z w ω μ) l v u)(hs:yv Z.b v=some v'):RepP aa w (wr U ω) v' u:=by
 unfold yv at hs;split at hs
 ·rename_i id off len sz;obtain ⟨c,L,A,eu,hL,hl,hc,hA⟩:=h.own_inv;have hL':dS Z.b id=some L:=hL;split at hs
  ·rename_i cs hb;cases hs;obtain ⟨q0,arr,T,fr,q1,q2,q3⟩:=R.fs id cs hb;have hLc:L=cs.length:=by
    rw [show dS Z.b id=some cs.length by simp [dS,hb]] at hL'; cases hL'; rfl
   subst hLc;rw [eu];have key:=RepP.sl (aa:=aa) (w:=w) (Wr:=wr U ω) sz (bY sz len (cs.drop off)) A c (λi=>arr.toList.getD (off+i) undef) (by rw [eo]; exact hc.1) (jF _ _ _ (by simp; omega)) (μ id) off
    (λhne=>by
     rcases hA with ⟨h1,_⟩ | ⟨h1,_⟩
     ·exact h1
     ·subst h1; simp [bY] at hne)
   have seg:∀ (i:Nat) (v:V),(bY sz len (cs.drop off)).flatten[i]?=some v->∃ u,arr.toList.getD (off+i) undef=u/\arr[off+i]?=some u/\u.oneCell'=true/\RepP aa w (wr U ω) v u:=by
    intro i v hv;rw [ig,Wai] at hv;split at hv
    ·rw [Waj] at hv;obtain ⟨u,g1,g2,g3⟩:=q3 _ _ hv;have g1':arr.toList[off+i]?=some u:=by simpa using g1
     exact ⟨u,by rw [List.getD_eq_getElem?_getD,g1']; rfl,g1,g2,g3⟩
    ·cases hv
   have key:=key (λi v hv=>by obtain ⟨u,e,g1,g2,g3⟩:=seg i v hv; exact ⟨q0 _,by rw [cell_of_row _ _ _ _ _ _ q1,e]; exact g1⟩)
    (λi v hv=>by obtain ⟨u,e,g1,g2,g3⟩:=seg i v hv; rw [e]; exact g2) (λi v hv=>by obtain ⟨u,e,g1,g2,g3⟩:=seg i v hv; rw [e]; exact g3)
   rw [eo] at key;exact key
  ·split at hs
   ·rename_i h0;cases hs;subst h0;rw [eu];exact RepP.sl (aa:=aa) (w:=w) (Wr:=wr U ω) sz [] A c (λ_=>undef) hc.1 (by simp) 0 0 (λh=>absurd rfl h) (λi v hv=>by simp at hv) (λi v hv=>by simp at hv) (λi v hv=>by simp at hv)
   ·cases hs
  ·cases hs
 ·exact h.plain R.hU hs
theorem zdg(R:Rel aa we ωe U O Z a w ω μ)(hop:o.op=.load t x)(h1:iC P t=some true)(h2:eJ P t=some n)(hs:du P aa t1 x=some s)(h:ck cb nb Z o.dst ah (.aE n s)=some σ'):StepOk P aa we ωe U O a w o σ' nb μ:=by
 simp only [ck] at h;split at h;rotate_left
 ·cases h
 rename_i id off hg;split at h;rotate_left
 ·cases h
 rename_i cs hb;split at h;rotate_left
 ·cases h
 rename_i hoff;simp [Waa] at h;obtain ⟨vs,hvs,rfl⟩:=h;have hr:=R.opnd hs;rw [hg] at hr;obtain ⟨L,hL,ex⟩:=hr.ar;have hlen:vs.length=n:=by rw [mQ hvs]; simp; omega
 by_cases hne:cs=[]
 ·subst hne;obtain rfl:n=0:=by simp at hoff; omega
  obtain rfl:vs=[]:=WaT.1 hlen;have run:=wM (P:=P) (a:=a) (w:=w) h1 h2 (k:=μ id) (q:=off) [] (by simp) (by simp) (λj u hu=>by simp at hu) hop ex;exact .value run ⟨ω,μ,R.put _ (λi _=>.pure (.agg [] [] rfl (by simp) (by simp))),λ_ _=>rfl⟩
 obtain ⟨e0,arr,T,e1,e2,e3⟩:=R.live hb hne;have hul:((arr.toList.drop off).take n).length=n:=by simp; omega
 have run:=wM (P:=P) (a:=a) (w:=w) h1 h2 ((arr.toList.drop off).take n) (λ_=>hul) (by simp) (Rel.cellsAt e1 (by omega)) hop ex;refine .value run ⟨ω,μ,R.put _ (λi _=>.pure ?_),λ_ _=>rfl⟩;have cell:∀ (j:Nat) (c:V),vs[j]?=some c->∃ u,((arr.toList.drop off).take n)[j]?=some u/\u.oneCell'=true/\RepP aa w (wr U ω) c u:=by
  intro j c hj;have hlt:j<n:=by grind
  obtain ⟨c0,hc0⟩:∃ c0,((cs.drop off).take n)[j]?=some c0:=⟨_,Wac (by simp; omega)⟩;obtain ⟨b,hb1,hb2⟩:=pT hvs j c0 hc0;rw [hj] at hb1; cases hb1;rw [Wai,if_pos hlt,Waj] at hc0;obtain ⟨u,g1,g2,_,g4⟩:=e3 _ _ hc0;refine ⟨u,?_,g2,zbn R g4 hb2⟩;rw [Wai,if_pos hlt,Waj];simpa using g1
 refine .agg vs _ (by rw [hlen,hul]) (λj c u hc hu=>?_) (λu hu=>?_)
 ·obtain ⟨u',q1,_,q3⟩:=cell j c hc;rw [hu] at q1; cases q1; exact q3
 ·obtain ⟨j,hj⟩:=List.getElem?_of_mem hu;have hlt:j<vs.length:=by grind
  obtain ⟨u',q1,q2,_⟩:=cell j _ (Wac hlt);rw [hj] at q1; cases q1; exact q2
theorem zhC(a:Act)(t:Nat):a.put (some t) (a.tmps.getD t undef)=a:=by
 unfold Act.put;simp only;congr 1;apply Array.ext_getElem?;intro i;rw [Array.getElem?_setIfInBounds];split
 ·rename_i hi;subst hi;split
  ·simp_all
  ·grind
 ·rfl
theorem X0(R:Rel aa we ωe U O Z a w ω μ)(hop:o.op=.move x∨o.op=.assign x)(hs:du P aa t x=some s)(h:ck cb nb Z o.dst ah (.bh p sz s)=some σ'):StepOk P aa we ωe U O a w o σ' nb μ:=by
 have run:(execOp a.eval o).run P w=.ok (.value (a.eval x)) w:=by
  rcases hop with e | e <;> simp [execOp,e]
 simp only [ck] at h;split at h;rotate_left
 ·cases h
 rename_i sz1 es hg;split at h;rotate_left
 ·cases h
 rename_i t0 d hd;split at h;rotate_left
 ·cases h
 rename_i hc;obtain ⟨hsz,htd⟩:=hc;obtain rfl:sz=sz1:=hsz.symm;obtain ⟨d',hd',hg',rfl⟩:=o8 h;rw [hd] at hd';cases hd';refine .value run ?_;obtain ⟨cc1,cc2⟩:=R.opndC hs;obtain ⟨ω1,F1,R1,hr1,hw1⟩:=R.taken (.tmp t0) (R.opnd hs) cc1 cc2 (.slot Z.t.length 0);have hT:(Z.ac (.tmp t0)).t.length<=Z.t.length:=by simp [St.ac]
 rw [hg] at hr1;have hgone:(Z.ac (.tmp t0)).b[nb+d]?=some .gone:=by
  grind [St.ac,St.put]
 obtain ⟨ω2,μ2,F2,R2,hμ,hr2⟩:=ziL R1 hT hr1 hgone (nb:=nb) (by omega) p;have ex:a.eval x=a.tmps.getD t0 undef:=cc1 t0 rfl;have R3:=R2.put (some t0) (v:=.own (nb+d) 0 es.length sz) (u:=a.eval x) (λi _=>hr2 _);rw [ex,zhC] at R3;have est:((Z.ac (.tmp t0)).ab (nb+d) (.live p es.flatten)).put (some t0) (.own (nb+d) 0 es.length sz)=(Z.put (some t0) (.own (nb+d) 0 es.length sz)).ab (nb+d) (.live p es.flatten):=by
  simp only [St.ac,St.ab,St.put];congr 1;apply List.ext_getElem?
  grind
 rw [est] at R3;refine ⟨ω2,μ2,R3.put _ (λi _=>?_),λk hk=>hμ k (by omega)⟩;exact hr2 _
theorem Qg{u:TypeId}{z:Value}(ht:P.underlying t=some (.slice e))(hu:P.underlying u=some (.int k))(hi:P.info? e=some i)(hz:i.zero=some z)(hpos:0<i.size){A:Option Addr}{m:Nat}(hol:olds.length=sLen*i.size)(hold:olds≠[]->∃ ad,A=some ad/\∀ (j:Nat) (u:Value),olds[j]?=some u->w.cell? (ad.add j)=some u)
  (hg:sCap<sLen+m) (hb:(sLen+m)*i.bytes<=140737488355328) (h63:sLen+m<=140737488355328) (hm:0<m) :
  (Builtin.append_ #[t,u] ty #[.slice A sLen sCap,.int k' m]).run P w =
   .ok (.slice (some ⟨w.heap.size,0,none⟩) (sLen+m) (grownCap w (sLen+m) sCap e)) (w.drew.alloc (.cells (olds.toArray++Builtin.zeroCells z.cells m++Builtin.zeroCells z.cells (grownCap w (sLen+m) sCap e-(sLen+m))) e)):=by
 have hn:¬ (sLen+m<=sCap):=by omega
 have h63':¬ (9223372036854775807<((sLen:Int)+(m:Int))):=by omega
 have h48':¬ (281474976710656<Builtin.nextslicecap (sLen+m) sCap*i.bytes):=by have:=growslice_fits hg hb; omega
 have hfo:=Ea (P:=P) (w:=w.drew) (len:=sLen) (cap:=sCap) olds hol (by simpa using hold);have hw:Wbf .i64 (m:Int)=(m:Int):=IntWalk.i64_in _ ⟨by omega,by omega⟩;have hneg:¬ ((m:Int)<0):=by omega
 have hmb:m*i.bytes<=140737488355328:=Wbb (WaA _ (by omega)) hb;have h48:¬ ((m:Int)*(i.bytes:Int)>281474976710656):=by
  grind
 have hne:¬ (m*i.size=0):=by
  intro h0;rcases Nat.mul_eq_zero.1 h0 with h | h <;> omega
 simp [Builtin.append_,run_underlying ht,run_underlying hu,sizeOf,typeInfo,zeroValue,hi,hz,asInt,asIntOf,hw,hneg,h48,hne,hn,h63',h48',Question.forced,hfo,newRow,grownCap]
theorem Ta{u:TypeId}{z:Value}(ht:P.underlying t=some (.slice e))(hu:P.underlying u=some (.int k))(hi:P.info? e=some i)(hz:i.zero=some z)(hzs:z.cells.size=i.size)(hpos:0<i.size){g m:Nat}(hgb:w.heap[g]?=some (.cells cur Ty (0,0)))
  (h1:∀ u∈(Builtin.zeroCells z.cells m).toList,u.oneCell'=true) (hroom:sLen+m<=sCap) (hfit:sLen*i.size+(Builtin.zeroCells z.cells m).toList.length<=cur.size) (hm:m*i.bytes<=140737488355328) (hm2:m<=140737488355328) :
  (Builtin.append_ #[t,u] ty #[.slice (some ⟨g,0,none⟩) sLen sCap,.int k' m]).run P w =
   .ok (.slice (some ⟨g,0,none⟩) (sLen+m) sCap) (w.setRow g (cur.toList.take (sLen*i.size)++(Builtin.zeroCells z.cells m).toList++cur.toList.drop (sLen*i.size+(Builtin.zeroCells z.cells m).toList.length)).toArray):=by
 have hst:=run_storeCells_at P g (sLen*i.size) Ty (Builtin.zeroCells z.cells m).toList 0 cur w hgb (by simpa using hfit) h1;simp only [Nat.add_zero] at hst;have hw:Wbf .i64 (m:Int)=(m:Int):=IntWalk.i64_in _ ⟨by omega,by omega⟩;have hneg:¬ ((m:Int)<0):=by omega
 have h48:¬ ((m:Int)*(i.bytes:Int)>281474976710656):=by
  grind
 by_cases h0:m=0
 ·subst h0;have hzc:(Builtin.zeroCells z.cells 0).toList=[]:=by simp [Builtin.zeroCells]
  rw [hzc] at hst ⊢;have hsame:w=w.setRow g (cur.toList.take (sLen*i.size)++[]++cur.toList.drop (sLen*i.size+([]:List Value).length)).toArray:=by
   have:=hst;simp only [storeCells,Sem.run_pure] at this;injection this
  rw [<- hsame];have hw0:Wbf .i64 0=0:=rfl;have hr0:sLen<=sCap:=by omega
  simp [hw0,hr0,Builtin.append_,run_underlying ht,run_underlying hu,sizeOf,typeInfo,hi,asInt,asIntOf,Addr.add_lit,storeCells]
 ·have hne:¬ (m*i.size=0):=by
   intro h;rcases Nat.mul_eq_zero.1 h with h | h <;> omega
  simp [Builtin.append_,run_underlying ht,run_underlying hu,sizeOf,typeInfo,zeroValue,hi,hz,asInt,asIntOf,hw,hneg,h48,hne,hroom,Addr.add_lit,hst]
theorem Z1(R:Rel aa we ωe U O Z a w ω μ){u:TypeId}{s:Operand}(hop:o.op=.call { callee:=.builtin .append,args:=#[s,x],argTypes:=#[t,u] })(ht:P.underlying t=some (.slice e))(hu:P.underlying u=some (.int k))(hsz:eJ P e=some sz)(hi:P.info? e=some i)(hz:qv P e=some z)(hpos:0<sz)(hzl:z.length=sz)
    (h1:du P aa t1 s=some ss) (h2:du P aa t2 x=some sx)     (h:ck cb nb Z o.dst ah (.aO sz i.bytes (z.map V.ag) ss sx)=some σ'):StepOk P aa we ωe U O a w o σ' nb μ:=by
 obtain ⟨i',zv,hi',hzv,hcz⟩:=rg (aa:=aa) (w:=w) (Wr:=wr U ω) hz;rw [hi] at hi'; cases hi';obtain ⟨i2,hi2,e2⟩:=oA hsz;rw [hi] at hi2; cases hi2;have hzs:zv.cells.size=sz:=by have:=hcz.1; simp at this; omega
 simp [ck] at h;split at h
 ·rename_i sz1 es n hg hv;split at h
  ·rename_i hc;obtain ⟨c1,c0,c3,c4⟩:=hc;have c1:=c1.symm;subst c1;split at h
   ·cases h
   ·obtain ⟨k',ex⟩:=(R.opnd h2).int hv;obtain ⟨m,rfl⟩:∃ m:Nat,n=m:=⟨n.toNat,by omega⟩;simp only [Int.toNat_natCast] at c3 c4 h;unfold cN at c3 c4;have hd:=vG hcz;have hzl':(z.map V.ag).length=sz:=by simp [hzl]
    have hlen:(Wad m (z.map V.ag)).length=m:=by simp
    have hmb:m*i.bytes<=140737488355328:=Wbb (WaA _ (by omega)) c3;have hrng:(Waq (m*sz)).map (λj=>zv.cells[j % zv.cells.size]!)=(Builtin.zeroCells zv.cells m).toList:=by
     simp [Builtin.zeroCells,hzs]
    have H2:∀ (j:Nat) (v:V),(Wad m (z.map V.ag)).flatten[j]?=some v->(zv.cells[j % zv.cells.size]!).oneCell'=true/\RepP aa w (wr U ω) v (zv.cells[j % zv.cells.size]!):=by
     intro j v hv;obtain ⟨u,g1,g2,g3⟩:=yJ hd m (m*sz) (by grind) (by omega) j v hv
     grind
    have hone:∀ u∈(Builtin.zeroCells zv.cells m).toList,u.oneCell'=true:=by
     intro u hu;rw [<- hrng] at hu;simp at hu;obtain ⟨j,hj,rfl⟩:=hu
     simp_all
    refine Q4 R hop (e:=e) (i:=i) (zv:=zv) e2 hzs h1 (es2:=Wad m (z.map V.ag)) hg (λx hx=>by grind) (f2:=λj=>zv.cells[j % zv.cells.size]!) H2 h
     (λA sLen sCap olds q1 q2 q3 q4 q5=>?_) (λhe A=>?_) (λg sCap sLen cur Ty q1 q2 q3=>?_)
    ·rw [ex];simp only [hlen] at q3 ⊢;rw [hrng];have hm:0<m:=by omega
     simpa using Qg (P:=P) (w:=w) (ty:=o.type) (k':=k') ht hu hi hzv (by omega) (A:=A) q1 q2 q3 (by rw [q4]; exact c3) (by rw [q4]; exact c4) hm
    ·rw [ex];have hm:m=0:=by
      grind
     subst hm;have hw0:Wbf .i64 0=0:=rfl;cases A <;> simp [hw0,Builtin.append_,run_underlying ht,run_underlying hu,sizeOf,typeInfo,hi,asInt,asIntOf,storeCells]
    ·rw [ex];simp only [hlen] at q2 q3 ⊢;rw [hrng] at q3 ⊢;exact Ta (P:=P) (w:=w) (ty:=o.type) (k':=k') ht hu hi hzv (by omega) (by omega) q1 hone q2 q3 hmb (by omega)
  ·cases h
 ·cases h
end
section
variable {t t1:TypeId}{k:V}{x:Value}{Wr:Nat->Nat->Prop}{kd r id clock:Nat}{d:TypeDesc}{L:List MapEntry}{es:Array MapEntry}{o:Oper}{cb:CB}{ah:Bool}{σ':St}{sx:Src}
variable {aa:Rn} {we:World} {ωe:Nat->Ow} {U:Nat->Nat->Prop} {O:Nat->Prop} {Z:St} {a:Act} {w:World} {ω:Nat->Ow} {μ:Nat->Nat} {P:Program} {nb:Nat}
def Z3(P:Program)(em:Bool)(dd:Nat)(t:TypeId)(n:Nat):Prop:=
 ∀ (w:World) (us:List Value) (x:Value),us.length=n->PV P t us x->(Instr.checkKey em dd t x).run P w=.ok () w
theorem IO{em:Bool}{dd d:Nat}(IH:∀ t n,ng P d t=some n->Z3 P em dd t n)(xs:List Value)(w:World):∀ (fs:List Field) (off n:Nat),oH P (ng P d) fs off=some n->xs.length=n ->
  ∀ f∈fs,f.name≠"_"/\∃ x,(part f.type xs.toArray f.offset).run P w=.ok x w/\(Instr.checkKey em dd f.type x).run P w=.ok () w
 | [],off,n,h,hx=>by simp
 | f::fs,off,n,h,hx=>by
  simp only [oH,Wab,Waa] at h;obtain ⟨s,hs,h⟩:=h;split at h
  ·rename_i hc;obtain ⟨hname,hoff,hsz⟩:=hc;have hmono:∀ (fs:List Field) (o n:Nat),oH P (ng P d) fs o=some n->o<=n:=by
    intro fs
    induction fs with
    | nil=>intro o n h; cases h; exact Wah _
    | cons g gs ih=>
     intro o n h;simp only [oH,Wab,Waa] at h
     grind
   have hle:=hmono _ _ _ h;obtain ⟨b,hb,hb1⟩:=Bv hs;obtain ⟨x,px,ox⟩:=Gy hb hsz hb1 (xs:=xs) (off:=off) (by omega) w;intro g hg;rcases List.mem_cons.1 hg with rfl | hg
   ·exact ⟨hname,x,by rw [hoff]; exact px,IH _ _ hs w _ x (by simp; omega) ox⟩
   ·exact IO IH xs w fs (off+s) n h hx g hg
  ·cases h
theorem I5(em:Bool)(m:Nat):∀ (d:Nat) (t:TypeId) (n:Nat),ng P d t=some n->Z3 P em (m+d) t n
 | 0,t,n,h=>by cases h
 | d+1,t,n,h=>by
  intro w us x hu ox;unfold ng at h;split at h
  ·rename_i k hd;show (Instr.checkKey em (m+d+1) t x).run P w=_;simp [Instr.checkKey,run_underlying hd]
  ·rename_i len e hd;simp only [Wab,Waa] at h;obtain ⟨s,hs,h⟩:=h;split at h
   ·rename_i hsz;cases h;rcases ox with ⟨_,rfl⟩ | ⟨g,_⟩
    ·obtain ⟨i,hi,hi'⟩:=oA hsz;obtain ⟨b,hb,hb1⟩:=Bv hs;have IH:=I5 em m d e s hs;show (Instr.checkKey em (m+d+1) t _).run P w=_;rw [Instr.checkKey];simp only [Sem.run_bind,run_underlying hd,Waz];simp only [Std.Legacy.Range.forIn_eq_forIn_range',Std.Legacy.Range.size,Nat.sub_zero,Nat.add_one_sub_one,Nat.div_one];have each:∀ j∈List.range' 0 len,∃ x,(part e us.toArray (j*s)).run P w=.ok x w/\(Instr.checkKey em (m+d) e x).run P w=.ok () w:=by
      intro j hj;have hj:j<len:=by simpa using hj
      have hm:j*s+s<=len*s:=by rw [<- Nat.succ_mul]; exact WaA s hj
      obtain ⟨x,px,ox⟩:=Gy hb hsz hb1 (xs:=us) (off:=j*s) (by omega) w;exact ⟨x,px,IH w _ x (by simp; omega) ox⟩
     generalize List.range' 0 len=is at each
     induction is with
     | nil=>simp
     | cons j is ih=>
      obtain ⟨x,p1,p2⟩:=each j (by simp);simp only [List.forIn_cons,Sem.run_bind,hH hsz,Waz,p1,p2,Sem.run_pure];exact ih (λy hy=>each y (by simp [hy]))
    ·simp [iC,hd] at g
   ·cases h
  ·rename_i fs hd;split at h
   ·cases h
   ·rename_i hst;rcases ox with ⟨_,rfl⟩ | ⟨g,_⟩
    ·show (Instr.checkKey em (m+d+1) t _).run P w=_;rw [Instr.checkKey];simp only [Sem.run_bind,run_underlying hd,Waz];rw [<- Array.forIn_toList];have each:=IO (λt n h=>I5 em m d t n h) us w fs.toList 0 n h hu;clear h hd hst;generalize fs.toList=L at each
     induction L with
     | nil=>simp
     | cons f L ih=>
      obtain ⟨hn,x,p1,p2⟩:=each f (by simp);simp only [List.forIn_cons,Sem.run_bind,hn,ne_eq,not_false_eq_true,if_true,Waz,p1,p2,Sem.run_pure];exact ih (λy hy=>each y (by simp [hy]))
    ·simp [iC,hd] at g
  ·cases h
theorem za5:∀ {us vs:List Value},eqV us vs=some true->us=vs/\∀ u∈us,∃ k n,u=.int k n
 | [],[],_=>⟨rfl,by simp⟩
 | [],_::_,h=>by simp [eqV] at h
 | u::us,[],h=>by simp [eqV] at h
 | u::us,v::vs,h=>by
  unfold eqV at h;split at h
  ·simp_all
  ·rename_i e1 e2;cases e1; cases e2;split at h
   ·rename_i hk;simp only [Option.map_eq_some_iff,Bool.and_eq_true,beq_iff_eq] at h;obtain ⟨r,hr,e,rfl⟩:=h;obtain ⟨e2,hi⟩:=za5 hr
    grind
   ·cases h
  ·cases h
theorem Zl{us:List Value}(h:∀ u∈us,∃ k n,u=.int k n)(n:Nat):Instr.sameBits (n+1) (.agg us.toArray) (.agg us.toArray)=true:=by
 simp only [Instr.sameBits,BEq.rfl,Bool.true_and,List.all_eq_true];intro ⟨x,y⟩ hxy;have e:x=y:=by
  obtain ⟨i,hi,e⟩:=List.getElem_of_mem hxy;simp at e;rw [<- e.1,<- e.2]
 subst e;obtain ⟨k,m,rfl⟩:=h x (List.of_mem_zip hxy).1;cases n <;> simp [Instr.sameBits]
theorem Z9{k:IntKind}(hd:P.underlying t=some (.int k))(em:Bool)(n:Nat):(Instr.checkKey em (n+1) t x).run P w=.ok () w:=by
 simp [Instr.checkKey,run_underlying hd]
theorem zau(hd:P.underlying t=some .string)(em:Bool)(n:Nat):(Instr.checkKey em (n+1) t x).run P w=.ok () w:=by
 simp [Instr.checkKey,run_underlying hd]
theorem IK(hk:J8 P t=some kd)(ho:ue kd k=true)(h:RepP aa w Wr k x)(em:Bool)(w':World):(Instr.checkKey em 10000 t x).run P w'=.ok () w':=by
 unfold J8 at hk;simp [Waa] at hk;obtain ⟨d,hd,hk⟩:=hk;split at hk
 ·exact Z9 hd em 9999
 ·exact zau hd em 9999
 ·rename_i fs;simp [Waa] at hk;obtain ⟨n,hn,rfl⟩:=hk;cases k <;> simp [ue] at ho;obtain ⟨us,rfl,hc⟩:=CellsP.of_agg h;exact I5 em 9980 20 t n hn w' us _ (by rw [<- hc.1]; exact ho) (.inl ⟨by simp [iC,hd],rfl⟩)
 ·rename_i n' e';simp [Waa] at hk;obtain ⟨n,hn,rfl⟩:=hk;cases k <;> simp [ue] at ho;obtain ⟨us,rfl,hc⟩:=CellsP.of_agg h;exact I5 em 9980 20 t n hn w' us _ (by rw [<- hc.1]; exact ho) (.inl ⟨by simp [iC,hd],rfl⟩)
 ·cases hk
theorem zhy{a b:ByteArray}(h:(a==b)=true):a=b:=by
 have h:(a.data==b.data)=true:=h;cases a; cases b;simpa using h
theorem zdH(a:ByteArray):(a==a)=true:=by
 show (a.data==a.data)=true;simp
def On(P:Program)(t:TypeId)(d:TypeDesc)(w:World)(x y:Value)(r:Bool):Prop:=
 ((∃ b,iC P t=some b/\b=true)/\(∀ y,Instr.sameNow d x y=none)/\(Op.equal t x y).run P w=.ok r w)∨Instr.sameNow d x y=some r
theorem GE(hk:J8 P t=some kd)(hd:P.underlying t=some d){k':V}{y:Value}(ho:ue kd k=true)(h:RepP aa w Wr k x)(h':RepP aa w Wr k' y){r:Bool}(he:xb k k'=some r)(w':World) :
  On P t d w' x y r/\(r=true->Instr.sameBits 10000 y x=true):=by
 unfold J8 at hk;simp [Waa] at hk;obtain ⟨d',hd',hk⟩:=hk;rw [hd] at hd'; cases hd';have agg:∀ n,ng P 20 t=some n->kd=n+2->iC P t=some true->(∀ x y,Instr.sameNow d x y=none)->On P t d w' x y r/\(r=true->Instr.sameBits 10000 y x=true):=by
  intro n hn e hb hs;subst e;cases k <;> simp [ue] at ho;rename_i cs;cases k' <;> simp [xb] at he;rename_i ds;obtain ⟨us,rfl,hc⟩:=CellsP.of_agg h;obtain ⟨vs,rfl,hc'⟩:=CellsP.of_agg h';have hq:=Om he.2 hc hc';refine ⟨.inl ⟨⟨_,hb,rfl⟩,λy=>hs _ y,?_⟩,λhr=>?_⟩
  ·exact Uo 9980 20 t n hn w' us vs _ _ r (by rw [<- hc.1]; exact ho) (by rw [<- hc'.1,<- he.1]; exact ho) (.inl ⟨hb,rfl⟩) (.inl ⟨hb,rfl⟩) hq
  ·grind [za5,Zl]
 split at hk
 ·cases hk;cases k <;> simp [ue] at ho;rename_i v; cases v <;> simp at ho;cases k' <;> simp [xb] at he;rename_i v'; cases v' <;> simp at he;cases h; cases h';obtain ⟨e,rfl⟩:=he;refine ⟨.inr (by simp [Instr.sameNow,e]),λhr=>?_⟩;simp at hr;simp [Instr.sameBits,e,hr]
 ·cases hk;cases k <;> simp [ue] at ho;rename_i v; cases v <;> simp at ho;cases k' <;> simp [xb] at he;rename_i v'; cases v' <;> simp at he;cases h; cases h';subst he;refine ⟨.inr (by simp [Instr.sameNow]),λhr=>?_⟩;simp only [Instr.sameBits];rw [zhy hr];exact zdH _
 ·simp only [Waa,Waf] at hk;obtain ⟨n,hn,rfl⟩:=hk;exact agg n hn rfl (by simp [iC,hd]) (λx y=>by cases x <;> cases y <;> rfl)
 ·simp only [Waa,Waf] at hk;obtain ⟨n,hn,rfl⟩:=hk;exact agg n hn rfl (by simp [iC,hd]) (λx y=>by cases x <;> cases y <;> rfl)
 ·cases hk
theorem Un{key:V}:∀ {es:Lm},DW key es=some none->∀ (j:Nat) (k v:V),es[j]?=some (k,v)->xb key k=some false
 | [],_,j,k,v,hj=>by simp at hj
 | (k0,v0)::es,h,j,k,v,hj=>by
  unfold DW at h;split at h
  ·cases h
  ·rename_i he;cases j with
   | zero=>grind
   | succ j=>exact Un h j k v (by simpa using hj)
  ·cases h
theorem Vm{key r:V}:∀ {es:Lm},DW key es=some (some r)->∃ (j:Nat) (k:V),es[j]?=some (k,r)/\xb key k=some true/\∀ (i:Nat) (k' v':V),i<j->es[i]?=some (k',v')->xb key k'=some false
 | [],h=>by cases h
 | (k0,v0)::es,h=>by
  unfold DW at h;split at h
  ·rename_i he; cases h; exact ⟨0,k0,rfl,he,λi _ _ hi=>by omega⟩
  ·rename_i he;obtain ⟨j,k,h1,h2,h3⟩:=Vm h;refine ⟨j+1,k,by simpa using h1,h2,λi k' v' hi hk'=>?_⟩
   grind
  ·cases h
theorem YH{key val:V}:∀ {es es':Lm},RX key val es=some es' ->
  ((∀ (j:Nat) (k v:V),es[j]?=some (k,v)->xb key k=some false)/\es'=es++[(key,val)]) ∨
  (∃ (j:Nat) (k r:V),es[j]?=some (k,r)/\xb key k=some true/\(∀ (i:Nat) (k' v':V),i<j->es[i]?=some (k',v')->xb key k'=some false)/\es'=es.set j (key,val))
 | [],es',h=>by cases h; exact .inl ⟨by simp,rfl⟩
 | (k0,v0)::es,es',h=>by
  unfold RX at h;split at h
  ·rename_i he; cases h; exact .inr ⟨0,k0,v0,rfl,he,λi _ _ hi=>by omega,rfl⟩
  ·rename_i he;simp at h;obtain ⟨es1,h1,rfl⟩:=h;rcases YH h1 with ⟨g1,g2⟩ | ⟨j,k,r,g1,g2,g3,g4⟩
   ·grind
   ·refine .inr ⟨j+1,k,r,by simpa using g1,g2,λi k' v' hi hk'=>?_,by rw [g4]; rfl⟩
    grind
  ·cases h
theorem Pz{d:TypeDesc}{x:Value}:∀ (L:List MapEntry) (i:Nat),(∀ e∈L,Instr.sameNow d x e.key=some false)->Instr.findNow d x L i=some none
 | [],i,_=>rfl
 | e::L,i,h=>by simp [Instr.findNow,h e (by simp)]; exact Pz L (i+1) (λe he=>h e (by simp [he]))
theorem Pu{d:TypeDesc}{x:Value}:∀ (L:List MapEntry) (i j:Nat) (e:MapEntry),L[j]?=some e->Instr.sameNow d x e.key=some true->(∀ i' e',i'<j->L[i']?=some e'->Instr.sameNow d x e'.key=some false)->Instr.findNow d x L i=some (some (i+j,e.val))
 | [],i,j,e,h,_,_=>by simp at h
 | e0::L,i,0,e,h,h1,_=>by simp at h; subst h; simp [Instr.findNow,h1]
 | e0::L,i,j+1,e,h,h1,h2=>by
  have:=Pu L (i+1) j e (by simpa using h) h1 (λi' e' hi he=>h2 (i'+1) e' (by omega) (by simpa using he));simp only [Instr.findNow,h2 0 e0 (by omega) rfl,this];congr 3; omega
theorem IM{t:TypeId}{x:Value}{w:World}:∀ (L:List MapEntry) (i:Nat),(∀ e∈L,(Op.equal t x e.key).run P w=.ok false w)->(Instr.findAsking t x L i).run P w=.ok none w
 | [],i,_=>by simp [Instr.findAsking]
 | e::L,i,h=>by simp [Instr.findAsking,h e (by simp),IM L (i+1) (λe he=>h e (by simp [he]))]
theorem Ix{t:TypeId}{x:Value}{w:World}:∀ (L:List MapEntry) (i j:Nat) (e:MapEntry),L[j]?=some e->(Op.equal t x e.key).run P w=.ok true w->(∀ i' e',i'<j->L[i']?=some e'->(Op.equal t x e'.key).run P w=.ok false w)->(Instr.findAsking t x L i).run P w=.ok (some (i+j,e.val)) w
 | [],i,j,e,h,_,_=>by simp at h
 | e0::L,i,0,e,h,h1,_=>by simp at h; subst h; simp [Instr.findAsking,h1]
 | e0::L,i,j+1,e,h,h1,h2=>by
  have:=Ix L (i+1) j e (by simpa using h) h1 (λi' e' hi he=>h2 (i'+1) e' (by omega) (by simpa using he));have e3:i+1+j=i+(j+1):=by omega
  rw [e3] at this;simp [Instr.findAsking,h2 0 e0 (by omega) rfl,this]
theorem N3(hd:P.underlying t=some d)(h:∀ e∈L,On P t d w x e.key false):(Instr.findKey t x L).run P w=.ok none w:=by
 simp [Instr.findKey,run_underlying hd];cases L with
 | nil=>simp [Instr.findNow]
 | cons e0 L=>
  rcases h e0 (by simp) with ⟨⟨b,hb,rfl⟩,h1,h2⟩ | h1
  ·have ask:∀ e∈e0::L,(Op.equal t x e.key).run P w=.ok false w:=λe he=>by
    rcases h e he with ⟨_,_,g⟩ | g
    ·exact g
    ·rw [h1] at g; cases g
   rw [show Instr.findNow d x (e0::L) 0=none by simp [Instr.findNow,h1]];exact IM _ 0 ask
  ·by_cases hall:∀ e∈e0::L,Instr.sameNow d x e.key=some false
   ·rw [Pz _ 0 hall]; rfl
   ·exfalso
    apply hall;intro e he;rcases h e he with ⟨_,g,_⟩ | g
    ·rw [g] at h1; cases h1
    ·exact g
theorem O7(hd:P.underlying t=some d){j:Nat}{e:MapEntry}(hj:L[j]?=some e)(h1:On P t d w x e.key true)(h2:∀ i' e',i'<j->L[i']?=some e'->On P t d w x e'.key false):(Instr.findKey t x L).run P w=.ok (some (j,e.val)) w:=by
 simp [Instr.findKey,run_underlying hd];rcases h1 with ⟨_,g1,g2⟩ | g1
 ·have hn:Instr.findNow d x L 0=none:=by
   cases L with
   | nil=>simp at hj
   | cons e0 L=>simp [Instr.findNow,g1]
  rw [hn];have:=Ix (P:=P) L 0 j e hj g2 (λi' e' hi he=>by
   rcases h2 i' e' hi he with ⟨_,_,g⟩ | g
   ·exact g
   ·rw [g1] at g; cases g)
  simpa using this
 ·have:=Pu L 0 j e hj g1 (λi' e' hi he=>by
   rcases h2 i' e' hi he with ⟨_,g,_⟩ | g
   ·rw [g] at g1; cases g1
   ·exact g)
  rw [this]; simp
theorem zjB{b:List B}(hid:id<b.length)(es:Lm):dS (b.set id (.mp es)) id=some 0:=by
 grind [dS]
theorem Rel.newMap(R:Rel aa we ωe U O Z a w ω μ)(hid:Z.b[id]?=some .gone) :
  Rel aa we ωe U O (Z.ab id (.mp [])) a (w.alloc (.map #[] 0)) (upd ω w.heap.size (.ax id)) (upd μ id w.heap.size):=by
 have hlt:id<Z.b.length:=(Wam.1 hid).1;have hnew:(w.alloc (.map #[] 0)).heap[w.heap.size]?=some (.map #[] 0):=heap_alloc_new w _;have hwsz:∀ k,ω k≠.no->k<w.heap.size:=λk h=>(R.ow k h).2;have hgs:∀ (l:Loc) Y h,ω Y=.gs l h->upd ω w.heap.size (.ax id) Y=.gs l h/\(w.alloc (.map #[] 0)).heap[Y]?=w.heap[Y]?:=by
  intro l Y h e;have hβ:=hwsz Y (by rw [e]; simp);exact ⟨by grind [dC],heap_alloc_old w _ hβ⟩
 have F:Fr (env U Z w ω μ) (env U (Z.ab id (.mp [])) (w.alloc (.map #[] 0)) (upd ω w.heap.size (.ax id)) (upd μ id w.heap.size)):=by
  refine ⟨λk o u h1 h2=>?_,λid' L hL=>?_⟩
  ·have hk:k<w.heap.size:=World.block_lt_of_cell? w ⟨k,o,none⟩ h2;refine ⟨?_,(World.cell?_alloc_lt w _ ⟨k,o,none⟩ hk).trans h2⟩;show ¬ wr U (upd ω w.heap.size (.ax id)) k o;unfold wr;rw [dC _ _ (by omega)];exact h1
  ·have hL:dS Z.b id'=some L:=hL;have hne:id'≠id:=by grind [dS]
   refine ⟨?_,dC _ _ hne,?_⟩
   ·show dS (Z.b.set id _) id'=some L;unfold dS at hL ⊢;rw [Waw (λe=>hne e.symm)];exact hL
   ·show eR w (μ id')<=eR (w.alloc (.map #[] 0)) (μ id');by_cases hm:μ id'<w.heap.size
    ·unfold eR; rw [heap_alloc_old w _ hm]; exact Wah _
    ·unfold eR; rw [WaE (by omega)]; exact Nat.zero_le _
 refine R.step F rfl (λt j Y h _ e=>hgs _ Y h e) (λid' p' cs' h' hne'=>?_) (λid' cs' h'=>?_) (λid' es' h'=>?_) (Kept.alloc No w _) (λk _ h=>AH h) (λk hk=>?_) (λk=>?_)
 ·by_cases hne:id'=id
  ·subst hne;simp only [St.ab] at h';rw [Wax hlt] at h';cases h'
  ·simp only [St.ab] at h';rw [Waw (λe=>hne e.symm)] at h';obtain ⟨e0,arr',T',e1,_⟩:=R.live h' hne';have hβ:=hwsz (μ id') (by rw [e0]; simp);exact .inl ⟨h',by grind [dC],heap_alloc_old w _ hβ,λj Y h e=>hgs _ Y h e⟩
 ·by_cases hne:id'=id
  ·subst hne;simp only [St.ab] at h';rw [Wax hlt] at h';cases h'
  ·simp only [St.ab] at h';rw [Waw (λe=>hne e.symm)] at h';obtain ⟨e0,arr',T',fr',e1,_⟩:=R.fs id' cs' h';have hβ:μ id'<w.heap.size:=(WaL.1 e1).1;refine .inl ⟨h',λo hw=>e0 o ?_,heap_alloc_old w _ hβ⟩;unfold wr at hw ⊢
   rwa [dC _ _ (by omega)] at hw
 ·by_cases hne:id'=id
  ·subst hne;simp only [St.ab] at h';rw [Wax hlt] at h';cases h';exact .inr ⟨by rw [d7,d7],#[],0,by rw [d7]; exact hnew,rfl,by simp⟩
  ·simp only [St.ab] at h';rw [Waw (λe=>hne e.symm)] at h';obtain ⟨e0,arr',clock',e1,_⟩:=R.ms id' es' h';have hβ:=hwsz (μ id') (by rw [e0]; simp);exact .inl ⟨h',by grind [dC],heap_alloc_old w _ hβ⟩
 ·by_cases hk':k=w.heap.size
  ·subst hk'; exact ⟨.inl R.kp.size,by simp⟩
  ·rw [dC _ _ hk'] at hk;exact ⟨(R.ow k hk).1,by grind⟩
 ·by_cases hm:k<w.heap.size
  ·unfold eR; rw [heap_alloc_old w _ hm]; exact Wah _
  ·unfold eR; rw [WaE (xs:=w.heap) (by omega)]; exact Nat.zero_le _
theorem Rel.writeMap(R:Rel aa we ωe U O Z a w ω μ){es es':Lm}(hid:Z.b[id]?=some (.mp es)){arr':Array MapEntry}{clock':Nat}(hr:MapRep aa w (wr U ω) es' arr') :
  Rel aa we ωe U O (Z.ab id (.mp es')) a { w with heap:=w.heap.setIfInBounds (μ id) (.map arr' clock') } ω μ:=by
 have hlt:id<Z.b.length:=(Wam.1 hid).1;obtain ⟨e0,arr,clock,ha,_⟩:=R.ms id es hid;have hin:μ id<w.heap.size:=(WaL.1 ha).1;generalize hw':({ w with heap:=w.heap.setIfInBounds (μ id) (.map arr' clock') }:World)=w';have hw1:w'.heap[μ id]?=some (.map arr' clock'):=by subst hw'; simp [hin]
 have hw2:∀ k,k≠μ id->w'.heap[k]?=w.heap[k]?:=by grind
 have hk:Kept (λk=>k=μ id) w w':=by subst hw'; exact ⟨rfl,rfl,rfl,by simp,λk _ hn=>by simp [Ne.symm hn]⟩
 have hcell:∀ k o,k≠μ id->w'.cell? ⟨k,o,none⟩=w.cell? ⟨k,o,none⟩:=λk o h=>World.cell?_of_block (hw2 k h);have hwr:∀ o,wr U ω (μ id) o:=λo=>.inr (by rw [e0]; trivial);have hgs:∀ (l:Loc) Y h,ω Y=.gs l h->ω Y=.gs l h/\w'.heap[Y]?=w.heap[Y]?:=by
  grind
 have hrs:∀ k,eR w k<=eR w' k:=by
  grind [eR]
 have F:Fr (env U Z w ω μ) (env U (Z.ab id (.mp es')) w' ω μ):=by
  refine ⟨λk o u h1 h2=>⟨h1,?_⟩,λid' L hL=>⟨?_,rfl,hrs _⟩⟩
  ·have:k≠μ id:=by rintro rfl; exact h1 (hwr o)
   exact (hcell k o this).trans h2
  ·have hL:dS Z.b id'=some L:=hL;show dS (Z.b.set id _) id'=some L;unfold dS at hL ⊢;by_cases hne:id'=id
   ·subst hne;rw [Wax hlt];rw [hid] at hL;simpa using hL
   ·rw [Waw (λe=>hne e.symm)]; exact hL
 refine R.step F rfl (λt j Y h _ e=>hgs _ Y h e) (λid' p' cs'' h' hne'=>?_) (λid' cs'' h'=>?_) (λid' es'' h'=>?_) hk (λk hk1 hk2=>?_) (λk hk1=>?_) hrs
 ·by_cases hne:id'=id
  ·subst hne;simp only [St.ab] at h';rw [Wax hlt] at h';cases h'
  ·simp only [St.ab] at h';rw [Waw (λe=>hne e.symm)] at h';obtain ⟨e1,_⟩:=R.live h' hne';exact .inl ⟨h',e1,hw2 _ (by grind),λj Y h e=>hgs _ Y h e⟩
 ·by_cases hne:id'=id
  ·subst hne;simp only [St.ab] at h';rw [Wax hlt] at h';cases h'
  ·simp only [St.ab] at h';rw [Waw (λe=>hne e.symm)] at h';obtain ⟨e1,_⟩:=R.fs id' cs'' h';exact .inl ⟨h',e1,hw2 _ (by grind)⟩
 ·by_cases hne:id'=id
  ·subst hne;simp only [St.ab] at h';rw [Wax hlt] at h';cases h';exact .inr ⟨e0,arr',clock',hw1,hr.mono F.st⟩
  ·simp only [St.ab] at h';rw [Waw (λe=>hne e.symm)] at h';obtain ⟨e1,_⟩:=R.ms id' es'' h';exact .inl ⟨h',e1,hw2 _ (by grind)⟩
 ·subst hk2;rcases (R.ow (μ id) (by rw [e0]; simp)).1 with h | h
  ·omega
  ·exact h
 ·exact ⟨(R.ow k hk1).1,Nat.lt_of_lt_of_le (R.ow k hk1).2 hk.size⟩
theorem zbA(t:TypeId)(w:World):(Instr.makeMap t none).run P w=.ok (.map (some w.heap.size)) (w.alloc (.map #[] 0)):=rfl
theorem Cv(hb:w.heap[r]?=some (.map es clock)):(getObj r).run P w=.ok (.map es clock) w:=by
 simp [getObj,Sem.run,hb]
theorem TP(o:Obj)(hb:w.heap[r]?=some (.map es clock)):(setObj r o).run P w=.ok () { w with heap:=w.heap.setIfInBounds r o }:=by
 simp [setObj,Sem.run,hb]
theorem za2(R:Rel aa we ωe U O Z a w ω μ)(hop:o.op=.makeMap t none)(h:ck cb nb Z o.dst ah .makeMap=some σ'):StepOk P aa we ωe U O a w o σ' nb μ:=by
 simp [ck] at h;obtain ⟨d,hd,hg,rfl⟩:=o8 h;have hlt:nb+d<Z.b.length:=(Wam.1 hg).1;refine .value (u:=.map (some w.heap.size)) (w':=w.alloc (.map #[] 0)) (by simp [execOp,hop,zbA]) ?_;refine ⟨_,_,(R.newMap hg).put o.dst (λi _=>?_),λk hk=>yG hk⟩;have:=Rep.mp (aa:=aa) (E:=env U (Z.ab (nb+d) (.mp [])) (w.alloc (.map #[] 0)) (upd ω w.heap.size (.ax (nb+d))) (upd μ (nb+d) w.heap.size)) (l:=.slot i 0) (nb+d) 0 (zjB hlt _);simpa [env,d7] using this
theorem Yn{E:En}{l:Loc}{u:Value}(ho:ue kd k=true)(h:Rep aa E l k u):RepP aa E.w E.Wr k u:=by
 unfold ue at ho;split at ho
 ·cases h with | pure h=>exact h
 ·cases h with | pure h=>exact h
 ·cases h with | pure h=>exact h
 ·cases ho
theorem zfa{v:V}(h:Zw P t=some v):∃ i zv,P.info? t=some i/\i.zero=some zv/\RepP aa w Wr v zv:=by
 unfold Zw at h;simp only [Wab,Waa] at h;obtain ⟨z,hz,b,hb,zv,⟨i,hi,hzv⟩,h⟩:=h;obtain ⟨i',zv',hi',hzv',hc⟩:=rg (aa:=aa) (w:=w) (Wr:=Wr) hz;rw [hi] at hi'; cases hi';rw [hzv] at hzv'; cases hzv';have hd:=vG hc;refine ⟨i,zv,hi,hzv,?_⟩;split at h
 ·cases h;have:=hd.agg;simpa [Value.cells] using this
 ·cases h
 ·rename_i hne;cases h;have e:zv.cells=#[zv]:=by cases zv <;> first | rfl | exact absurd rfl (hne _)
  rw [e] at hd;obtain ⟨u,hu,_,hr⟩:=hd.2 0 _ rfl;simp at hu; subst hu; exact hr
 ·cases h
theorem zd7(R:Rel aa we ωe U O Z a w ω μ){kt e:TypeId}{x i:Operand}{ok:Bool}(hop:o.op=.lookup t x i ok)(ht:P.underlying t=some (.map kt e))(hkd:J8 P kt=some kd){zero:V}(hz:Zw P e=some zero){si:Src}{t2:TypeId}(hx:du P aa t1 x=some sx)(hi:du P aa t2 i=some si)
      (h:ck cb nb Z o.dst ah (.a9 kd ok zero sx si)=some σ'):StepOk P aa we ωe U O a w o σ' nb μ:=by
 simp only [ck] at h;split at h
 ·rename_i id hgx;split at h
  ·rename_i es hes;split at h
   ·rename_i hko;simp [Waa] at h;obtain ⟨r,hr,rfl⟩:=h;have rx:=R.opnd hx; rw [hgx] at rx;obtain ⟨L,_,ex⟩:=rx.be;have ri:RepP aa w (wr U ω) (si.get Z) (a.eval i):=Yn hko (R.opnd hi);obtain ⟨_,arr,clock,ha,hm1,hm2⟩:=R.ms id es hes;have ex:a.eval x=.map (some (μ id)):=ex;obtain ⟨d,hd⟩:∃ d,P.underlying kt=some d:=by
     unfold J8 at hkd;simp [Waa] at hkd
     grind
    obtain ⟨iz,zv,hiz,hzv,hzr⟩:=zfa (aa:=aa) (w:=w) (Wr:=wr U ω) hz;have hent:∀ (j:Nat) (e:MapEntry),arr.toList[j]?=some e->∃ k v,es[j]?=some (k,v)/\RepP aa w (wr U ω) k e.key/\RepP aa w (wr U ω) v e.val:=by
     intro j e he;have hj:j<arr.size:=by grind
     have hj':j<es.length:=by omega
     obtain ⟨e',h1,h2,h3⟩:=hm2 j es[j].1 es[j].2 (Wac hj')
     grind
    have key:∃ q:Option (Nat × Value),(Instr.findKey kt (a.eval i) arr.toList).run P w=.ok q w/\(match q with | some (_,v)=>r.isSome=true/\RepP aa w (wr U ω) (r.getD zero) v | none=>r=none):=by
     cases r with
     | none=>
      refine ⟨none,N3 hd (λe he=>?_),rfl⟩;obtain ⟨j,hj⟩:=Wbh.1 he
      grind [GE,Un]
     | some rv=>
      obtain ⟨j,k,g1,g2,g3⟩:=Vm hr;obtain ⟨e,f1,f2,f3⟩:=hm2 j k rv g1;refine ⟨some (j,e.val),O7 hd (by simpa using f1) (GE hkd hd hko ri f2 g2 w).1 (λi' e' hi' he'=>?_),rfl,f3⟩
      grind [GE]
    obtain ⟨q,hq1,hq2⟩:=key;have fin:∃ uv:Value,∃ ub:Bool,(execOp a.eval o).run P w=.ok (.value (if ok then .tuple #[uv,.bool ub] else uv)) w/\RepP aa w (wr U ω) (r.getD zero) uv/\ub=r.isSome:=by
     cases q with
     | none=>
      have hq2:r=none:=hq2;subst hq2;refine ⟨zv,false,?_,hzr,rfl⟩;simp [execOp,hop,ex,Instr.lookup,run_underlying ht,Cv ha,IK hkd hko ri,hq1,zeroValue,typeInfo,hiz,hzv]
     | some p=>
      obtain ⟨j,v⟩:=p;obtain ⟨g1,g2⟩:=hq2;refine ⟨v,true,?_,g2,g1.symm⟩;simp [execOp,hop,ex,Instr.lookup,run_underlying ht,Cv ha,IK hkd hko ri,hq1]
    obtain ⟨uv,ub,f1,f2,f3⟩:=fin;refine .value f1 ⟨ω,μ,R.put _ (λs _=>?_),λ_ _=>rfl⟩;subst f3;cases ok with
    | false=>exact .pure f2
    | true=>
     refine .ae _ [uv,.bool r.isSome] rfl (λj v u hv hu=>?_)
     match j with
     | 0=>simp at hv hu; subst hv; subst hu; exact .pure f2
     | 1=>simp at hv hu; subst hv; subst hu; exact .pure (.sc _ rfl)
     | j+2=>simp at hv
   ·cases h
  ·cases h
 ·cases h
theorem zfx(R:Rel aa we ωe U O Z a w ω μ){kt e:TypeId}{x:Operand}(hop:o.op=.call { callee:=.builtin .len,args:=#[x],argTypes:=#[t] })(ht:P.underlying t=some (.map kt e))(hx:du P aa t1 x=some sx)
      (h:ck cb nb Z o.dst ah (.bC sx)=some σ'):StepOk P aa we ωe U O a w o σ' nb μ:=by
 simp [ck] at h;split at h
 ·rename_i id hgx;split at h
  ·rename_i es hes;cases h;have rx:=R.opnd hx; rw [hgx] at rx;obtain ⟨L,_,ex⟩:=rx.be;have ex:a.eval x=.map (some (μ id)):=ex;obtain ⟨_,arr,clock,ha,hm1,hm2⟩:=R.ms id es hes;refine .value (u:=.int .i64 es.length) (w':=w) ?_ ⟨ω,μ,R.put _ (λs _=>.pure (.sc _ rfl)),λ_ _=>rfl⟩;simp [execOp,hop,resolve,invoke,builtin,Builtin.len_,run_underlying ht,ex,Cv ha,goInt,hm1,Waz]
  ·cases h
 ·cases h
theorem X5(R:Rel aa we ωe U O Z a w ω μ){kt e:TypeId}{x i y:Operand}(hop:o.op=.mapUpdate t x i y∨o.op=.insert t x i y)(ht:P.underlying t=some (.map kt e))(hkd:J8 P kt=some kd){si sy:Src}{t2 t3:TypeId}(hx:du P aa t1 x=some sx)(hi:du P aa t2 i=some si)(hy:du P aa t3 y=some sy)
      (h:ck cb nb Z o.dst ah (.bz kd sx si sy)=some σ'):StepOk P aa we ωe U O a w o σ' nb μ:=by
 simp only [ck] at h;split at h
 ·cases h
 rename_i hdst;have hdst:o.dst=none:=by simpa using hdst
 split at h
 ·rename_i id hgx;split at h
  ·rename_i es hes;split at h
   ·rename_i hko;simp [Waa] at h;obtain ⟨val,hval,es',hset,rfl⟩:=h;have rx:=R.opnd hx; rw [hgx] at rx;obtain ⟨L,_,ex⟩:=rx.be;have ri:RepP aa w (wr U ω) (si.get Z) (a.eval i):=Yn hko (R.opnd hi);have ry:RepP aa w (wr U ω) val (a.eval y):=(R.opnd hy).plain R.hU hval;obtain ⟨_,arr,clock,ha,hm1,hm2⟩:=R.ms id es hes;have ex:a.eval x=.map (some (μ id)):=ex;obtain ⟨d,hd⟩:∃ d,P.underlying kt=some d:=by
     unfold J8 at hkd;simp [Waa] at hkd
     grind
    have hent:∀ (j:Nat) (e:MapEntry),arr.toList[j]?=some e->∃ k v,es[j]?=some (k,v)/\RepP aa w (wr U ω) k e.key/\RepP aa w (wr U ω) v e.val:=by
     intro j e he;have hj:j<arr.size:=by grind
     have hj':j<es.length:=by omega
     obtain ⟨e',h1,h2,h3⟩:=hm2 j es[j].1 es[j].2 (Wac hj')
     grind
    have fin:∃ arr' clock',(execOp a.eval o).run P w=.ok .skip { w with heap:=w.heap.setIfInBounds (μ id) (.map arr' clock') }/\MapRep aa w (wr U ω) es' arr':=by
     rcases YH hset with ⟨g1,rfl⟩ | ⟨j,k,r,g1,g2,g3,rfl⟩
     ·have hq:(Instr.findKey kt (a.eval i) arr.toList).run P w=.ok none w:=N3 hd (λe he=>by
       obtain ⟨j,hj⟩:=Wbh.1 he
       grind [GE])
      refine ⟨arr.push { key:=a.eval i,val:=a.eval y,born:=clock },clock+1,?_,by simp [hm1],λj k v hj=>?_⟩
      ·rcases hop with hop | hop <;> simp [execOp,hop,ex,Instr.mapUpdate,run_underlying ht,Cv ha,IK hkd hko ri,hq,TP _ ha,Waz]
      ·by_cases hlt:j<es.length
       ·rw [Wan hlt] at hj;obtain ⟨e,f1,f2,f3⟩:=hm2 j k v hj;exact ⟨e,by grind,f2,f3⟩
       ·rw [Wal (by omega)] at hj;have hj0:j=es.length:=by
         grind
        subst hj0;simp at hj;obtain ⟨rfl,rfl⟩:=hj;exact ⟨_,by rw [Array.getElem?_push,if_pos hm1.symm],ri,ry⟩
     ·obtain ⟨e,f1,f2,f3⟩:=hm2 j k r g1;have hkc:=GE hkd hd hko ri f2 g2 w;have hq:(Instr.findKey kt (a.eval i) arr.toList).run P w=.ok (some (j,e.val)) w:=O7 hd (by simpa using f1) hkc.1 (λi' e' hi' he'=>by
       grind [GE])
      have hst:(Instr.keyThatStays e.key (a.eval i)).run P w=.ok (a.eval i) w:=by
       simp [Instr.keyThatStays,hkc.2 rfl]
      have hjl:j<es.length:=(Wam.1 g1).1;refine ⟨arr.modify j λe=>{ e with key:=a.eval i,val:=a.eval y },clock,?_,by simp [hm1],λj' k' v' hj'=>?_⟩
      ·rcases hop with hop | hop <;> simp [execOp,hop,ex,Instr.mapUpdate,run_underlying ht,Cv ha,IK hkd hko ri,hq,f1,hst,TP _ ha,Waz]
      ·by_cases hjj:j'=j
       ·subst hjj;rw [Wax hjl] at hj';cases hj';exact ⟨{ e with key:=a.eval i,val:=a.eval y },by grind,ri,ry⟩
       ·rw [Waw (λe=>hjj e.symm)] at hj';obtain ⟨e',q1,q2,q3⟩:=hm2 j' k' v' hj';exact ⟨e',by grind,q2,q3⟩
    obtain ⟨arr',clock',f1,f2⟩:=fin;refine .skip f1 ⟨ω,μ,?_,λ_ _=>rfl⟩;rw [hdst];exact R.writeMap hes f2
   ·cases h
  ·cases h
 ·cases h
end
section
variable {v:V}{o:Oper}{cb:CB}{ah:Bool}{σ':St}
variable {aa:Rn} {we:World} {ωe:Nat->Ow} {U:Nat->Nat->Prop} {O:Nat->Prop} {Z:St} {a:Act} {w:World} {ω:Nat->Ow} {μ:Nat->Nat} {P:Program} {nb:Nat}
theorem Rel.setSlot(R:Rel aa we ωe U O Z a w ω μ)(t:Nat)(h:Rep aa (env U Z w ω μ) (.slot t 0) v (a.tmps.getD t undef)):Rel aa we ωe U O { Z with t:=Z.t.set t v } a w ω μ:=by
 refine ⟨R.df,by simpa using R.tl,λj v' hj=>?_,R.bs,R.fs,R.ms,R.kp,R.ow,R.ul,R.fr,R.rs,R.gv⟩;show Rep aa (env U Z w ω μ) _ _ _;simp only at hj;by_cases hjt:j=t
 ·subst hjt;have hlt:j<Z.t.length:=by grind
  rw [Wax hlt] at hj;cases hj;exact h
 ·rw [Waw (λe=>hjt e.symm)] at hj;exact R.ts j v' hj
theorem Rep.held{E:En}{l:Loc}{u:Value}(h:Rep aa E l v u)(hv:∀ x xs,v≠.ae (x::xs)):(∀ l',Rep aa E l' v u)∨(∃ Y h,E.ω Y=.gs l h/\∀ (E':En) (l':Loc),Fr E E'->E'.ω Y=.gs l' h->E'.w.heap[Y]?=E.w.heap[Y]?->Rep aa E' l' v u):=by
 cases h with
 | pure h=>exact .inl λ_=>.pure h
 | gs sz es Y c arr T f hω hb hc hn hsz hcell h1 h=>
  exact .inr ⟨Y,_,hω,λE' l' F g1 g2=>.gs sz es Y c arr T f g1 (by rw [g2]; exact hb) hc hn hsz hcell h1 (λi v hv=>(h i v hv).mono F.st)⟩
 | fr sz es Y c arr T f hω hb hc hn hsz hcell h1 h=>
  exact .inr ⟨Y,_,hω,λE' l' F g1 g2=>.fr sz es Y c arr T f g1 (by rw [g2]; exact hb) hc hn hsz hcell h1 (λi v hv=>(h i v hv).mono F.st)⟩
 | aU sz A=>exact .inl λ_=>.aU sz A
 | ub b=>exact .inl λ_=>.ub b
 | mp id L hL=>exact .inl λ_=>.mp id L hL
 | bx p cs Y arr T f hω hb hn hcell h1 h=>
  exact .inr ⟨Y,_,hω,λE' l' F g1 g2=>.bx p cs Y arr T f g1 (by rw [g2]; exact hb) hn hcell h1 (λi v hv=>(h i v hv).mono F.st)⟩
 | own id off len sz c L A hL hl hc hA=>exact .inl λ_=>.own id off len sz c L A hL hl hc hA
 | cut id off len cap sz c L A hL hl hc hA=>exact .inl λ_=>.cut id off len cap sz c L A hL hl hc hA
 | ptr id off L hL=>exact .inl λ_=>.ptr id off L hL
 | fp n cs k o f hl hcell h1 h=>exact .inl λ_=>.fp n cs k o f hl hcell h1 h
 | fn f g caps us hr hl h=>exact .inl λ_=>.fn f g caps us hr hl h
 | ae vs us hl h=>
  cases vs with
  | nil=>
   cases us with
   | nil=>exact .inl λ_=>.ae [] [] rfl (by simp)
   | cons x xs=>simp at hl
  | cons x xs=>exact absurd rfl (hv x xs)
 | st cs us hl h h1=>exact .inl λ_=>.st cs us hl h h1
 | af=>exact .inl λ_=>.af
theorem zaj(R:Rel aa we ωe U O Z a w ω μ){x:Operand}{i:Nat}(hop:o.op=.extract x i){s:Src}{t1:TypeId}(hs:du P aa t1 x=some s)(h:ck cb nb Z o.dst ah (.extract s i)=some σ'):StepOk P aa we ωe U O a w o σ' nb μ:=by
 simp only [ck] at h;split at h
 ·rename_i vs hg;split at h
  ·rename_i v t hvi;split at h
   ·rename_i hall;have hx:a.eval x=a.tmps.getD t undef:=(R.opndC hs).1 t rfl;have hr:=R.opnd hs;rw [hg] at hr;have hr:Rep aa (env U Z w ω μ) (.slot t 0) (.ae vs) (a.eval x):=hr;obtain ⟨us,eu,hl,hel⟩:=hr.tup_inv;have hlt:i<vs.length:=(Wam.1 hvi).1;have hui:us[i]?=some us[i]:=Wac (by omega);have hnt:∀ (j:Nat) (v:V),vs[j]?=some v->∀ x xs,v≠.ae (x::xs):=by
     intro j v hj x xs e;have:=List.all_eq_true.1 hall.1 v (List.mem_of_getElem? hj);subst e;simp [Kt] at this
    refine .value (u:=us[i]) (w':=w) (by simp [execOp,hop,eu,Instr.extract,hui]) ?_;have R1:Rel aa we ωe U O { Z with t:=Z.t.set t (.ae (vs.set i .af)) } a w ω μ:=by
     refine R.setSlot t ?_;rw [<- hx,eu];refine .ae _ us (by simp [hl]) (λj v' u' hj hu=>?_);by_cases hji:j=i
     ·subst hji;rw [Wax hlt] at hj; cases hj; exact .af
     ·grind
    have hT:({ Z with t:=Z.t.set t (.ae (vs.set i .af)) }:St).t.length<=Z.t.length:=by simp
    split at h
    case isFalse=>
     split at h
     ·cases h
     ·cases h;exact ⟨ω,μ,R.put _ (λj _=>(hel i v us[i] hvi hui).ag R.hU _),λ_ _=>rfl⟩
    rcases (hel i v us[i] hvi hui).held (hnt i v hvi) with hlight | ⟨Y,hh,hβ,hmk⟩
    ·exact R1.au hT (hlight (.slot Z.t.length 0)) h
    ·have hβ:ω Y=.gs (.slot t (i+1)) hh:=hβ;have F:=wY U Z w μ hβ (.slot Z.t.length 0);have R2:=R1.relabel (l:=.slot t (i+1)) hβ (.slot Z.t.length 0) (λt' v' hj hlh=>by
      cases hlh;simp only at hj;have hlt':t<Z.t.length:=by grind
      rw [Wax hlt'] at hj;cases hj;rw [<- hx,eu];refine .ae _ us (by simp [hl]) (λj v' u' hj hu=>?_);by_cases hji:j=i
      ·subst hji;rw [Wax hlt] at hj; cases hj; exact .af
      ·rw [Waw (λe=>hji e.symm)] at hj;refine (hel j v' u' hj hu).bJ F (hnt j v' hj) (λβ2 h2 e2=>⟨?_,rfl⟩);have e2:ω β2=.gs (.slot t (j+1)) h2:=e2;show upd ω Y _ β2=_;rw [dC]
       ·exact e2
       ·rintro rfl
        rw [hβ] at e2; cases e2;exact hji rfl) (λid j p cs v hb hc hl=>by cases hl)
     exact R2.au hT (hmk _ _ F (d7 _ _ _) rfl) h
   ·cases h
  ·cases h
 ·cases h
theorem YA(R:Rel aa we ωe U O Z a w ω μ)(hop:o.op=.move (.const (.slice none 0 0))∨o.op=.assign (.const (.slice none 0 0))){sz k:Nat}(h:ck cb nb Z o.dst ah (.bE sz k)=some σ'):StepOk P aa we ωe U O a w o σ' nb μ:=by
 have run:(execOp a.eval o).run P w=.ok (.value (.slice none 0 0)) w:=by
  rcases hop with e | e <;> simp [execOp,e,Act.eval]
 refine .value run ?_;simp [ck] at h;split at h
 ·rename_i hg;cases h;have hlt:nb+k<Z.b.length:=(Wam.1 hg).1;have hne:∀ id L,dS Z.b id=some L->id≠nb+k:=by grind [dS]
  have F:Fr (env U Z w ω μ) (env U (Z.ab (nb+k) (.live true [])) w ω μ):=by
   refine ⟨λk o u h1 h2=>⟨h1,h2⟩,λid L hL=>⟨?_,rfl,Wah _⟩⟩;have hL:dS Z.b id=some L:=hL;show dS (Z.b.set (nb+k) _) id=some L
   grind [dS]
  have R':Rel aa we ωe U O (Z.ab (nb+k) (.live true [])) a w ω μ:=by
   refine R.step F rfl (λt j Y h _ e=>⟨e,rfl⟩) (λid p cs h' hn=>?_) (λid cs h'=>?_) (λid es h'=>?_) (Kept.refl No w) (λk _ h=>AH h) R.ow (λk=>Wah _)
   ·by_cases he:id=nb+k
    ·subst he;simp only [St.ab] at h';rw [Wax hlt] at h';cases h'; exact absurd rfl hn
    ·simp only [St.ab] at h';rw [Waw (λe=>he e.symm)] at h';exact .inl ⟨h',(R.live h' hn).1,rfl,λj Y h e=>⟨e,rfl⟩⟩
   ·by_cases he:id=nb+k
    ·subst he;simp only [St.ab] at h';rw [Wax hlt] at h';cases h'
    ·simp only [St.ab] at h';rw [Waw (λe=>he e.symm)] at h';exact .inl ⟨h',(R.fs id cs h').1,rfl⟩
   ·by_cases he:id=nb+k
    ·subst he;simp only [St.ab] at h';rw [Wax hlt] at h';cases h'
    ·simp only [St.ab] at h';rw [Waw (λe=>he e.symm)] at h';exact .inl ⟨h',(R.ms id es h').1,rfl⟩
  refine ⟨ω,μ,R'.put o.dst (λi _=>?_),λ_ _=>rfl⟩;refine .own (nb+k) 0 0 sz 0 0 none ?_ (by simp) ⟨Wah _,λ_=>.inr rfl⟩ (.inr ⟨rfl,rfl⟩);show dS (Z.b.set (nb+k) _) (nb+k)=some 0;unfold dS;rw [Wax hlt];rfl
 ·cases h
theorem zhH(R:Rel aa we ωe U O Z a w ω μ){take:Bool}{xs:List Nat}{k:K}(hk:cK P aa o take xs=some k)(h:ck cb nb Z o.dst ah k=some σ')(hc1:∀ f xs ys,k≠.call f xs ys)(hc2:∀ f xs ys,k≠.aQ f xs ys):StepOk P aa we ωe U O a w o σ' nb μ:=by
 have pure:(cJ Z k).map (λv=>Z.put o.dst v)=some σ'->StepOk P aa we ωe U O a w o σ' nb μ:=by
  intro hp;simp at hp;obtain ⟨v,hv,rfl⟩:=hp;exact .bK R (zje R hk hv)
 have hk0:=hk;unfold cK at hk;split at hk <;> (try simp only [Wab,Waa,Waf] at hk)
 ·rename_i hop;rcases Ec _ _ hk with ⟨sz,k',rfl,rfl⟩ | ⟨s,hs,rfl⟩ | ⟨s,hs,rfl⟩ | ⟨s,hs,rfl⟩ | ⟨s,p,sz,hs,hsz,rfl⟩ | ⟨sz,rfl,rfl⟩
  ·grind [YA]
  ·grind [Oq]
  ·grind [V6]
  ·exact pure h
  ·grind [X0]
  ·grind [X6]
 ·rename_i hop;rcases Ec _ _ hk with ⟨sz,k',rfl,rfl⟩ | ⟨s,hs,rfl⟩ | ⟨s,hs,rfl⟩ | ⟨s,hs,rfl⟩ | ⟨s,p,sz,hs,hsz,rfl⟩ | ⟨sz,rfl,rfl⟩
  ·grind [YA]
  ·exact Oq R (.inr hop) hs h
  ·exact V6 R (.inr hop) hs h
  ·exact pure h
  ·exact X0 R (.inr hop) hs h
  ·grind [X6]
 ·obtain ⟨s1,h1,s2,h2,s3,h3,rfl⟩:=hk; exact pure h
 ·grind [zdq]
 ·grind [zhi]
 ·obtain ⟨z,_,d,_,hk⟩:=hk;split at hk <;> (try simp only [Waa,Waf] at hk)
  ·obtain ⟨_,_,_,_,rfl⟩:=hk; cases take <;> exact pure h
  ·obtain ⟨_,_,_,_,rfl⟩:=hk; cases take <;> exact pure h
  ·cases hk
 ·rename_i hop;obtain ⟨d,hd,hk⟩:=hk;split at hk <;> (try simp only [Waa] at hk)
  ·obtain ⟨z,hz,sz,hsz,hk⟩:=hk;split at hk
   ·rename_i hcond;simp [Waa] at hk; grind [UZ]
   ·cases hk
  ·cases hk
 ·rename_i hop;rcases Ny _ _ hk with ⟨b,n,s,hb,hn,hs,rfl⟩ | ⟨sz,s,hpos,h1,h2,hs,rfl⟩ | ⟨n,s,h1,h2,hs,rfl⟩
  ·grind [zeI]
  ·grind [zeV]
  ·grind [zdg]
 ·rename_i hop; obtain ⟨n,hn,s,hs,s2,hs2,rfl⟩:=hk;cases xs with
  | nil=>exact zez R hop hn hs hs2 h
  | cons _ _=>exact zbE R hop hn hs hs2 h
 ·obtain ⟨s1,h1,rfl⟩:=hk; exact pure h
 ·obtain ⟨d,hd,hk⟩:=hk;split at hk <;> (try simp only [Waa,Waf] at hk)
  ·obtain ⟨s1,h1,s2,h2,rfl⟩:=hk; exact pure h
  ·obtain ⟨s1,h1,s2,h2,rfl⟩:=hk; exact pure h
  ·split at hk
   ·split at hk
    ·simp [Waa] at hk;obtain ⟨s1,h1,rfl⟩:=hk; exact pure h
    ·cases hk
   ·cases hk
  ·split at hk
   ·simp [Waa] at hk;obtain ⟨s1,h1,s2,h2,rfl⟩:=hk; exact pure h
   ·cases hk
  ·split at hk
   ·simp [Waa] at hk;obtain ⟨s1,h1,s2,h2,rfl⟩:=hk; exact pure h
   ·cases hk
  ·split at hk
   ·simp [Waa] at hk;obtain ⟨s1,h1,s2,h2,rfl⟩:=hk; exact pure h
   ·cases hk
  ·cases hk
 ·obtain ⟨s1,h1,rfl⟩:=hk; exact pure h
 ·rename_i hop;obtain ⟨d1,hd1,d2,hd2,hk⟩:=hk;split at hk <;> (try simp only [Waa,Waf] at hk)
  ·obtain ⟨s1,h1,rfl⟩:=hk; exact pure h
  ·obtain ⟨d3,hd3,hk⟩:=hk;split at hk
   ·simp [Waa] at hk;obtain ⟨s1,h1,rfl⟩:=hk; exact pure h
   ·cases hk
  ·obtain ⟨d3,hd3,hk⟩:=hk;split at hk
   ·simp [Waa] at hk
    grind [zdM]
   ·cases hk
  ·cases hk
 ·split at hk
  ·split at hk
   ·simp [Waa] at hk;obtain ⟨g,hg,ss,hs,rfl⟩:=hk; exact pure h
   ·cases hk
  ·cases hk
 ·rename_i hop;obtain ⟨d,hd,hk⟩:=hk;split at hk <;> (try simp only [Waa] at hk)
  ·obtain ⟨z,hz,sz,hsz,i,hi,hk⟩:=hk;split at hk
   ·rename_i hcond;simp [Waa] at hk; grind [WB]
   ·cases hk
  ·cases hk
 ·split at hk
  ·cases hk
  ·simp only [Waa] at hk;obtain ⟨d,hd,hk⟩:=hk;split at hk <;> (try simp only [Waa] at hk)
   ·obtain ⟨sz,hsz,hk⟩:=hk;split at hk
    ·simp [Waa] at hk;obtain ⟨s0,h0,s1,h1,s2,h2,s3,h3,rfl⟩:=hk; exact pure h
    ·cases hk
   ·obtain ⟨sz,hsz,hk⟩:=hk;split at hk
    ·split at hk
     ·simp [Waa] at hk;obtain ⟨s0,h0,s2,h2,rfl⟩:=hk; exact pure h
     ·cases hk
    ·split at hk
     ·split at hk
      ·simp [Waa] at hk;obtain ⟨s0,h0,s2,h2,s3,h3,rfl⟩:=hk; exact pure h
      ·cases hk
     ·split at hk
      ·simp [Waa] at hk;obtain ⟨s0,h0,s1,h1,s2,h2,s3,h3,rfl⟩:=hk; exact pure h
      ·cases hk
   ·cases hk
 ·obtain ⟨d,hd,hk⟩:=hk;split at hk <;> (try simp only [Waa] at hk)
  ·obtain ⟨f,hf,n,hn,hk⟩:=hk;split at hk
   ·cases hk
   ·simp [Waa] at hk;obtain ⟨s1,h1,rfl⟩:=hk; exact pure h
  ·cases hk
 ·obtain ⟨d,hd,hk⟩:=hk;split at hk <;> (try simp only [Waa,Waf] at hk)
  ·obtain ⟨f,hf,b,hb,n,hn,s1,h1,rfl⟩:=hk; exact pure h
  ·cases hk
 ·obtain ⟨d,hd,hk⟩:=hk;split at hk <;> (try simp only [Waa,Waf] at hk)
  ·obtain ⟨n,hn,s1,h1,s2,h2,rfl⟩:=hk; exact pure h
  ·obtain ⟨sz,hsz,hk⟩:=hk;split at hk
   ·simp [Waa] at hk;obtain ⟨s1,h1,s2,h2,rfl⟩:=hk; exact pure h
   ·cases hk
  ·cases hk
 ·obtain ⟨d,hd,hk⟩:=hk;split at hk <;> (try simp only [Waa,Waf] at hk)
  ·obtain ⟨b,hb,n,hn,s1,h1,s2,h2,rfl⟩:=hk; exact pure h
  ·cases hk
 ·obtain ⟨d,hd,hk⟩:=hk;split at hk <;> (try simp only [Waa] at hk)
  ·obtain ⟨sz,hsz,hk⟩:=hk;split at hk
   ·simp [Waa] at hk;obtain ⟨s1,h1,rfl⟩:=hk; exact pure h
   ·cases hk
  ·cases hk
 ·rename_i hop;split at hk
  ·rename_i hr;cases hk;rename_i t r;have hr:r=none:=by simpa using hr
   subst hr;exact za2 R hop h
  ·cases hk
 ·rename_i hop;obtain ⟨d,hd,hk⟩:=hk;split at hk <;> (try simp only [Waa,Waf] at hk)
  ·obtain ⟨kd,hkd,z,hz,s1,h1,s2,h2,rfl⟩:=hk; exact zd7 R hop hd hkd hz h1 h2 h
  ·cases hk
 ·rename_i hop;obtain ⟨d,hd,hk⟩:=hk;split at hk <;> (try simp only [Waa,Waf] at hk)
  ·obtain ⟨kd,hkd,s1,h1,s2,h2,s3,h3,rfl⟩:=hk; exact X5 R (.inl hop) hd hkd h1 h2 h3 h
  ·cases hk
 ·rename_i hop;obtain ⟨d,hd,hk⟩:=hk;split at hk <;> (try simp only [Waa,Waf] at hk)
  ·obtain ⟨kd,hkd,s1,h1,s2,h2,s3,h3,rfl⟩:=hk; exact X5 R (.inr hop) hd hkd h1 h2 h3 h
  ·cases hk
 ·rename_i hop; obtain ⟨s,hs,rfl⟩:=hk;cases take with
  | true=>exact zaj R hop hs h
  | false=>exact pure h
 ·rename_i c hop;obtain ⟨callee,args,ats⟩:=c;simp only at hk;split at hk <;> (try simp only [Wab,Waa,Waf] at hk)
  ·split at hk
   ·split at hk
    ·simp only [Wab,Waa,Waf] at hk;obtain ⟨s1,h1,s2,h2,rfl⟩:=hk; exact pure h
    ·cases hk
   ·split at hk
    ·split at hk
     ·simp only [Wab,Waa,Waf] at hk;obtain ⟨s0,h0,s1,h1,s2,h2,s3,h3,rfl⟩:=hk; exact pure h
     ·cases hk
    ·simp only [Wab,Waa,Waf] at hk;obtain ⟨_,_,_,_,rfl⟩:=hk; exact absurd rfl (hc1 _ _ _)
  ·obtain ⟨_,_,rfl⟩:=hk; exact absurd rfl (hc2 _ _ _)
  ·obtain ⟨k0,hk,rfl⟩:=hk;cases xs
   all_goals
    unfold HA at hk;split at hk <;> (try simp only [Wab,Waa,Waf] at hk)
    ·obtain ⟨d,hd,hk⟩:=hk;split at hk <;> (try simp only [Waa,Waf] at hk)
     ·obtain ⟨s1,h1,rfl⟩:=hk; exact pure h
     ·obtain ⟨s1,h1,rfl⟩:=hk; exact pure h
     ·subst hk; exact pure h
     ·rename_i e1 e2 _ _ _;obtain rfl:=jU e1;obtain rfl:=jU e2;obtain ⟨s1,h1,rfl⟩:=hk; exact zfx R hop hd h1 h
     ·cases hk
    ·rename_i e1 e2;obtain rfl:=jU e1;obtain rfl:=jU e2;obtain ⟨d1,hd1,d2,hd2,hk⟩:=hk;split at hk <;> (try simp only [Waa] at hk)
     ·obtain ⟨sz,hsz,i,hi,z,hz,hk⟩:=hk;split at hk
      ·rename_i hcond;obtain ⟨q1,q2,q3⟩:=hcond;subst q3;simp only [Waa,Waf] at hk; obtain ⟨_,h1,_,h2,rfl⟩:=hk
       first | exact zbD R hop hd1 hsz hi hz q1 q2 h1 h2 h | exact zaI R hop hd1 hsz hi hz q1 q2 h1 h2 h
      ·cases hk
     ·obtain ⟨sz,hsz,i,hi,z,hz,hk⟩:=hk;split at hk
      ·rename_i hcond;simp only [Waa,Waf] at hk; obtain ⟨_,h1,_,h2,rfl⟩:=hk;exact Z1 R hop hd1 hd2 hsz hi hz hcond.1 hcond.2 h1 h2 h
      ·cases hk
     ·cases hk
    ·rename_i e1 e2;obtain rfl:=jU e1;obtain rfl:=jU e2;obtain ⟨d1,hd1,d2,hd2,hk⟩:=hk;split at hk <;> (try simp only [Waa] at hk)
     ·obtain ⟨sz,hsz,hk⟩:=hk;split at hk
      ·simp only [Waa,Waf] at hk; obtain ⟨_,h1,_,h2,rfl⟩:=hk;exact zfj R hop hd1 hsz (by assumption) h1 h2 h
      ·cases hk
     ·cases hk
    ·rename_i e1 e2;obtain rfl:=jU e1;obtain rfl:=jU e2;obtain ⟨d1,hd1,hk⟩:=hk;split at hk <;> (try simp only [Waa] at hk)
     ·obtain ⟨sz,hsz,z,hz,hk⟩:=hk;split at hk
      ·rename_i hcond;simp only [Waa,Waf] at hk; obtain ⟨_,h1,rfl⟩:=hk;exact zdr R hop hd1 hsz hcond.1 hz hcond.2 h1 h
      ·cases hk
     ·cases hk
    ·obtain ⟨s1,h1,s2,h2,rfl⟩:=hk; exact pure h
    ·obtain ⟨s1,h1,s2,h2,rfl⟩:=hk; exact pure h
    ·cases hk
  ·cases hk
 ·cases hk
end
end Go.Proofs.YtipklgbboecciaaGreat
