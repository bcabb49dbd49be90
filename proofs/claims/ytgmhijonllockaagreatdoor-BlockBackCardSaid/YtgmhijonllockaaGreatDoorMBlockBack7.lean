/- Part 7 of the proof of BlockBack: an abstract machine over plain values, its soundness, and the functions of the program on plain values. -/
import Derived.Test.YtgmhijonllockaaGreatDoorMBlockBack6
namespace Go.Proofs.YtgmhijonllockaaGreatDoor
set_option maxRecDepth 100000
set_option linter.unusedVariables false
set_option linter.unusedSimpArgs false
open Bool renaming false_eq_true->WP,and_eq_true->Wh,or_eq_true->Xb,not_eq_true'->Xc,not_true->Xh,false_and->Xk,eq_iff_iff->Xo
open List renaming mem_append->QD,getElem?_set_ne->WE,all_eq_true->QO,getElem?_eq_some_iff->Wi,getElem?_eq_none->Q3,getElem?_set_self->WF,getElem?_set->Xa,ext_getElem?->Xd,contains_iff_mem->Xe,mem_flatMap->Q0,getElem?_eq_getElem->Wc,getD_eq_getElem?_getD->Ws,mem_filterMap->QP,mem_append_left->Xf,isEmpty_iff->Xg,getElem_mem->W2,getElem?_modify->WN,filterMap_cons->Xi,filter_eq_self->Xj,flatMap_eq_nil_iff->Xm,length_set->QI,mem_append_right->Q7,mem_range->Xp,getElem?_of_mem->Xq,mem_of_mem_take->WV,pairwise_append->Xr,set_comm->Xs,getElem?_take->Wn,getElem?_drop->Wp,length_modify->Xt,pairwise_cons->Xu,map->Xv,range->Wy
open Option renaming bind_eq_some_iff->Wa,bind_eq_bind->Wb,map_eq_some_iff->Wj,bind_some->QT,getD_some->Xl
open _root_.Array renaming getD_eq_getD_getElem?->QQ,getElem?_eq_getElem->QS,getElem?_eq_some_iff->QA,getElem?_eq_none->WT,foldl_toList->WA
open Option.some renaming injEq->Wg
open Nat renaming eq_of_beq_eq_true->Wd,lt_or_ge->Xn
section
variable {cb:CB} {nb:Nat} {σ σ' σ1:St}
def Wo(o:COp):List Nat:=Wk o.k o.dst
theorem zaJ{g:Option (Nat × Bool)}(h:∀ j w,g=some (j,w)→σ'.t[j]?=σ.t[j]?):y8 σ' g=y8 σ g:=by
 cases g with
 | none=>rfl
 | some jw=>obtain ⟨j,w⟩:=jw; simp only [y8,h j w rfl]
theorem za8{o:COp}{j:Nat}{w:Bool}(h:o.guard=some (j,w)):j∈yJ o:=by simp [yJ,h]
theorem zdN{o:COp}{j:Nat}(h:j∈yu o.k):j∈yJ o:=by simp [yJ,h]
theorem xP(o:COp)(hl:σ'.t.length=σ.t.length)(hb:σ'.b=σ.b)(hr:∀ t∈yJ o,σ'.t[t]?=σ.t[t]?)(h:yk cb nb σ o=some σ1) :
  ∃ σ1',yk cb nb σ' o=some σ1'∧Over (Wo o) σ σ1 σ' σ1':=by
 unfold yk at h ⊢
 rw [zaJ (fun j w hg=>hr j (za8 hg))]
 split at h
 ·exact zQo o.k hl hb (fun t ht=>hr t (zdN ht)) h
 ·cases h
  exact ⟨_,rfl,zbD _ hl hb yA (fun i hi hd=>hr i (zdN (zFw (ziF hi hd))))⟩
 ·cases h
def pv(σ:St)(pin:Bool):K→Option V
 | .move x _=>if pin then none else some (x.get σ).dem
 | k=>zk σ k
theorem zH9{k:K}(hp:zz k=true)(σ:St)(d:Option Nat)(pin:Bool):zd cb nb σ d pin k=(pv σ pin k).map (fun v=>σ.put d v):=by
 cases k <;> simp [zz] at hp <;> first | rfl | (subst hp; cases pin <;> rfl)
theorem zTw{k:K}(hp:zz k=true)(pin:Bool)(hr:∀ t∈yu k,σ'.t[t]?=σ.t[t]?):pv σ' pin k=pv σ pin k:=by
 cases k with
 | move x take=>simp only [pv,yh (s:=x) hr]
 | _=>exact zFr _ hr (.inr hp)
theorem zrE(o:COp)(hp:zz o.k=true)(hr:∀ t∈yJ o,σ'.t[t]?=σ.t[t]?)(h:yk cb nb σ o=some σ1):∃ v,σ1=σ.put o.dst v∧yk cb nb σ' o=some (σ'.put o.dst v):=by
 unfold yk at h ⊢
 rw [zaJ (fun j w hg=>hr j (za8 hg))]
 split at h
 ·rw [zH9 hp] at h ⊢
  rw [zTw hp _ (fun t ht=>hr t (zdN ht))]
  rw [Wj] at h
  obtain ⟨v,h1,rfl⟩:=h
  exact ⟨v,rfl,by rw [h1]; rfl⟩
 ·cases h; exact ⟨_,rfl,rfl⟩
 ·cases h
theorem zxQ{k:K}(h:zz k=true):y9 k=[]:=by
 cases k <;> simp [zz] at h <;> first | rfl | (subst h; rfl)
theorem zIF{σ σ1:St}{d:Option Nat}{v:V}(h:σ.putR nb d false v=some σ1)(hv:∀ p cs,v≠.bx p cs):σ1.b=σ.b:=by
 cases v with
 | bx p cs=>exact absurd rfl (hv p cs)
 | fr sz es=>simp only [St.putR,St.putG,Xk,WP,if_false] at h; cases h; exact xN _ _ _
 | gs sz es=>simp only [St.putR] at h; cases h; exact xN _ _ _
 | _=>simp only [St.putR] at h; cases h; exact xN _ _ _
theorem zs1{σ:St}:∀ (ss:List (Src × Nat)) (b:List B),(∀ s∈ss,∀ id,zag (s.1.get σ)=some id→xV b id=b)→zo σ ss b=b
 | [],b,h=>rfl
 | s::ss,b,h=>by
  have ih:=zs1 ss b (fun s' hs'=>h s' (by simp [hs']))
  unfold zo
  split
  ·exact ih
  ·cases ho:zag (s.1.get σ) with
   | none=>exact ih
   | some id=>simp only [h s (by simp) id ho]; exact ih
theorem zS6{b:List B}{id:Nat}(h:zUs b[id]?=true):xV b id=b:=by
 unfold xV
 cases hb:b[id]? with
 | none=>rfl
 | some x=>
  cases x with
  | fz cs=>rfl
  | gone=>rfl
  | live p cs=>rw [hb] at h; simp [zUs] at h
  | mp es=>rfl
  | dead n=>rfl
theorem zFk(b:List B)(n:Nat)(acc:List Nat):ze3 b n [] acc=acc:=by cases n <;> rfl
theorem zKR{s:Src × Nat}(hm:s.2<2):zuk s=none:=by
 unfold zuk
 split
 ·rw [if_neg (by omega)]
 ·rfl
theorem zFA{σ:St}{s:Src × Nat}(hm:s.2<2)(h:ziK σ.b (s.1.get σ)=true){v:V}(hv:zbo σ s=some v):yE v=[]:=by
 have hl:zpt s.2 (s.1.get σ)=none:=by unfold zpt; rw [if_neg (by omega)]
 rw [zbo,zKR hm] at hv
 simp only [zyo,hl] at hv
 cases hx:s.1.get σ with
 | own id off len sz=>
  rw [hx] at hv
  simp only [za0] at hv
  cases hc:((σ.b[id]?).getD .gone).cs? with
  | none=>rw [hc] at hv; cases hv
  | some cs=>rw [hc] at hv; cases hv; rfl
 | ptr id off=>rw [hx] at h; simp [ziK] at h
 | st cs=>rw [hx] at h; simp [ziK] at h
 | mp id=>rw [hx] at h; simp [ziK] at h
 | fn f caps=>
  rw [hx] at h hv
  simp only [ziK,Xg] at h
  subst h
  simp [za0] at hv
  subst hv; rfl
 | _=>
  rw [hx] at hv
  simp only [za0] at hv
  first
   | (cases hv; rfl)
   | (simp [V.plain] at hv; subst hv; rfl)
   | (simp [V.plain] at hv)
theorem zFL{dst:Option Nat}{agg:Bool}{n:Nat}{a:Src}{take pin:Bool}(hl:(agg||!take)=true)(hg:a.get σ'=a.get σ)(hb:∀ id off,a.get σ=.ptr id off→σ'.b[id]?=σ.b[id]?)(h:zd cb nb σ dst pin (.load agg n a take)=some σ1):∃ v,σ1=σ.put dst v∧zd cb nb σ' dst pin (.load agg n a take)=some (σ'.put dst v):=by
 simp only [zd,hg] at h ⊢
 cases hx:a.get σ with
 | ptr id off=>
  rw [hx] at h
  have hb:=hb id off hx
  simp only [hb]
  simp only at h
  cases hbb:σ.b[id]? with
  | none=>rw [hbb] at h; cases h
  | some x=>
   rw [hbb] at h
   cases x with
   | live p cs=>
    simp only at h ⊢
    cases agg with
    | true=>
     simp only [if_true] at h ⊢
     split at h
     ·rename_i hle
      simp only [hle,if_true]
      cases p with
      | true=>simp only [if_true] at h ⊢; cases h; exact ⟨_,rfl,rfl⟩
      | false=>
       cases take with
       | true=>
        simp only [WP,if_false,if_true,Wb,Wa,Wg] at h ⊢
        obtain ⟨vs,h1,rfl⟩:=h
        exact ⟨_,rfl,⟨vs,h1,rfl⟩⟩
       | false=>
        simp only [WP,if_false,Wb,Wa,Wg] at h ⊢
        obtain ⟨vs,h1,rfl⟩:=h
        exact ⟨_,rfl,⟨vs,h1,rfl⟩⟩
     ·cases h
    | false=>
     have ht:take=false:=by simpa using hl
     subst ht
     simp only [WP,if_false] at h ⊢
     cases hv:cs[off]? with
     | none=>rw [hv] at h; cases h
     | some v=>rw [hv] at h; simp only at h ⊢; cases h; exact ⟨_,rfl,rfl⟩
   | fz cs=>
    simp only at h ⊢
    cases agg with
    | true=>
     simp only [if_true] at h ⊢
     split at h
     ·rename_i hle
      simp only [hle,if_true]
      cases h; exact ⟨_,rfl,rfl⟩
     ·cases h
    | false=>
     simp only [WP,if_false] at h ⊢
     cases hv:cs[off]? with
     | none=>rw [hv] at h; cases h
     | some v=>rw [hv] at h; simp only at h ⊢; cases h; exact ⟨_,rfl,rfl⟩
   | _=>cases h
 | fp m cs=>
  rw [hx] at h
  simp only at h ⊢
  cases agg with
  | true=>
   simp only [if_true] at h ⊢
   split at h
   ·rename_i hle
    simp only [hle,if_true]
    cases h; exact ⟨_,rfl,rfl⟩
   ·cases h
  | false=>
   simp only [WP,if_false] at h ⊢
   cases hv:cs[0]? with
   | none=>rw [hv] at h; cases h
   | some v=>rw [hv] at h; simp only at h ⊢; cases h; exact ⟨_,rfl,rfl⟩
 | _=>rw [hx] at h; cases h
theorem zTO{dst:Option Nat}{agg:Bool}{n:Nat}{a:Src}{take pin:Bool}(hl:(agg||!take)=true)(h:zd cb nb σ dst pin (.load agg n a take)=some σ1):∃ v,σ1=σ.put dst v:=by
 obtain ⟨v,h,_⟩:=zFL (σ':=σ) hl rfl (fun _ _ _=>rfl) h
 exact ⟨v,h⟩
theorem zJ7{o:COp}(h:yk cb nb σ o=some σ1)(hq:zcq σ o σ1=true):σ1.b=σ.b:=by
 unfold yk at h
 unfold zcq at hq
 cases hg:y8 σ o.guard with
 | none=>rw [hg] at h; cases h
 | some g=>
  rw [hg] at h hq
  cases g with
  | false=>simp only at h; cases h; exact xN _ _ _
  | true=>
   simp only at h hq
   have sp:zz o.k=true→σ1.b=σ.b:=by
    intro hp
    rw [zH9 hp,Wj] at h
    obtain ⟨v,_,rfl⟩:=h
    exact xN _ _ _
   cases hk:o.k with
   | load agg n x take=>
    rw [hk] at h hq
    obtain ⟨v,rfl⟩:=zTO hq h
    exact xN _ _ _
   | toStr x=>
    rw [hk] at h
    simp only [zd,Wj] at h
    obtain ⟨v,_,rfl⟩:=h
    exact xN _ _ _
   | loadS n x=>
    rw [hk] at h
    simp only [zd,Wb] at h
    repeat' (split at h)
    ·rw [Wa] at h
     obtain ⟨v,_,h⟩:=h
     cases h
     exact xN _ _ _
    all_goals cases h
   | see x=>
    rw [hk] at h
    simp only [zd,Wj] at h
    obtain ⟨v,_,rfl⟩:=h
    exact xN _ _ _
   | cmpB x y=>
    rw [hk] at h
    simp only [zd,Wj] at h
    obtain ⟨v,_,rfl⟩:=h
    exact xN _ _ _
   | sliceA n sz x l hh m=>
    rw [hk] at h
    simp only [zd,Wj] at h
    obtain ⟨v,_,rfl⟩:=h
    exact xN _ _ _
   | move x take=>
    rw [hk] at h
    simp only [zd] at h
    repeat' (split at h)
    ·cases h
    ·cases h; rw [xN,zhv]
    ·cases h; exact xN _ _ _
   | append sz bytes s x=>
    rw [hk] at h hq
    simp only [Wh,Xc] at hq
    obtain ⟨⟨hq,hown⟩,hcut⟩:=hq
    simp only [zd,hq,Xk,WP,if_false,St.putG] at h
    split at h
    ·split at h
     ·cases h; rw [xN,zhv]
     ·cases h
    ·split at h
     ·cases h; rw [xN,zhv]
     ·cases h
    ·rename_i hs _
     rw [hs] at hown
     simp [zag] at hown
    ·rename_i hs _
     rw [hs] at hcut
     simp [zU6] at hcut
    ·cases h
   | buildSlice sz n z ps=>
    rw [hk] at h hq
    simp only [Xc] at hq
    simp only [zd,hq,Wb,Wa,St.putG,WP,and_false,if_false,Wg] at h
    obtain ⟨_,_,rfl⟩:=h
    exact xN _ _ _
   | makeSlice sz bytes z l c=>
    rw [hk] at h hq
    simp only [Xc] at hq
    simp only [zd,hq,St.putG,WP,if_false] at h
    repeat' (split at h)
    all_goals first
     | (cases h; done)
     | (cases h; exact xN _ _ _)
   | call f xs ys=>
    rw [hk] at h hq
    simp only [Wh,Xc,QO,decide_eq_true_eq,Xg] at hq
    obtain ⟨⟨⟨hpin,hys⟩,hargs⟩,hd⟩:=hq
    subst hys
    simp only [zd,Wb,Wa] at h
    obtain ⟨vs,h1,h2⟩:=h
    unfold zea at h2
    have hfz:zo σ xs σ.b=σ.b:=zs1 xs _ (fun s hs id hid=>by
     have:=(hargs s hs).2
     cases hx:s.1.get σ <;> rw [hx] at this hid <;> simp only [zag] at hid <;> cases hid
     exact zS6 this)
    have hids:zak σ.b vs=[]:=by
     unfold zak
     have:vs.flatMap yE=[]:=by
      rw [Xm]
      intro v hv
      obtain ⟨i,hi⟩:=Xq hv
      have hlt:i<xs.length:=by rw [← zBR h1]; exact (Wi.1 hi).1
      obtain ⟨v',g1,g2⟩:=zFV h1 i _ (Wc hlt)
      rw [hi] at g1; cases g1
      exact zFA (hargs _ (W2 hlt)).1 (hargs _ (W2 hlt)).2 g2
     rw [this,zFk]
    simp only [hfz,hids,ze6,Wb,QT] at h2
    simp only [Wa] at h2
    obtain ⟨⟨r,bor'⟩,_,h3⟩:=h2
    simp only at h3
    split at h3
    ·have e:zar (fun k=>(([]:List Nat)++(Xv (nb+·) []).take (bor'.length-([]:List Nat).length)).getD k 0) (([]:List Nat)++(Xv (nb+·) []).take (bor'.length-([]:List Nat).length)) bor' σ.b=σ.b:=by simp [zar]
     rw [e,hpin] at h3
     generalize zpI _ r=r' at h3
     cases hdd:o.dst with
     | none=>rw [hdd] at hd; cases hd
     | some d=>
      rw [hdd] at hd h3
      have:=zIF h3 (fun p cs hbx=>by
       subst hbx
       simp only [St.putR,St.newB] at h3
       split at h3
       ·cases h3
        simp only [St.put,St.setB] at hd
        split at hd
        ·rename_i v hv
         rw [Xa] at hv
         simp only [if_true] at hv
         split at hv
         ·cases hv; simp [zwh] at hd
         ·cases hv
        ·cases hd
       ·cases h3)
      exact this
    ·cases h3
   | extract x i=>
    rw [hk] at h hq
    simp only [Wh,Xc] at hq
    obtain ⟨hpin,hq⟩:=hq
    simp only [zd,hpin] at h
    split at h
    ·rename_i vs hvs
     rw [hvs] at hq
     simp only at hq
     split at h
     ·rename_i _ v t hvi
      rw [hvi] at hq
      split at h
      ·split at h
       ·have:=zIF h (fun p cs hbx=>by subst hbx; simp at hq)
        exact this
       ·first
         | (cases h; exact xN _ _ _)
         | (simp only [Xk,WP,if_false] at h; cases h; exact xN _ _ _)
      ·cases h
     ·cases h
    ·cases h
   | mlook kd ok z x y=>
    rw [hk] at h hq
    simp only [zd] at h
    split at h
    ·split at h
     ·split at h
      ·simp only [Wb,Wa,Option.pure_def,Wg] at h
       obtain ⟨r,_,rfl⟩:=h
       exact xN _ _ _
      ·cases h
     ·cases h
    ·cases h
   | lenM x=>
    rw [hk] at h hq
    simp only [zd] at h
    split at h
    ·split at h
     ·cases h; exact xN _ _ _
     ·cases h
    ·cases h
   | _=>
    rw [hk] at hq
    exact sp (by rw [hk]; exact hq)
theorem zFm{o:COp}{σ1 σ1':St}(hb:σ'.b=σ.b∨zz o.k=true)(hr:∀ t∈yJ o,σ'.t[t]?=σ.t[t]?)(hd:∀ d,o.dst=some d→σ1'.t[d]?=σ1.t[d]?):zcq σ' o σ1'=zcq σ o σ1:=by
 unfold zcq
 rw [zaJ (fun j w hg=>hr j (za8 hg))]
 have hrk:∀ t∈yu o.k,σ'.t[t]?=σ.t[t]?:=fun t ht=>hr t (zdN ht)
 cases hk:o.k with
 | call f xs ys=>
  rw [hk] at hrk hb
  have hb:σ'.b=σ.b:=hb.resolve_right (by simp [zz])
  rw [hb]
  have e:(xs.all fun s=>decide (s.2<2)&&ziK σ.b (s.1.get σ'))=(xs.all fun s=>decide (s.2<2)&&ziK σ.b (s.1.get σ)):=by
   have hc:∀ s∈xs,s.1.get σ'=s.1.get σ:=fun s hs=>yh (fun t ht=>hrk t (Q0.2 ⟨s,hs,ht⟩))
   rw [Xo,QO,QO]
   constructor
   ·intro hh c hcc; rw [← hc c hcc]; exact hh c hcc
   ·intro hh c hcc; rw [hc c hcc]; exact hh c hcc
  simp only [e]
  cases hds:o.dst with
  | none=>rfl
  | some d=>simp only [hd d hds]
 | extract x i=>
  rw [hk] at hrk
  simp only [yh (s:=x) hrk]
 | append sz bytes s x=>
  rw [hk] at hrk
  simp only [yu] at hrk
  simp only [yh (s:=s) (fun t ht=>hrk t (by simp [ht]))]
 | _=>rfl
theorem zbH{a b:List Nat}(h:zdW a b=true):∀ x∈a,x ∉ b:=by
 intro x hx hb
 have:=QO.1 h x hx
 simp [hb] at this
structure Side (A B:COp) (sa sb:Bool) (σ σ1 σ2 σ1':St):Prop where
 fA:∀ k,k ∉ Wo A→σ1.t[k]?=σ.t[k]?
 fB:∀ k,k ∉ Wo B→σ1'.t[k]?=σ.t[k]?
 dB:∀ d,B.dst=some d→σ1'.t[d]?=σ2.t[d]?
 dA:∀ d,A.dst=some d→σ2.t[d]?=σ1.t[d]?
 bB:σ.b=σ1.b∨zz B.k=true∨zab B.k=true∨sb=true
 bA:σ1'.b=σ.b∨zz A.k=true∨zab A.k=true∨sa=true
theorem zXo{A B:COp}{σ σ1 σ2:St}(ha:yk cb nb σ A=some σ1)(hb:yk cb nb σ1 B=some σ2)(hs:zfQ A B=true)(hq:zz A.k=true∨zz B.k=true∨(zcq σ A σ1=true∧zcq σ1 B σ2=true)) :
  ∃ σ1',yk cb nb σ B=some σ1'∧yk cb nb σ1' A=some σ2∧∀ sa sb,Side A B sa sb σ σ1 σ2 σ1':=by
 simp only [zfQ,Wh] at hs
 have s1:=zbH hs.1
 have s2:=zbH hs.2
 have wa:∀ k∈Wo A,k ∉ yJ B∧k ∉ Wo B:=fun k hk=>by
  have:=s1 k hk
  simp only [QD,not_or] at this
  exact ⟨this.1.1,fun hh=>by simp only [Wo,Wk,QD] at hh; exact hh.elim this.1.2 this.2⟩
 have wb:∀ k∈Wo B,k ∉ yJ A∧k ∉ Wo A:=fun k hk=>by
  have:=s2 k hk
  simp only [QD,not_or] at this
  exact ⟨this.1.1,fun hh=>by simp only [Wo,Wk,QD] at hh; exact hh.elim this.1.2 this.2⟩
 obtain ⟨_,_,oa⟩:=xP A rfl rfl (fun _ _=>rfl) ha
 obtain ⟨_,_,ob⟩:=xP B rfl rfl (fun _ _=>rfl) hb
 have rB:∀ t∈yJ B,σ.t[t]?=σ1.t[t]?:=fun t ht=>(oa.fr t (fun hh=>(wa t hh).1 ht)).symm
 have key:∃ σ1',yk cb nb σ B=some σ1'∧(∀ k∈Wo B,σ1'.t[k]?=σ2.t[k]?)∧(∀ k,k ∉ Wo B→σ1'.t[k]?=σ.t[k]?)∧σ1'.t.length=σ.t.length ∧
   ∃ σ2',yk cb nb σ1' A=some σ2'∧(∀ k∈Wo A,σ2'.t[k]?=σ1.t[k]?)∧(∀ k,k ∉ Wo A→σ2'.t[k]?=σ1'.t[k]?)∧σ2'.b=σ2.b∧(σ.b=σ1.b∨zz B.k=true)∧(σ1'.b=σ.b∨zz A.k=true):=by
  have viaB:∀ σ1',yk cb nb σ B=some σ1'→(∀ k,k ∉ Wo B→σ1'.t[k]?=σ.t[k]?)→∀ t∈yJ A,σ1'.t[t]?=σ.t[t]?:=fun σ1' _ h t ht=>h t (fun hh=>(wb t hh).1 ht)
  by_cases hbp:zz B.k=true
  ·obtain ⟨v,e1,e2⟩:=zrE B hbp rB hb
   have hWB:∀ k,B.dst=some k→k∈Wo B:=fun k hk=>yA k hk
   have hl:(σ.put B.dst v).t.length=σ.t.length:=zjv _ _ _
   have off:∀ k,k ∉ Wo B→(σ.put B.dst v).t[k]?=σ.t[k]?:=fun k hk=>by rw [xR,if_neg (fun h=>hk (hWB k h.1))]
   refine ⟨_,e2,fun k hk=>?_,off,hl,?_⟩
   ·have hkd:B.dst=some k:=by
     simp only [Wo,Wk,zxQ hbp,List.nil_append] at hk
     cases hd:B.dst with
     | none=>rw [hd] at hk; simp at hk
     | some d=>rw [hd] at hk; simp at hk; rw [hk]
    rw [e1,xR,xR,oa.len]
    by_cases hlt:k<σ.t.length
    ·rw [if_pos ⟨hkd,hlt⟩,if_pos ⟨hkd,hlt⟩]
    ·rw [if_neg (fun h=>hlt h.2),if_neg (fun h=>hlt h.2),Q3 (by omega),Q3 (by rw [oa.len]; omega)]
   ·obtain ⟨σ2',f1,f2⟩:=xP A (σ':=σ.put B.dst v) hl (xN _ _ _) (viaB _ e2 off) ha
    exact ⟨σ2',f1,f2.on,f2.off,by rw [f2.b,e1,xN],.inr hbp,.inl (xN _ _ _)⟩
  ·by_cases hap:zz A.k=true
   ·obtain ⟨v,e1,_⟩:=zrE A hap (fun _ _=>rfl) ha
    have hb1:σ.b=σ1.b:=by rw [e1,xN]
    obtain ⟨σ1',f1,f2⟩:=xP B (σ':=σ) oa.len.symm hb1 rB hb
    have hl:σ1'.t.length=σ.t.length:=f2.len'
    refine ⟨σ1',f1,f2.on,f2.off,hl,?_⟩
    obtain ⟨v',e3,e4⟩:=zrE A (σ':=σ1') hap (viaB _ f1 f2.off) ha
    refine ⟨_,e4,fun k hk=>?_,fun k hk=>?_,by rw [xN,f2.b],.inl hb1,.inr hap⟩
    ·have hkd:A.dst=some k:=by
      simp only [Wo,Wk,zxQ hap,List.nil_append] at hk
      cases hd:A.dst with
      | none=>rw [hd] at hk; simp at hk
      | some d=>rw [hd] at hk; simp at hk; rw [hk]
     rw [e3,xR,xR,hl]
     by_cases hlt:k<σ.t.length
     ·rw [if_pos ⟨hkd,hlt⟩,if_pos ⟨hkd,hlt⟩]
     ·rw [if_neg (fun h=>hlt h.2),if_neg (fun h=>hlt h.2),Q3 (by omega),Q3 (by omega)]
    ·rw [xR,if_neg (fun h=>hk (yA k h.1))]
   ·have hq:zcq σ A σ1=true∧zcq σ1 B σ2=true:=by
     rcases hq with h | h | h
     ·exact absurd h hap
     ·exact absurd h hbp
     ·exact h
    have hb1:=zJ7 ha hq.1
    have hb2:=zJ7 hb hq.2
    obtain ⟨σ1',f1,f2⟩:=xP B (σ':=σ) oa.len.symm hb1.symm rB hb
    refine ⟨σ1',f1,f2.on,f2.off,f2.len',?_⟩
    obtain ⟨σ2',g1,g2⟩:=xP A (σ':=σ1') f2.len' (by rw [f2.b,hb2,hb1]) (viaB _ f1 f2.off) ha
    exact ⟨σ2',g1,g2.on,g2.off,by rw [g2.b,hb2],.inl hb1.symm,.inl (by rw [f2.b,hb2,hb1])⟩
 obtain ⟨σ1',k1,k2,k3,k4,σ2',k5,k6,k7,k8,k9,k10⟩:=key
 have e:σ2'=σ2:=by
  have et:σ2'.t=σ2.t:=by
   apply Xd
   intro k
   by_cases hA:k∈Wo A
   ·rw [k6 k hA,ob.fr k (wa k hA).2]
   ·rw [k7 k hA]
    by_cases hB:k∈Wo B
    ·rw [k2 k hB]
    ·rw [k3 k hB,ob.fr k hB,oa.fr k hA]
  cases σ2'; cases σ2; simp only at et k8; rw [et,k8]
 subst e
 exact ⟨σ1',k1,k5,fun sa sb=>⟨oa.fr,k3,fun d hd=>k2 d (yA d hd),fun d hd=>k6 d (yA d hd),k9.imp_right .inl,k10.imp_right .inl⟩⟩
theorem zMG{o:COp}{σ1 σ1':St}(hb:σ'.b=σ.b∨zz o.k=true∨zab o.k=true)(hr:∀ t∈yJ o,σ'.t[t]?=σ.t[t]?)(hd:∀ d,o.dst=some d→σ1'.t[d]?=σ1.t[d]?):zcq σ' o σ1'=zcq σ o σ1:=by
 rcases hb with h | h | h
 ·exact zFm (.inl h) hr hd
 ·exact zFm (.inr h) hr hd
 ·unfold zcq
  rw [zaJ (fun j w hg=>hr j (za8 hg))]
  cases hk:o.k <;> rw [hk] at h <;> simp [zab] at h <;> rfl
theorem zN3{o:COp}{id:Nat}(hb:σ'.b=σ.b∨zz o.k=true∨zab o.k=true)(hr:∀ t∈yJ o,σ'.t[t]?=σ.t[t]?):zu0 nb σ' o id=zu0 nb σ o id:=by
 unfold zu0
 rcases hb with hb | h | h
 rotate_left
 ·simp [h]
 ·simp [h]
 congr 1
 rw [zaJ (fun j w hg=>hr j (za8 hg))]
 cases hk:o.k with
 | call f xs ys=>
  have hrk:∀ t∈yu o.k,σ'.t[t]?=σ.t[t]?:=fun t ht=>hr t (zdN ht)
  rw [hk] at hrk
  simp only [yu] at hrk
  have e1:xs.mapM (zbo σ')=xs.mapM (zbo σ):=zew xs (fun s hs=>znd hb (fun t ht=>hrk t (Q0.2 ⟨s,hs,ht⟩)))
  have e2:∀ vs,zaW nb σ' o.dst vs xs ys=zaW nb σ o.dst vs xs ys:=by
   intro vs
   unfold zaW
   rw [zlD xs _ hrk,hb]
   congr 3
   have hcc:∀ s∈xs,zag (s.1.get σ')=zag (s.1.get σ):=fun s hs=>by rw [yh (fun t ht=>hrk t (Q0.2 ⟨s,hs,ht⟩))]
   clear hrk e1 hk
   induction xs with
   | nil=>rfl
   | cons s xs ih=>
    simp only [Xi,hcc s (by simp)]
    rw [ih (fun s hs=>hcc s (by simp [hs]))]
  simp only [e1,e2]
 | _=>rfl
theorem zu5{o:COp}(hb:σ'.b=σ.b∨zz o.k=true∨zab o.k=true)(hr:∀ t∈yJ o,σ'.t[t]?=σ.t[t]?):∀ (w:List Nat),(∀ r∈w,σ'.t[r]?=σ.t[r]?)→znl nb σ' o w=znl nb σ o w
 | [],_=>rfl
 | r::w,h=>by
  simp only [znl,h r (by simp),zu5 hb hr w (fun r hr=>h r (by simp [hr]))]
  congr 1
  cases σ.t[r]? with
  | none=>rfl
  | some v=>cases v <;> first | rfl | exact zN3 hb hr
theorem zL2{o:COp}{r:Nat}(hr:∀ t∈yJ o,σ'.t[t]?=σ.t[t]?)(h:σ'.t[r]?=σ.t[r]?):zol σ' o r=zol σ o r:=by
 unfold zol
 congr 1
 cases hk:o.k with
 | load agg n x take=>
  cases x with
  | const v=>rfl
  | tmp p=>
   have hp:σ'.t[p]?=σ.t[p]?:=hr p (zdN (by rw [hk]; simp [yu,Src.tmps]))
   simp only [hp,h]
 | _=>rfl
theorem zLY{o:COp}{σ1 σ1':St}(hr:∀ t∈yJ o,σ'.t[t]?=σ.t[t]?)(hd:∀ d,o.dst=some d→σ1'.t[d]?=σ1.t[d]?):zt5 σ' o σ1'=zt5 σ o σ1:=by
 unfold zt5
 rw [zaJ (fun j w hg=>hr j (za8 hg))]
 have hrk:∀ t∈yu o.k,σ'.t[t]?=σ.t[t]?:=fun t ht=>hr t (zdN ht)
 cases hk:o.k with
 | call f xs ys=>
  rw [hk] at hrk
  have e:(xs.all fun s=>decide (s.2<2)&&zyZ (s.1.get σ'))=(xs.all fun s=>decide (s.2<2)&&zyZ (s.1.get σ)):=by
   have hc:∀ s∈xs,s.1.get σ'=s.1.get σ:=fun s hs=>yh (fun t ht=>hrk t (Q0.2 ⟨s,hs,ht⟩))
   rw [Xo,QO,QO]
   constructor
   ·intro hh c hcc; rw [← hc c hcc]; exact hh c hcc
   ·intro hh c hcc; rw [hc c hcc]; exact hh c hcc
  cases hds:o.dst with
  | none=>rfl
  | some d=>simp only [e,hd d hds]
 | _=>rfl
theorem zAA{dst:Option Nat}{vs:List V}{xs:List (Src × Nat)}{ys:List Nat}(hb:σ'.b=σ.b)(hrk:∀ t∈xs.flatMap (fun p=>p.1.tmps),σ'.t[t]?=σ.t[t]?):zaW nb σ' dst vs xs ys=zaW nb σ dst vs xs ys:=by
 unfold zaW
 rw [zlD xs _ hrk,hb]
 congr 3
 have hcc:∀ s∈xs,zag (s.1.get σ')=zag (s.1.get σ):=fun s hs=>by rw [yh (fun t ht=>hrk t (Q0.2 ⟨s,hs,ht⟩))]
 clear hrk
 induction xs with
 | nil=>rfl
 | cons s xs ih=>
  simp only [Xi,hcc s (by simp)]
  rw [ih (fun s hs=>hcc s (by simp [hs]))]
theorem zBJ{o:COp}(hb:σ'.b=σ.b∨zz o.k=true∨zab o.k=true)(hr:∀ t∈yJ o,σ'.t[t]?=σ.t[t]?):kOf nb σ' o=kOf nb σ o:=by
 unfold kOf
 rw [zaJ (fun j w hg=>hr j (za8 hg))]
 have hrk:∀ t∈yu o.k,σ'.t[t]?=σ.t[t]?:=fun t ht=>hr t (zdN ht)
 cases hk:o.k with
 | call f xs ys=>
  rw [hk] at hrk hb
  simp only [yu] at hrk
  have hb:σ'.b=σ.b:=hb.resolve_right (by simp [zz,zab])
  have e1:xs.mapM (zbo σ')=xs.mapM (zbo σ):=zew xs (fun s hs=>znd hb (fun t ht=>hrk t (Q0.2 ⟨s,hs,ht⟩)))
  simp only [e1,zAA hb hrk]
 | callv f xs ys=>
  rw [hk] at hrk hb
  simp only [yu] at hrk
  have hb:σ'.b=σ.b:=hb.resolve_right (by simp [zz,zab])
  have hrk2:∀ t∈xs.flatMap (fun p=>p.1.tmps),σ'.t[t]?=σ.t[t]?:=fun t ht=>hrk t (Q7 _ ht)
  have e1:xs.mapM (zbo σ')=xs.mapM (zbo σ):=zew xs (fun s hs=>znd hb (fun t ht=>hrk2 t (Q0.2 ⟨s,hs,ht⟩)))
  simp only [e1,zAA hb hrk2,yh (s:=f) (fun t ht=>hrk t (Xf _ ht))]
 | loadS n x=>
  rw [hk] at hrk hb
  have hb:σ'.b=σ.b:=hb.resolve_right (by simp [zz,zab])
  simp only [yh (s:=x) hrk,hb]
 | load agg n x take=>
  rw [hk] at hrk
  simp only [yh (s:=x) hrk]
 | store n x y=>
  rw [hk] at hrk
  simp only [yu] at hrk
  simp only [yh (s:=x) (fun t ht=>hrk t (Xf _ ht))]
 | append sz bytes x y=>
  rw [hk] at hrk
  simp only [yu] at hrk
  simp only [yh (s:=x) (fun t ht=>hrk t (Xf _ ht)),yh (s:=y) (fun t ht=>hrk t (Q7 _ ht))]
 | _=>rfl
theorem zgi{o:COp}{fl:Fl}(hk:kOf nb σ' o=kOf nb σ o)(hw:∀ t∈fl.roots,σ'.t[t]?=σ.t[t]?):zo6 nb σ' o fl=zo6 nb σ o fl:=by
 unfold zo6
 rw [hk]
 cases kOf nb σ o with
 | none=>rfl
 | some K=>
  simp only
  have e2:fl.w.all (zrS σ' K)=fl.w.all (zrS σ K):=by
   have hc:∀ r∈fl.w,zrS σ' K r=zrS σ K r:=fun r hr=>by
    unfold zrS
    rw [hw r (by simp [Fl.roots,hr])]
   rw [Xo,QO,QO]
   constructor
   ·intro hh c hcc; rw [← hc c hcc]; exact hh c hcc
   ·intro hh c hcc; rw [hc c hcc]; exact hh c hcc
  cases hf:fl.root with
  | none=>simp only [e2]
  | some r=>
   have:zJW σ' r=zJW σ r:=by
    funext id
    unfold zJW
    rw [hw r (by simp [Fl.roots,hf])]
   simp only [this,e2]
theorem zlF{o:COp}{fl:Fl}{σ1 σ1':St}(hb:σ'.b=σ.b∨zz o.k=true∨zab o.k=true∨(fl.s&&!fl.l)=true)(hr:∀ t∈yJ o,σ'.t[t]?=σ.t[t]?)(hw:∀ t∈fl.roots,σ'.t[t]?=σ.t[t]?)(hd:∀ d,o.dst=some d→σ1'.t[d]?=σ1.t[d]?):zb4 nb σ' o fl σ1'=zb4 nb σ o fl σ1:=by
 unfold zb4
 rw [zLY hr hd]
 cases hl:fl.l with
 | true=>
  rw [hl] at hb
  simp only [Xh,Bool.and_false,WP,or_false] at hb
  exact zgi (zBJ hb hr) hw
 | false=>
 simp only [cond_false]
 cases hs:fl.s with
 | true=>rfl
 | false=>
  rw [hs] at hb
  have hb:σ'.b=σ.b∨zz o.k=true∨zab o.k=true:=by
   rcases hb with h | h | h | h
   ·exact .inl h
   ·exact .inr (.inl h)
   ·exact .inr (.inr h)
   ·cases h
  simp only [cond_false]
  rw [zMG hb hr hd,zu5 hb hr fl.w (fun r h=>hw r (by simp [Fl.roots,h]))]
  congr 2
  cases hf:fl.root with
  | none=>rfl
  | some r=>exact zL2 hr (hw r (by simp [Fl.roots,hf]))
theorem zCe{b:List B}{id k:Nat}(h:k≠id):(xV b id)[k]?=b[k]?:=by
 unfold xV
 split
 ·rw [WE (fun e=>h e.symm)]
 ·rfl
theorem zyN{σ:St}{k:Nat}:∀ (ss:List (Src × Nat)) (b:List B),k ∉ ss.filterMap (fun s=>zag (s.1.get σ))→(zo σ ss b)[k]?=b[k]?
 | [],b,h=>rfl
 | s::ss,b,h=>by
  unfold zo
  have h1:k ∉ ss.filterMap (fun s=>zag (s.1.get σ)):=by
   intro hh; apply h
   rw [QP] at hh ⊢
   obtain ⟨a,q1,q2⟩:=hh
   exact ⟨a,by simp [q1],q2⟩
  rw [zyN ss _ h1]
  split
  ·rfl
  ·cases ho:zag (s.1.get σ) with
   | none=>rfl
   | some id=>
    refine zCe (fun e=>h ?_)
    rw [QP]
    exact ⟨s,by simp,by rw [ho,e]⟩
theorem zp8{σ σ1:St}{d:Option Nat}{x:B}{f:Nat→V}{k:Nat}(h:σ.newB nb d x f=some σ1)(hk:k ∉ d.toList.map (nb+·)):σ1.b[k]?=σ.b[k]?:=by
 cases d with
 | none=>cases h
 | some d=>
  simp only [St.newB] at h
  split at h
  ·cases h
   simp at hk
   simp only [xN,St.setB]
   rw [WE (fun e=>hk e.symm)]
  ·cases h
theorem zQL{σ σ1:St}{d:Option Nat}{pin:Bool}{sz:Nat}{es:Ls}{k:Nat}(h:σ.putG nb d pin sz es=some σ1)(hk:k ∉ d.toList.map (nb+·)):σ1.b[k]?=σ.b[k]?:=by
 unfold St.putG at h
 split at h
 ·exact zp8 h hk
 ·cases h; rw [xN]
theorem zQ8{σ σ1:St}{d:Option Nat}{pin:Bool}{v:V}{k:Nat}(h:σ.putR nb d pin v=some σ1)(hk:k ∉ d.toList.map (nb+·)):σ1.b[k]?=σ.b[k]?:=by
 unfold St.putR at h
 split at h
 ·split at h
  ·cases h
  ·cases h; rw [xN]
 ·exact zQL h hk
 ·exact zp8 h hk
 ·cases h; rw [xN]
theorem zAz(g:Nat→Nat):∀ (ids:List Nat) (bor:Bor) (b:List B) (id:Nat),id ∉ ids→(zar g ids bor b)[id]?=b[id]?
 | [],bor,b,id,h=>by cases bor <;> rfl
 | i::ids,[],b,id,h=>rfl
 | i::ids,x::bor,b,id,h=>by
  simp only [zar]
  rw [zAz g ids bor _ id (fun hh=>h (by simp [hh])),WE (fun e=>h (by simp [e]))]
theorem zSa{o:COp}{id:Nat}(h:yk cb nb σ o=some σ1)(ha:zu0 nb σ o id=true):σ1.b[id]?=σ.b[id]?:=by
 unfold zu0 at ha
 rw [Xb,Xb] at ha
 rcases ha with (ha | ha) | ha
 ·obtain ⟨v,rfl,_⟩:=zrE o ha (fun _ _=>rfl) h
  rw [xN]
 ·have:σ1.b=σ.b:=by
   refine zJ7 h ?_
   unfold yk at h
   unfold zcq
   cases hg:y8 σ o.guard with
   | none=>rw [hg] at h; cases h
   | some g=>
    cases g with
    | false=>rfl
    | true=>cases hk:o.k <;> rw [hk] at ha <;> simp [zab] at ha <;> simp [ha]
  rw [this]
 ·unfold yk at h
  cases hg:y8 σ o.guard with
  | none=>rw [hg] at h; cases h
  | some g=>
   rw [hg] at h ha
   cases g with
   | false=>simp only at h; cases h; rw [xN]
   | true=>
    simp only at h ha
    cases hk:o.k with
    | call f xs ys=>
     rw [hk] at h ha
     simp only [zd,Wb,Wa] at h
     obtain ⟨vs,h1,h2⟩:=h
     simp only [h1] at ha
     have ha:id ∉ zaW nb σ o.dst vs xs ys:=by
      intro hh
      have:(zaW nb σ o.dst vs xs ys).contains id=true:=Xe.2 hh
      rw [this] at ha; cases ha
     simp only [zaW,QD,not_or] at ha
     obtain ⟨⟨⟨a1,a2⟩,a3⟩,a4⟩:=ha
     unfold zea at h2
     simp only [Wb,Wa,Prod.exists] at h2
     obtain ⟨bor,_,r,bor',_,h2⟩:=h2
     split at h2
     ·have:=zQ8 h2 a4
      rw [this]
      simp only
      rw [zAz _ _ _ _ _ ?_,zyN _ _ a2]
      intro hh
      rw [QD] at hh
      rcases hh with hh | hh
      ·exact a1 hh
      ·exact a3 (WV hh)
     ·cases h2
    | alloc p cs=>
     rw [hk] at h ha
     simp only [zd] at h
     refine zp8 h (fun hh=>?_)
     have:(o.dst.toList.map (nb+·)).contains id=true:=Xe.2 hh
     simp only [this] at ha; cases ha
    | box p x=>
     rw [hk] at h ha
     have hn:id ∉ o.dst.toList.map (nb+·):=fun hh=>by
      have:(o.dst.toList.map (nb+·)).contains id=true:=Xe.2 hh
      simp only [this] at ha; cases ha
     simp only [zd] at h
     split at h
     ·split at h
      ·cases h
      ·exact zp8 h hn
     ·split at h
      ·exact zp8 h hn
      ·cases h
    | _=>rw [hk] at ha; cases ha
theorem zHO{o:COp}(h:yk cb nb σ o=some σ1)(hs:zt5 σ o σ1=true):∃ v,σ1=σ.put o.dst v∧∀ σ':St,(∀ t∈yJ o,σ'.t[t]?=σ.t[t]?)→yk cb nb σ' o=some (σ'.put o.dst v):=by
 unfold yk at h
 unfold zt5 at hs
 cases hg:y8 σ o.guard with
 | none=>rw [hg] at h; cases h
 | some g=>
  rw [hg] at h hs
  cases g with
  | false=>
   simp only at h; cases h
   refine ⟨_,rfl,fun σ' hr=>?_⟩
   unfold yk
   rw [zaJ (fun j w hg=>hr j (za8 hg)),hg]
  | true=>
   simp only at h hs
   cases hk:o.k with
   | call f xs ys=>
    cases hds:o.dst with
    | none=>rw [hk,hds] at hs; cases hs
    | some d=>
     rw [hk,hds] at hs
     rw [hk,hds] at h
     simp only [Wh,Xc,QO,decide_eq_true_eq,Xg] at hs
     obtain ⟨⟨⟨hpin,hys⟩,hargs⟩,hd⟩:=hs
     subst hys
     rw [hpin] at h
     simp only [zd,Wb,Wa] at h
     obtain ⟨vs,h1,h2⟩:=h
     have hown:∀ s∈xs,zag (s.1.get σ)=none:=fun s hs=>by
      have:=(hargs s hs).2
      cases hx:s.1.get σ <;> rw [hx] at this <;> simp [zyZ] at this <;> rfl
     have hrefs:vs.flatMap yE=[]:=by
      rw [Xm]
      intro v hv
      obtain ⟨i,hi⟩:=Xq hv
      have hlt:i<xs.length:=by rw [← zBR h1]; exact (Wi.1 hi).1
      obtain ⟨v',g1,g2⟩:=zFV h1 i _ (Wc hlt)
      rw [hi] at g1; cases g1
      refine zFA (hargs _ (W2 hlt)).1 ?_ g2
      have:=(hargs _ (W2 hlt)).2
      cases hx:(xs[i]).1.get σ <;> rw [hx] at this <;> simp [zyZ] at this <;> simp [ziK,this]
     have gen:∀ (τ:St),(∀ s∈xs,zag (s.1.get τ)=none)→zea cb nb τ (some d) false f vs xs []=(cb f (vs.map (zdQ (yM []))) []).bind fun p=>
       if ((p.2.take ([]:List Nat).length).map B.len=([]:Bor).map B.len∧p.2.length=(([]:List Nat)++(([]:List Nat).map (nb+·)).take (p.2.length-([]:List Nat).length)).length∧vs.all (fun a=>(yE a).all ([]:List Nat).contains)∧zHH p.1∧(zj9 p.1).all (fun k=>decide (k<(([]:List Nat)++(([]:List Nat).map (nb+·)).take (p.2.length-([]:List Nat).length)).length))∧p.2.all (B.lend (Wy (([]:List Nat)++(([]:List Nat).map (nb+·)).take (p.2.length-([]:List Nat).length)).length))∧ziI (p.2.take ([]:List Nat).length) ([]:Bor)∧(p.2.drop ([]:List Nat).length).all B.isRow∧zlI τ.b nb []) then
        St.putR nb τ (some d) false (zpI (fun k=>(([]:List Nat)++(([]:List Nat).map (nb+·)).take (p.2.length-([]:List Nat).length)).getD k 0) p.1)
       else none:=by
      intro τ hτ
      have hfz:zo τ xs τ.b=τ.b:=zs1 xs _ (fun s hs id hid=>by rw [hτ s hs] at hid; cases hid)
      have hids:zak τ.b vs=[]:=by unfold zak; rw [hrefs,zFk]
      unfold zea
      simp only [hfz,hids,ze6,Wb,QT]
      congr 1
      funext p
      have e:zar (fun k=>(([]:List Nat)++(Xv (nb+·) []).take (p.2.length-([]:List Nat).length)).getD k 0) (([]:List Nat)++(Xv (nb+·) []).take (p.2.length-([]:List Nat).length)) p.2 τ.b=τ.b:=by simp [zar]
      rw [e]
     rw [gen σ hown,Wa] at h2
     obtain ⟨⟨r,bor'⟩,hcb,h3⟩:=h2
     simp only at h3
     split at h3
     ·rename_i hcond
      generalize hr':zpI _ r=r' at h3
      have hnb:∀ p cs,r'≠.bx p cs:=fun p cs hbx=>by
       subst hbx
       simp only [St.putR,St.newB] at h3
       split at h3
       ·cases h3
        simp only [St.put,St.setB] at hd
        split at hd
        ·rename_i v hv
         rw [Xa] at hv
         simp only [if_true] at hv
         split at hv
         ·cases hv; simp [zwh] at hd
         ·cases hv
        ·cases hd
       ·cases h3
      have putc:∃ v,∀ τ:St,τ.putR nb (some d) false r'=some (τ.put (some d) v):=by
       cases r' with
       | bx p cs=>exact absurd rfl (hnb p cs)
       | fr sz es=>exact ⟨.gs sz es,fun τ=>rfl⟩
       | gs sz es=>exact ⟨.gs sz es,fun τ=>rfl⟩
       | _=>exact ⟨_,fun τ=>rfl⟩
      obtain ⟨v,hv⟩:=putc
      rw [hv σ] at h3
      refine ⟨v,(Option.some.inj h3).symm,fun σ' hr=>?_⟩
      have hrk:∀ t∈yu o.k,σ'.t[t]?=σ.t[t]?:=fun t ht=>hr t (zdN ht)
      rw [hk] at hrk
      have hc:∀ s∈xs,s.1.get σ'=s.1.get σ:=fun s hs=>yh (fun t ht=>hrk t (Q0.2 ⟨s,hs,ht⟩))
      have hargs':∀ s∈xs,zbo σ' s=zbo σ s:=fun s hs=>by
       have h2:=(hargs s hs).2
       have h3:=(hargs s hs).1
       have hl:∀ v,zpt s.2 v=none:=fun v=>by unfold zpt; rw [if_neg (by omega)]
       simp only [zbo,zKR h3,zyo,hl,hc s hs]
       cases hx:s.1.get σ <;> rw [hx] at h2 <;> simp [zyZ] at h2 <;> rfl
      unfold yk
      rw [zaJ (fun j w hg=>hr j (za8 hg)),hg]
      simp only [hk,hds,hpin,zd]
      rw [zew xs hargs',h1]
      simp only [Wb,QT]
      rw [gen σ' (fun s hs=>by rw [hc s hs]; exact hown s hs),hcb]
      simp only [QT]
      rw [if_pos (by exact hcond),hr',hv σ']
     ·cases h3
   | _=>rw [hk] at hs; cases hs
theorem zAe{o:COp}(hl:zab o.k=true)(hr:∀ t∈yJ o,σ'.t[t]?=σ.t[t]?)(hb:∀ agg n a take id off,o.k=.load agg n a take→a.get σ=.ptr id off→σ'.b[id]?=σ.b[id]?)(h:yk cb nb σ o=some σ1):∃ v,σ1=σ.put o.dst v∧yk cb nb σ' o=some (σ'.put o.dst v):=by
 unfold yk at h ⊢
 rw [zaJ (fun j w hg=>hr j (za8 hg))]
 split at h
 ·cases hk:o.k with
  | load agg n a take=>
   rw [hk] at h hl
   exact zFL hl (yh (fun t ht=>hr t (zdN (by rw [hk]; exact ht)))) (fun id off=>hb _ _ _ _ id off hk) h
  | _=>rw [hk] at hl; cases hl
 ·cases h; exact ⟨_,rfl,rfl⟩
 ·cases h
theorem zG5{A B:COp}{r:Nat}{w:List Nat}(hra:zol σ A r=true)(hm:zlf (some r) w=true)(hB:yk cb nb σ' B=some σ1)(hw:znl nb σ' B w=true)(ht:σ'.t[r]?=σ.t[r]?) :
  ∀ agg n a take id off,A.k=.load agg n a take→a.get σ=.ptr id off→σ1.b[id]?=σ'.b[id]?:=by
 intro agg n a take id off hk hg
 unfold zol at hra
 rw [Wh] at hra
 have hra:=hra.2
 rw [hk] at hra
 cases a with
 | const v=>cases hra
 | tmp p=>
  simp only at hra
  split at hra
  ·rename_i id1 o1 id2 o2 h1 h2
   have e:=Wd hra
   have:id=id1:=by
    simp only [Src.get,Ws,h1,Xl] at hg
    cases hg; rfl
   subst this; subst e
   have hm:r∈w:=Xe.1 hm
   have key:∀ (w:List Nat),r∈w→znl nb σ' B w=true→zu0 nb σ' B id=true:=by
    intro w
    induction w with
    | nil=>intro h; cases h
    | cons x w ih=>
     intro h hh
     simp only [znl,Wh] at hh
     rcases List.mem_cons.1 h with rfl | h
     ·have:=hh.1
      rw [ht,h2] at this
      exact this
     ·exact ih h hh.2
   exact zSa hB (key w hm hw)
  ·rename_i h1
   simp only [Src.get,Ws,h1,Xl] at hg
   cases hg
  ·cases hra
theorem zSN{σ σ1 σ2:St}{d:Nat}{dst:Option Nat}{v:V}(e:σ2=σ1.put dst v)(hd:dst=some d)(hl:σ1.t.length=σ.t.length):(σ.put dst v).t[d]?=σ2.t[d]?:=by
 subst e; rw [xR,xR,hl]
 by_cases h:d<σ.t.length
 ·rw [if_pos ⟨hd,h⟩,if_pos ⟨hd,h⟩]
 ·rw [if_neg (fun q=>h q.2),if_neg (fun q=>h q.2),Q3 (by omega),Q3 (by omega)]
theorem zZs{A B:COp}{qa qb:Fl}{σ σ1 σ2:St}(ha:yk cb nb σ A=some σ1)(hb:yk cb nb σ1 B=some σ2)(fa:zb4 nb σ A qa σ1=true)(fb:zb4 nb σ1 B qb σ2=true)(pk:zrh (A,qa) (B,qb)=true)(hL:(qa.l&&qb.l)=false∨zz A.k=true∨zz B.k=true) :
  ∃ σ1',yk cb nb σ B=some σ1'∧yk cb nb σ1' A=some σ2∧zb4 nb σ B qb σ1'=true∧zb4 nb σ1' A qa σ2=true:=by
 simp only [zrh,Wh] at pk
 obtain ⟨⟨hs,hroots⟩,hq0⟩:=pk
 have hq:zz A.k=true∨zz B.k=true∨((!qa.l)=true∧(!qb.l)=true∧(((((((zz A.k=true∨zz B.k=true)∨(((qa.q=true∧qb.q=true)∧(!qa.s)=true)∧(!qb.s)=true))∨((zlf qa.root qb.w=true∧(!qa.s)=true)∧(!qb.s)=true))∨((zlf qb.root qa.w=true∧(!qa.s)=true)∧(!qb.s)=true))∨qa.s=true)∨qb.s=true))):=by
  simp only [Xb] at hq0
  rcases hq0 with ((h | h) | h) | h
  ·simp only [Wh,Xb] at h
   exact .inr (.inr ⟨h.1.1,h.1.2,h.2⟩)
  ·exact .inl h
  ·exact .inr (.inl h)
  ·simp only [Wh] at h
   rcases hL with h' | h' | h'
   ·rw [h.1.1,h.1.2] at h'; cases h'
   ·exact .inl h'
   ·exact .inr (.inl h')
 have hroots:=zbH hroots
 have rr:∀ t,t∈qa.roots∨t∈qb.roots→t ∉ Wo A∧t ∉ Wo B:=by
  intro t ht
  constructor
  ·intro hh
   exact hroots t (QD.2 (.inl hh)) (QD.2 ht)
  ·intro hh
   exact hroots t (QD.2 (.inr hh)) (QD.2 ht)
 have hs0:=hs
 simp only [zfQ,Wh] at hs
 have s1:=zbH hs.1
 have s2:=zbH hs.2
 have wa:∀ k∈Wo A,k ∉ yJ B∧k ∉ Wo B:=fun k hk=>by
  have:=s1 k hk
  simp only [QD,not_or] at this
  exact ⟨this.1.1,fun hh=>by simp only [Wo,Wk,QD] at hh; exact hh.elim this.1.2 this.2⟩
 have wb:∀ k∈Wo B,k ∉ yJ A∧k ∉ Wo A:=fun k hk=>by
  have:=s2 k hk
  simp only [QD,not_or] at this
  exact ⟨this.1.1,fun hh=>by simp only [Wo,Wk,QD] at hh; exact hh.elim this.1.2 this.2⟩
 obtain ⟨_,_,oa⟩:=xP A rfl rfl (fun _ _=>rfl) ha
 obtain ⟨_,_,ob⟩:=xP B rfl rfl (fun _ _=>rfl) hb
 have rB:∀ t∈yJ B,σ.t[t]?=σ1.t[t]?:=fun t ht=>(oa.fr t (fun hh=>(wa t hh).1 ht)).symm
 have main:∃ σ1',yk cb nb σ B=some σ1'∧yk cb nb σ1' A=some σ2∧Side A B (qa.s&&!qa.l) (qb.s&&!qb.l) σ σ1 σ2 σ1':=by
  have fa':=fa
  have fb':=fb
  have swp:∀ hq,∃ σ1',yk cb nb σ B=some σ1'∧yk cb nb σ1' A=some σ2∧Side A B (qa.s&&!qa.l) (qb.s&&!qb.l) σ σ1 σ2 σ1':=fun hq=>by
   obtain ⟨σ1',q1,q2,q3⟩:=zXo ha hb hs0 hq
   exact ⟨σ1',q1,q2,q3 _ _⟩
  have nos:∀ {s:Bool},(!s)=true→s=false:=fun {s} h=>by cases s <;> first | rfl | cases h
  rcases hq with h | h | ⟨hla,hlb,hq⟩
  ·exact swp (.inl h)
  ·exact swp (.inr (.inl h))
  have hla:=nos hla
  have hlb:=nos hlb
  simp only [zb4,hla,cond_false] at fa'
  simp only [zb4,hlb,cond_false] at fb'
  rcases hq with (((((h | h) | h) | h) | h) | h) | h
  ·exact swp (.inl h)
  ·exact swp (.inr (.inl h))
  ·obtain ⟨⟨⟨hqa,hqb⟩,hsa⟩,hsb⟩:=h
   have h:qa.q=true∧qb.q=true:=⟨hqa,hqb⟩
   simp only [nos hsa,nos hsb,cond_false,Wh,Xb,Xc] at fa' fb'
   obtain ⟨⟨fa1,fa2⟩,fa3⟩:=fa'
   obtain ⟨⟨fb1,fb2⟩,fb3⟩:=fb'
   refine swp (.inr (.inr ⟨?_,?_⟩))
   ·rcases fa1 with e | e
    ·rw [h.1] at e; cases e
    ·exact e
   ·rcases fb1 with e | e
    ·rw [h.2] at e; cases e
    ·exact e
  ·
   obtain ⟨⟨h,hsa⟩,hsb⟩:=h
   simp only [nos hsa,nos hsb,cond_false,Wh,Xb,Xc] at fa' fb'
   obtain ⟨⟨fa1,fa2⟩,fa3⟩:=fa'
   obtain ⟨⟨fb1,fb2⟩,fb3⟩:=fb'
   cases hr:qa.root with
   | none=>rw [hr] at h; cases h
   | some r=>
    rw [hr] at h fa2
    simp only [zlf] at h
    simp only at fa2
    have hrm:r∈qb.w:=Xe.1 h
    have hrA:r ∉ Wo A:=(rr r (.inl (by simp [Fl.roots,hr]))).1
    have hlA:zab A.k=true:=by
     have:=fa2; unfold zol at this; rw [Wh] at this; exact this.1
    obtain ⟨v,e1,_⟩:=zAe (σ':=σ) hlA (fun _ _=>rfl) (fun _ _ _ _ _ _ _ _=>rfl) ha
    have hb1:σ1.b=σ.b:=by rw [e1,xN]
    obtain ⟨σ1',f1,f2⟩:=xP B (σ':=σ) oa.len.symm hb1.symm rB hb
    have hw:znl nb σ B qb.w=true:=by
     rw [← zu5 (σ:=σ) (σ':=σ1) (.inl hb1) (fun t ht=>(rB t ht).symm) qb.w (fun t ht=>oa.fr t (rr t (.inr (by simp [Fl.roots,ht]))).1)]
     exact fb3
    have hblk:=zG5 fa2 h f1 hw rfl
    obtain ⟨v',e3,e4⟩:=zAe (σ':=σ1') hlA (fun t ht=>f2.off t (fun hh=>(wb t hh).1 ht)) hblk ha
    have e:σ1'.put A.dst v'=σ2:=by
     have eb:(σ1'.put A.dst v').b=σ2.b:=by rw [xN,f2.b]
     have et:(σ1'.put A.dst v').t=σ2.t:=by
      apply Xd
      intro k
      rw [xR,f2.len']
      by_cases hA:A.dst=some k∧k<σ.t.length
      ·rw [if_pos hA]
       have hkA:k∈Wo A:=yA k hA.1
       rw [ob.fr k (wa k hkA).2,e3,xR,if_pos hA]
      ·rw [if_neg hA]
       by_cases hB:k∈Wo B
       ·exact f2.on k hB
       ·rw [f2.off k hB,ob.fr k hB,e3,xR,if_neg hA]
     cases hz:σ1'.put A.dst v'; rw [hz] at eb et; cases σ2; simp only at eb et; rw [eb,et]
    refine ⟨σ1',f1,by rw [e4,e],oa.fr,f2.off,fun d hd=>f2.on d (yA d hd),fun d hd=>ob.fr d (wa d (yA d hd)).2,.inl hb1.symm,.inr (.inr (.inl hlA))⟩
  ·
   obtain ⟨⟨h,hsa⟩,hsb⟩:=h
   simp only [nos hsa,nos hsb,cond_false,Wh,Xb,Xc] at fa' fb'
   obtain ⟨⟨fa1,fa2⟩,fa3⟩:=fa'
   obtain ⟨⟨fb1,fb2⟩,fb3⟩:=fb'
   cases hr:qb.root with
   | none=>rw [hr] at h; cases h
   | some r=>
    rw [hr] at h fb2
    simp only at fb2
    have hlB:zab B.k=true:=by
     have:=fb2; unfold zol at this; rw [Wh] at this; exact this.1
    have hrA:r ∉ Wo A:=(rr r (.inr (by simp [Fl.roots,hr]))).1
    have hblk:=zG5 fb2 h ha fa3 (oa.fr r hrA).symm
    obtain ⟨v,e1,e2⟩:=zAe (σ':=σ) hlB (fun t ht=>rB t ht) (fun agg n a take id off hk hg=>(hblk agg n a take id off hk hg).symm) hb
    have hoff:∀ k,k ∉ Wo B→(σ.put B.dst v).t[k]?=σ.t[k]?:=fun k hk=>by rw [xR,if_neg (fun h=>hk (yA k h.1))]
    have hl:(σ.put B.dst v).t.length=σ.t.length:=zjv _ _ _
    obtain ⟨σ2',f1,f2⟩:=xP A (σ':=σ.put B.dst v) hl (xN _ _ _) (fun t ht=>hoff t (fun hh=>(wb t hh).1 ht)) ha
    have e:σ2'=σ2:=by
     have eb:σ2'.b=σ2.b:=by rw [f2.b,e1,xN]
     have et:σ2'.t=σ2.t:=by
      apply Xd
      intro k
      rw [e1,xR,oa.len]
      by_cases hB:B.dst=some k∧k<σ.t.length
      ·rw [if_pos hB]
       have hkB:k∈Wo B:=yA k hB.1
       rw [f2.off k (wb k hkB).2,xR,if_pos hB]
      ·rw [if_neg hB]
       by_cases hA:k∈Wo A
       ·exact f2.on k hA
       ·rw [f2.off k hA,oa.fr k hA,xR,if_neg hB]
     cases σ2'; cases σ2; simp only at eb et; rw [eb,et]
    subst e
    refine ⟨_,e2,f1,oa.fr,hoff,fun d hd=>?_,fun d hd=>f2.on d (yA d hd),.inr (.inr (.inl hlB)),.inl (xN _ _ _)⟩
    rw [zSN e1 hd oa.len]
  ·
   have hsa:qa.s=true:=h
   simp only [hsa,cond_true] at fa'
   obtain ⟨v,e3,e4⟩:=zHO ha fa'
   have hb1:σ1.b=σ.b:=by rw [e3,xN]
   obtain ⟨σ1',f1,f2⟩:=xP B (σ':=σ) oa.len.symm hb1.symm rB hb
   have e4:=e4 σ1' (fun t ht=>f2.off t (fun hh=>(wb t hh).1 ht))
   have e:σ1'.put A.dst v=σ2:=by
    have eb:(σ1'.put A.dst v).b=σ2.b:=by rw [xN,f2.b]
    have et:(σ1'.put A.dst v).t=σ2.t:=by
     apply Xd
     intro k
     rw [xR,f2.len']
     by_cases hA:A.dst=some k∧k<σ.t.length
     ·rw [if_pos hA]
      have hkA:k∈Wo A:=yA k hA.1
      rw [ob.fr k (wa k hkA).2,e3,xR,if_pos hA]
     ·rw [if_neg hA]
      by_cases hB:k∈Wo B
      ·exact f2.on k hB
      ·rw [f2.off k hB,ob.fr k hB,e3,xR,if_neg hA]
    cases hz:σ1'.put A.dst v; rw [hz] at eb et; cases σ2; simp only at eb et; rw [eb,et]
   exact ⟨σ1',f1,by rw [e4,e],oa.fr,f2.off,fun d hd=>f2.on d (yA d hd),fun d hd=>ob.fr d (wa d (yA d hd)).2,.inl hb1.symm,.inr (.inr (.inr (by rw [hsa,hla]; rfl)))⟩
  ·
   have hsb:qb.s=true:=h
   simp only [hsb,cond_true] at fb'
   obtain ⟨v,e1,e2⟩:=zHO hb fb'
   have e2:=e2 σ rB
   have hoff:∀ k,k ∉ Wo B→(σ.put B.dst v).t[k]?=σ.t[k]?:=fun k hk=>by rw [xR,if_neg (fun h=>hk (yA k h.1))]
   have hl:(σ.put B.dst v).t.length=σ.t.length:=zjv _ _ _
   obtain ⟨σ2',f1,f2⟩:=xP A (σ':=σ.put B.dst v) hl (xN _ _ _) (fun t ht=>hoff t (fun hh=>(wb t hh).1 ht)) ha
   have e:σ2'=σ2:=by
    have eb:σ2'.b=σ2.b:=by rw [f2.b,e1,xN]
    have et:σ2'.t=σ2.t:=by
     apply Xd
     intro k
     rw [e1,xR,oa.len]
     by_cases hB:B.dst=some k∧k<σ.t.length
     ·rw [if_pos hB]
      have hkB:k∈Wo B:=yA k hB.1
      rw [f2.off k (wb k hkB).2,xR,if_pos hB]
     ·rw [if_neg hB]
      by_cases hA:k∈Wo A
      ·exact f2.on k hA
      ·rw [f2.off k hA,oa.fr k hA,xR,if_neg hB]
    cases σ2'; cases σ2; simp only at eb et; rw [eb,et]
   subst e
   refine ⟨_,e2,f1,oa.fr,hoff,fun d hd=>?_,fun d hd=>f2.on d (yA d hd),.inr (.inr (.inr (by rw [hsb,hlb]; rfl))),.inl (xN _ _ _)⟩
   rw [zSN e1 hd oa.len]
 obtain ⟨σ1',k1,k2,S⟩:=main
 refine ⟨σ1',k1,k2,?_,?_⟩
 ·rw [← fb]
  exact zlF S.bB rB (fun t ht=>(oa.fr t (rr t (.inr ht)).1).symm) S.dB
 ·rw [← fa]
  exact zlF S.bA (fun t ht=>S.fB t (fun hh=>(wb t hh).1 ht)) (fun t ht=>S.fB t (rr t (.inl ht)).2) S.dA
end
section
variable {cb:CB} {nb:Nat} {σ σ' σ1:St} {b':List B} {K:List Nat}
structure FB (K:List Nat) (σ1:St) (b':List B) (σ1':St):Prop where
 t:σ1'.t=σ1.t
 on:∀ j∈K,σ1'.b[j]?=σ1.b[j]?
 off:∀ j,j ∉ K→σ1'.b[j]?=b'[j]?
theorem zML{b b':List B}{i j:Nat}(x:B)(h:b'[j]?=b[j]?):(b'.set i x)[j]?=(b.set i x)[j]?:=by
 by_cases e:i=j
 ·subst e
  by_cases h1:i<b.length
  ·have h2:i<b'.length:=by
    rcases Xn i b'.length with h3 | h3
    ·exact h3
    ·rw [Q3 h3,Wc h1] at h; cases h
   rw [WF h1,WF h2]
  ·have h2:b'.length≤i:=by
    rcases Xn i b'.length with h3 | h3
    ·rw [Q3 (by omega:b.length≤i),Wc h3] at h; cases h
    ·exact h3
   rw [Q3 (by simp; omega),Q3 (by simp; omega)]
 ·rw [WE e,WE e]; exact h
theorem ziU(s:Src)(σ:St)(b':List B):s.get { σ with b:=b' }=s.get σ:=by cases s <;> rfl
theorem zZB(σ τ:St)(h:τ.t=σ.t)(d:Option Nat)(v:V):(τ.put d v).t=(σ.put d v).t:=by cases d <;> simp [St.put,h]
theorem FB.putS{σ τ:St}(h:FB K σ b' τ)(d:Option Nat)(v:V):FB K (σ.put d v) b' (τ.put d v):=
 ⟨zZB _ _ h.t d v,fun j hj=>by rw [xN,xN]; exact h.on j hj,fun j hj=>by rw [xN]; exact h.off j hj⟩
theorem FB.base(hb:∀ j∈K,b'[j]?=σ.b[j]?):FB K σ b' { σ with b:=b' }:=⟨rfl,hb,fun _ _=>rfl⟩
theorem FB.set{σ τ:St}(h:FB K σ b' τ){id:Nat}(hid:id∈K)(x:B):FB K (σ.setB id x) b' (τ.setB id x):=by
 refine ⟨h.t,fun j hj=>zML x (h.on j hj),fun j hj=>?_⟩
 ·simp only [St.setB]
  rw [WE (fun e=>hj (by rw [← e]; exact hid))]
  exact h.off j hj
theorem FB.dem{σ τ:St}(h:FB K σ b' τ)(s:Src):FB K (σ.demote s) b' (τ.demote s):=by
 cases s with
 | const v=>exact h
 | tmp t=>exact ⟨by simp [St.demote,h.t],h.on,h.off⟩
theorem zoJ{τ:St}(F:FB K σ b' τ){d:Option Nat}{x:B}{f:Nat→V}(hd:∀ k,d=some k→nb+k∈K)(h:σ.newB nb d x f=some σ1):∃ σ1',τ.newB nb d x f=some σ1'∧FB K σ1 b' σ1':=by
 cases d with
 | none=>cases h
 | some d=>
  simp only [St.newB] at h ⊢
  rw [F.on _ (hd d rfl)]
  split at h
  ·rename_i hg
   cases h
   exact ⟨_,rfl,(F.set (hd d rfl) x).putS _ _⟩
  ·cases h
theorem zoW{τ:St}(F:FB K σ b' τ){d:Option Nat}{pin:Bool}{sz:Nat}{es:Ls}(hd:∀ k,d=some k→nb+k∈K)(h:σ.putG nb d pin sz es=some σ1):∃ σ1',τ.putG nb d pin sz es=some σ1'∧FB K σ1 b' σ1':=by
 unfold St.putG at h ⊢
 split at h
 ·rename_i hp; rw [if_pos hp]; exact zoJ F hd h
 ·rename_i hp; rw [if_neg hp]; cases h; exact ⟨_,rfl,F.putS _ _⟩
theorem zIp{τ:St}(F:FB K σ b' τ){d:Option Nat}{pin:Bool}{v:V}(hd:∀ k,d=some k→nb+k∈K)(h:σ.putR nb d pin v=some σ1):∃ σ1',τ.putR nb d pin v=some σ1'∧FB K σ1 b' σ1':=by
 cases v with
 | gs sz es=>
  simp only [St.putR] at h ⊢
  split at h
  ·cases h
  ·rename_i hp; rw [if_neg hp]; cases h; exact ⟨_,rfl,F.putS _ _⟩
 | fr sz es=>simp only [St.putR] at h ⊢; exact zoW F hd h
 | bx p cs=>simp only [St.putR] at h ⊢; exact zoJ F hd h
 | _=>simp only [St.putR] at h ⊢; cases h; exact ⟨_,rfl,F.putS _ _⟩
theorem zMC{b b':List B}{id:Nat}(h:b'[id]?=b[id]?):zIu b' id=zIu b id:=by unfold zIu; rw [h]
theorem zxp(b:List B):∀ (n:Nat) (todo acc:List Nat) (x:Nat),x∈acc→x∈ze3 b n todo acc
 | 0,todo,acc,x,h=>by cases todo <;> exact h
 | n+1,[],acc,x,h=>h
 | n+1,id::todo,acc,x,h=>by
  simp only [ze3]
  split
  ·exact zxp b n todo acc x h
  ·exact zxp b n _ _ x (Xf _ h)
theorem zsx{b b':List B}(hb:∀ j∈K,b'[j]?=b[j]?):∀ (n:Nat) (todo acc:List Nat),(∀ x∈ze3 b n todo acc,x∈K)→ze3 b' n todo acc=ze3 b n todo acc
 | 0,todo,acc,h=>by cases todo <;> rfl
 | n+1,[],acc,h=>rfl
 | n+1,id::todo,acc,h=>by
  simp only [ze3] at h ⊢
  split
  ·rename_i hc
   rw [if_pos hc] at h
   exact zsx hb n todo acc h
  ·rename_i hc
   rw [if_neg hc] at h
   have hid:id∈K:=h id (zxp b n _ _ id (by simp))
   rw [zMC (hb id hid)]
   exact zsx hb n _ _ h
theorem zTg{b b':List B}{id j:Nat}(h:b'[id]?=b[id]?)(hj:b'[j]?=b[j]?):(xV b' id)[j]?=(xV b id)[j]?:=by
 unfold xV
 rw [h]
 split
 ·exact zML _ hj
 ·exact hj
theorem zlE{σ τ:St}(ht:τ.t=σ.t):∀ (ss:List (Src × Nat)) (b b':List B),(∀ j∈K,b'[j]?=b[j]?)→(∀ s∈ss,∀ id,zag (s.1.get σ)=some id→id∈K) →
  (∀ j∈K,(zo τ ss b')[j]?=(zo σ ss b)[j]?)∧(∀ j,j ∉ K→(zo τ ss b')[j]?=b'[j]?)
 | [],b,b',hb,hs=>⟨hb,fun _ _=>rfl⟩
 | s::ss,b,b',hb,hs=>by
  have hg:s.1.get τ=s.1.get σ:=by cases hh:s.1 <;> simp [Src.get,ht]
  unfold zo
  rw [hg]
  by_cases h2:2≤s.2
  ·rw [if_pos h2,if_pos h2]
   exact zlE ht ss b b' hb (fun s' h'=>hs s' (by simp [h']))
  ·rw [if_neg h2,if_neg h2]
   cases ho:zag (s.1.get σ) with
   | none=>exact zlE ht ss b b' hb (fun s' h'=>hs s' (by simp [h']))
   | some id=>
    have hid:=hs s (by simp) id ho
    simp only
    obtain ⟨q2,q3⟩:=zlE ht ss (xV b id) (xV b' id) (fun j hj=>zTg (hb id hid) (hb j hj)) (fun s' h'=>hs s' (by simp [h']))
    refine ⟨q2,fun j hj=>?_⟩
    rw [q3 j hj,zCe (fun e=>hj (by rw [e]; exact hid))]
theorem zAG{b b':List B}(ids:List Nat):∀ (l:List Nat),(∀ x∈l,b'[x]?=b[x]?)→ze6 b' ids l=ze6 b ids l
 | [],h=>rfl
 | id::l,h=>by
  simp only [ze6,h id (by simp),zAG ids l (fun x hx=>h x (by simp [hx]))]
theorem zAD{b b':List B}:∀ (xs:List Nat),(∀ x∈xs,b'[nb+x]?=b[nb+x]?)→zlI b' nb xs=zlI b nb xs
 | [],h=>rfl
 | x::xs,h=>by
  simp only [zlI,h x (by simp),zAD xs (fun y hy=>h y (by simp [hy]))]
theorem zx7(g:Nat→Nat):∀ (ids:List Nat) (bor:Bor) (b b':List B),(∀ x∈ids,x∈K)→(∀ j∈K,b'[j]?=b[j]?) →
  (∀ j∈K,(zar g ids bor b')[j]?=(zar g ids bor b)[j]?)∧(∀ j,j ∉ K→(zar g ids bor b')[j]?=b'[j]?)
 | [],bor,b,b',hi,hb=>by cases bor <;> exact ⟨hb,fun _ _=>rfl⟩
 | id::ids,[],b,b',hi,hb=>⟨hb,fun _ _=>rfl⟩
 | id::ids,x::bor,b,b',hi,hb=>by
  simp only [zar]
  obtain ⟨q2,q3⟩:=zx7 g ids bor (b.set id (x.ren g)) (b'.set id (x.ren g)) (fun y hy=>hi y (by simp [hy])) (fun j hj=>zML _ (hb j hj))
  refine ⟨q2,fun j hj=>?_⟩
  rw [q3 j hj,WE (fun e=>hj (by rw [← e]; exact hi id (by simp)))]
theorem zOG{σ τ:St}(ht:τ.t=σ.t){s:Src × Nat}(hb:∀ id,zag (s.1.get σ)=some id→τ.b[id]?=σ.b[id]?):zbo τ s=zbo σ s:=by
 have hg:s.1.get τ=s.1.get σ:=by cases hh:s.1 <;> simp [Src.get,ht]
 unfold zbo
 cases zuk s with
 | some v=>rfl
 | none=>
 simp only
 unfold zyo
 rw [hg]
 cases hl:zpt s.2 (s.1.get σ) with
 | some v=>rfl
 | none=>
  simp only
  have:za0 τ.b (s.1.get σ)=za0 σ.b (s.1.get σ):=by
   cases hx:s.1.get σ with
   | own id off len sz=>
    rw [hx] at hb
    simp only [za0,hb id rfl]
   | _=>rfl
  rw [this]
theorem zCt{τ:St}(F:FB K σ b' τ){d:Option Nat}{pin:Bool}{f:Nat}{args:List V}{ss:List (Src × Nat)}{xs:List Nat}(hK:∀ x∈zaW nb σ d args ss xs,x∈K)
  (h:zea cb nb σ d pin f args ss xs=some σ1):∃ σ1',zea cb nb τ d pin f args ss xs=some σ1'∧FB K σ1 b' σ1'∧zaW nb τ d args ss xs=zaW nb σ d args ss xs:=by
 have h1:∀ x∈zak (zo σ ss σ.b) args,x∈K:=fun x hx=>hK x (by simp [zaW,hx])
 have h2:∀ s∈ss,∀ id,zag (s.1.get σ)=some id→id∈K:=fun s hs id hid=>hK id (by simp only [zaW,QD,QP]; exact .inl (.inl (.inr ⟨s,hs,hid⟩)))
 have h3:∀ x∈xs,nb+x∈K:=fun x hx=>hK _ (by simp only [zaW,QD,List.mem_map]; exact .inl (.inr ⟨x,hx,rfl⟩))
 have h4:∀ k,d=some k→nb+k∈K:=fun k hk=>hK _ (by subst hk; simp [zaW])
 obtain ⟨z2,z3⟩:=zlE (K:=K) F.t ss σ.b τ.b F.on h2
 have hids:zak (zo τ ss τ.b) args=zak (zo σ ss σ.b) args:=by
  unfold zak
  exact zsx z2 40 _ _ (fun x hx=>h1 x hx)
 have hget:∀ s:Src × Nat,zag (s.1.get τ)=zag (s.1.get σ):=fun s=>by
  have hg:s.1.get τ=s.1.get σ:=by cases hh:s.1 <;> simp [Src.get,F.t]
  rw [hg]
 have hc:zaW nb τ d args ss xs=zaW nb σ d args ss xs:=by
  unfold zaW
  rw [hids]
  congr 3
  clear hids z2 z3 hK h1 h2 h
  induction ss with
  | nil=>rfl
  | cons s ss ih=>simp only [Xi,hget s,ih]
 unfold zea at h ⊢
 simp only [hids]
 simp only [Wb,Wa] at h
 obtain ⟨bor,hbor,⟨r,bor'⟩,hcb,h⟩:=h
 simp only at h hcb
 rw [zAG _ _ (fun x hx=>z2 x (h1 x hx)),hbor]
 simp only [Wb,QT,hcb]
 rw [zAD (nb:=nb) (b:=zo σ ss σ.b) (b':=zo τ ss τ.b) xs (fun x hx=>z2 _ (h3 x hx))]
 split at h
 ·rename_i hcond
  rw [if_pos hcond]
  have hids':∀ x∈zak (zo σ ss σ.b) args++(xs.map (nb+·)).take (bor'.length-(zak (zo σ ss σ.b) args).length),x∈K:=by
   intro x hx
   rcases QD.1 hx with hx | hx
   ·exact h1 x hx
   ·obtain ⟨y,hy,rfl⟩:=List.mem_map.1 (WV hx)
    exact h3 y hy
  generalize hG:(fun k=>(zak (zo σ ss σ.b) args++(xs.map (nb+·)).take (bor'.length-(zak (zo σ ss σ.b) args).length)).getD k 0)=G at h ⊢
  obtain ⟨y2,y3⟩:=zx7 (K:=K) G _ bor' (zo σ ss σ.b) (zo τ ss τ.b) hids' z2
  have F':FB K { σ with b:=zar G (zak (zo σ ss σ.b) args++(xs.map (nb+·)).take (bor'.length-(zak (zo σ ss σ.b) args).length)) bor' (zo σ ss σ.b) } b' { τ with b:=zar G (zak (zo σ ss σ.b) args++(xs.map (nb+·)).take (bor'.length-(zak (zo σ ss σ.b) args).length)) bor' (zo τ ss τ.b) }:=
   ⟨F.t,y2,fun j hj=>by rw [y3 j hj,z3 j hj]; exact F.off j hj⟩
  obtain ⟨σ1',e1,e2⟩:=zIp F' h4 h
  exact ⟨σ1',e1,e2,hc⟩
 ·cases h
theorem zQh{b b':List B}{v:V}(hv:∀ id,zag v=some id→b'[id]?=b[id]?):za0 b' v=za0 b v:=by
 cases v with
 | own id off len sz=>simp only [za0,hv id rfl]
 | _=>rfl
theorem zQq{d:Option Nat}{pin agg take:Bool}{n:Nat}{a:Src}(hK:∀ id off,a.get σ=.ptr id off→id∈K)(hb:∀ j∈K,b'[j]?=σ.b[j]?)(h:zd cb nb σ d pin (.load agg n a take)=some σ1) :
  ∃ σ1',zd cb nb { σ with b:=b' } d pin (.load agg n a take)=some σ1'∧FB K σ1 b' σ1':=by
 have F:=FB.base (K:=K) hb
 by_cases hq:(agg||!take)=true
 ·obtain ⟨v,rfl,h2⟩:=zFL (σ':={ σ with b:=b' }) hq (ziU _ _ _) (fun id off hh=>hb id (hK id off hh)) h
  exact ⟨_,h2,F.putS _ _⟩
 ·have e1:agg=false:=by cases agg <;> simp_all
  have e2:take=true:=by cases take <;> simp_all
  subst e1; subst e2
  simp only [zd,ziU] at h ⊢
  cases hx:a.get σ with
  | ptr id off=>
   rw [hx] at h
   have hid:=hK id off hx
   simp only [hb id hid] at h ⊢
   cases hbb:σ.b[id]? with
   | none=>rw [hbb] at h; cases h
   | some x=>
    rw [hbb] at h
    cases x with
    | live p cs=>
     simp only [WP,if_false,if_true] at h ⊢
     cases hv:cs[off]? with
     | none=>rw [hv] at h; cases h
     | some v=>
      rw [hv] at h
      simp only at h ⊢
      split at h
      ·cases h
      ·rename_i hp
       rw [if_neg hp]
       cases h
       exact ⟨_,rfl,(F.set hid _).putS _ _⟩
    | fz cs=>
     simp only [WP,if_false] at h ⊢
     cases hv:cs[off]? with
     | none=>rw [hv] at h; cases h
     | some v=>rw [hv] at h; simp only at h ⊢; cases h; exact ⟨_,rfl,F.putS _ _⟩
    | _=>cases h
  | fp m cs=>
   rw [hx] at h
   simp only [WP,if_false] at h ⊢
   cases hv:cs[0]? with
   | none=>rw [hv] at h; cases h
   | some v=>rw [hv] at h; simp only at h ⊢; cases h; exact ⟨_,rfl,F.putS _ _⟩
  | _=>rw [hx] at h; cases h
theorem zOB{d:Option Nat}{pin:Bool}{n:Nat}{a x:Src}(hK:∀ id off,a.get σ=.ptr id off→id∈K)(hb:∀ j∈K,b'[j]?=σ.b[j]?)(h:zd cb nb σ d pin (.store n a x)=some σ1) :
  ∃ σ1',zd cb nb { σ with b:=b' } d pin (.store n a x)=some σ1'∧FB K σ1 b' σ1':=by
 have F:=FB.base (K:=K) hb
 simp only [zd,ziU] at h ⊢
 split at h
 ·cases h
 ·rename_i hd
  rw [if_neg hd]
  cases hx:a.get σ with
  | ptr id off=>
   rw [hx] at h
   have hid:=hK id off hx
   simp only [hb id hid] at h ⊢
   cases hbb:σ.b[id]? with
   | none=>rw [hbb] at h; cases h
   | some y=>
    rw [hbb] at h
    cases y with
    | live p cs=>
     cases p with
     | true=>
      simp only [Wb,Wa] at h ⊢
      obtain ⟨v,h1,h2⟩:=h
      split at h2
      ·rename_i hc
       cases h2
       exact ⟨_,⟨v,h1,by rw [if_pos hc]⟩,F.set hid _⟩
      ·cases h2
     | false=>
      simp only at h ⊢
      cases hv:x.get σ with
      | agg us=>
       rw [hv] at h
       simp only at h ⊢
       split at h
       ·rename_i hc; rw [if_pos hc]; cases h; exact ⟨_,rfl,F.set hid _⟩
       ·cases h
      | st us=>
       rw [hv] at h
       simp only at h ⊢
       split at h
       ·rename_i hc; rw [if_pos hc]; cases h; exact ⟨_,rfl,F.set hid _⟩
       ·cases h
      | tup vs=>rw [hv] at h; cases h
      | bx p cs=>rw [hv] at h; cases h
      | junk=>rw [hv] at h; cases h
      | _=>
       rw [hv] at h
       simp only at h ⊢
       split at h
       ·rename_i hc; rw [if_pos hc]; cases h; exact ⟨_,rfl,(F.dem x).set hid _⟩
       ·cases h
    | _=>cases h
  | _=>rw [hx] at h; cases h
theorem zRj{b b':List B}{v:V}(hv:∀ id,zag v=some id→b'[id]?=b[id]?):zqC b' v=zqC b v:=by
 cases v with
 | own id off len sz=>simp only [zqC,hv id rfl]
 | _=>rfl
theorem zO4{d:Option Nat}{pin:Bool}{n:Nat}{a:Src}(hK:∀ id off,a.get σ=.ptr id off→id∈K∧∀ j∈zxX σ.b id off n,j∈K)(hb:∀ j∈K,b'[j]?=σ.b[j]?)(h:zd cb nb σ d pin (.loadS n a)=some σ1) :
  ∃ σ1',zd cb nb { σ with b:=b' } d pin (.loadS n a)=some σ1'∧FB K σ1 b' σ1':=by
 have F:=FB.base (K:=K) hb
 simp only [zd,ziU] at h ⊢
 cases hx:a.get σ with
 | ptr id off=>
  rw [hx] at h
  obtain ⟨h1,h2⟩:=hK id off hx
  simp only [hb id h1] at h ⊢
  cases hbl:σ.b[id]? with
  | none=>rw [hbl] at h; cases h
  | some B=>
   rw [hbl] at h
   cases B with
   | live p cs=>
    cases p with
    | true=>cases h
    | false=>
     simp only at h ⊢
     split at h
     ·rename_i hc
      rw [if_pos hc]
      have e:((cs.drop off).take n).mapM (zqC b')=((cs.drop off).take n).mapM (zqC σ.b):=zew _ (fun v hv=>zRj fun j hj=>hb j (h2 j (by simp only [zxX,hbl]; exact QP.2 ⟨v,hv,hj⟩)))
      rw [e]
      cases hm:((cs.drop off).take n).mapM (zqC σ.b) with
      | none=>rw [hm] at h; cases h
      | some vs=>rw [hm] at h; cases h; exact ⟨_,rfl,F.putS _ _⟩
     ·cases h
   | _=>cases h
 | _=>rw [hx] at h; cases h
theorem zG6{xs:List (Src × Nat)}(hb:∀ j∈K,b'[j]?=σ.b[j]?)(hK:∀ s∈xs,∀ id,zag (s.1.get σ)=some id→id∈K):xs.mapM (zbo { σ with b:=b' })=xs.mapM (zbo σ):=
 zew xs (fun s hs=>zOG (σ:=σ) (τ:={ σ with b:=b' }) rfl (fun id hid=>hb id (hK s hs id hid)))
theorem zFp{d:Option Nat}{vs:List V}{xs:List (Src × Nat)}{ys:List Nat}:∀ s∈xs,∀ id,zag (s.1.get σ)=some id→id∈zaW nb σ d vs xs ys:=fun s hs id hid=>by
 simp only [zaW,QD,QP]; exact .inl (.inl (.inr ⟨s,hs,hid⟩))
theorem zGD{d:Option Nat}(hk:(d.map fun d=>[nb+d])=some K):∀ k,d=some k→nb+k∈K:=fun k hd=>by
 subst hd; simp at hk; simp [← hk]
theorem zua{o:COp}(hk:kOf nb σ o=some K)(hb:∀ j∈K,b'[j]?=σ.b[j]?)(h:yk cb nb σ o=some σ1) :
  ∃ σ1',yk cb nb { σ with b:=b' } o=some σ1'∧FB K σ1 b' σ1'∧kOf nb { σ with b:=b' } o=some K:=by
 have F:=FB.base (K:=K) hb
 unfold yk at h ⊢
 unfold kOf at hk ⊢
 rw [zaJ (σ':={ σ with b:=b' }) (σ:=σ) (fun _ _ _=>rfl)]
 cases hg:y8 σ o.guard with
 | none=>rw [hg] at h; cases h
 | some g=>
  rw [hg] at h hk
  cases g with
  | false=>simp only at h hk ⊢; cases h; exact ⟨_,rfl,F.putS _ _,hk⟩
  | true=>
   simp only at h hk ⊢
   cases hkk:o.k with
   | load agg n a take=>
    rw [hkk] at h hk
    simp only [ziU] at hk ⊢
    obtain ⟨σ1',e1,e2⟩:=zQq (K:=K) (fun id off hx=>by rw [hx] at hk; simp at hk; simp [← hk]) hb h
    exact ⟨σ1',e1,e2,hk⟩
   | loadS n a=>
    rw [hkk] at h hk
    simp only [ziU] at hk ⊢
    obtain ⟨σ1',e1,e2⟩:=zO4 (K:=K) (fun id off hx=>by rw [hx] at hk; simp only [Wg] at hk; rw [← hk]; exact ⟨by simp,fun j hj=>by simp [hj]⟩) hb h
    refine ⟨σ1',e1,e2,?_⟩
    cases hx:a.get σ with
    | ptr id off=>
     rw [hx] at hk
     simp only [Wg] at hk ⊢
     have:zxX b' id off n=zxX σ.b id off n:=by unfold zxX; rw [hb id (by rw [← hk]; simp)]
     rw [this,hk]
    | _=>rw [hx] at hk; cases hk
   | store n a x=>
    rw [hkk] at h hk
    simp only [ziU] at hk ⊢
    obtain ⟨σ1',e1,e2⟩:=zOB (K:=K) (fun id off hx=>by rw [hx] at hk; simp at hk; simp [← hk]) hb h
    exact ⟨σ1',e1,e2,hk⟩
   | alloc p cs=>
    rw [hkk] at h hk
    simp only at hk ⊢
    simp only [zd] at h ⊢
    obtain ⟨σ1',e1,e2⟩:=zoJ F (zGD hk) h
    exact ⟨σ1',e1,e2,hk⟩
   | box p x=>
    rw [hkk] at h hk
    simp only at hk ⊢
    simp only [zd,ziU] at h ⊢
    have gen:∀ y,σ.newB nb o.dst y (fun id=>.ptr id 0)=some σ1→∃ σ1',({ σ with b:=b' }:St).newB nb o.dst y (fun id=>.ptr id 0)=some σ1'∧FB K σ1 b' σ1'∧(o.dst.map fun d=>[nb+d])=some K:=fun y hy=>by
     obtain ⟨σ1',e1,e2⟩:=zoJ F (zGD hk) hy
     exact ⟨σ1',e1,e2,hk⟩
    cases hx:x.get σ with
    | st cs=>
     rw [hx] at h
     simp only at h ⊢
     split at h
     ·cases h
     ·rename_i hp; rw [if_neg hp]; exact gen _ h
    | _=>
     rw [hx] at h
     simp only at h ⊢
     split at h
     ·exact gen _ h
     ·cases h
   | buildSlice sz n z ps=>
    rw [hkk] at h hk
    simp only at hk ⊢
    simp only [zd,zkr (σ:=σ) (σ':={ σ with b:=b' }) ps _ (fun _ _=>rfl),Wb,Wa] at h ⊢
    obtain ⟨cs,h1,h2⟩:=h
    split at h2
    ·rename_i hc
     cases h2
     exact ⟨_,⟨cs,h1,by rw [if_pos hc]⟩,F.putS _ _,hk⟩
    ·rename_i hc
     obtain ⟨σ1',e1,e2⟩:=zoW F (zGD hk) h2
     exact ⟨σ1',⟨cs,h1,by rw [if_neg hc]; exact e1⟩,e2,hk⟩
   | makeSlice sz bytes z l c=>
    rw [hkk] at h hk
    simp only at hk ⊢
    simp only [zd,ziU] at h ⊢
    split at h
    ·rename_i lv cv hl1 hc1
     split at h
     ·rename_i hc
      rw [if_pos hc]
      split at h
      ·rename_i hp
       rw [if_pos hp]
       obtain ⟨σ1',e1,e2⟩:=zoJ F (zGD hk) h
       exact ⟨σ1',e1,e2,hk⟩
      ·rename_i hp
       rw [if_neg hp]
       obtain ⟨σ1',e1,e2⟩:=zoW F (zGD hk) h
       exact ⟨σ1',e1,e2,hk⟩
     ·cases h
    ·cases h
   | extract x i=>
    rw [hkk] at h hk
    simp only at hk ⊢
    simp only [zd,ziU] at h ⊢
    cases hx:x.get σ with
    | tup vs=>
     rw [hx] at h
     simp only at h ⊢
     split at h
     ·rename_i v t hvi
      split at h
      ·rename_i hc
       rw [if_pos hc]
       split at h
       ·rename_i hh
        rw [if_pos hh]
        have F':FB K { σ with t:=σ.t.set t (.tup (vs.set i .junk)) } b' { t:=σ.t.set t (.tup (vs.set i .junk)),b:=b' }:=⟨rfl,F.on,F.off⟩
        obtain ⟨σ1',e1,e2⟩:=zIp F' (zGD hk) h
        exact ⟨σ1',e1,e2,hk⟩
       ·rename_i hh
        rw [if_neg hh]
        split at h
        ·cases h
        ·rename_i hp
         rw [if_neg hp]
         cases h
         exact ⟨_,rfl,F.putS _ _,hk⟩
      ·cases h
     ·cases h
    | _=>rw [hx] at h; cases h
   | move x take=>
    rw [hkk] at h hk
    simp only at hk ⊢
    simp only [zd,ziU] at h ⊢
    split at h
    ·cases h
    ·rename_i hp
     rw [if_neg hp]
     split at h
     ·rename_i ht; rw [if_pos ht]; cases h; exact ⟨_,rfl,(F.dem x).putS _ _,hk⟩
     ·rename_i ht; rw [if_neg ht]; cases h; exact ⟨_,rfl,F.putS _ _,hk⟩
   | append sz bytes s x=>
    rw [hkk] at h hk
    simp only [ziU] at hk ⊢
    have hx:zag (x.get σ)=none:=by
     cases hx:x.get σ with
     | own id off len sz=>rw [hx] at hk; cases hs:s.get σ <;> rw [hs] at hk <;> cases hk
     | _=>rfl
    have hv:za0 b' (x.get σ)=za0 σ.b (x.get σ):=zQh (fun id hid=>by rw [hx] at hid; cases hid)
    have hd:∀ k,o.dst=some k→nb+k∈K:=by
     refine zGD ?_
     split at hk <;> first | exact hk | cases hk
    simp only [zd,ziU,hv] at h ⊢
    split at h
    ·rename_i sz1 es sz2 es2 hs hvx
     split at h
     ·rename_i hc
      rw [if_pos hc]
      split at h
      ·rename_i hp
       rw [if_pos hp]
       split at h
       ·obtain ⟨σ1',e1,e2⟩:=zoW F hd h
        exact ⟨σ1',e1,e2,hk⟩
       ·cases h
      ·rename_i hp
       rw [if_neg hp]
       cases h
       exact ⟨_,rfl,(F.dem s).putS _ _,hk⟩
     ·cases h
    ·rename_i sz1 sz2 es2 hs hvx
     split at h
     ·rename_i hc
      rw [if_pos hc]
      obtain ⟨σ1',e1,e2⟩:=zoW (F.dem s) hd h
      exact ⟨σ1',e1,e2,hk⟩
     ·cases h
    ·rename_i hs hvx
     rw [hs] at hk
     exfalso
     split at hk <;> simp_all
    ·rename_i hs hvx
     rw [hs] at hk
     exfalso
     split at hk <;> simp_all
    ·cases h
   | call f xs ys=>
    rw [hkk] at h hk
    simp only at hk ⊢
    simp only [zd,Wb,Wa] at h ⊢
    obtain ⟨vs,h1,h2⟩:=h
    rw [h1] at hk
    simp only [Wg] at hk
    have hm:xs.mapM (zbo { σ with b:=b' })=some vs:=by
     rw [zG6 hb (fun s hs id hid=>by rw [← hk]; exact zFp s hs id hid),h1]
    obtain ⟨σ1',e1,e2,e3⟩:=zCt F (fun x hx=>by rw [← hk]; exact hx) h2
    refine ⟨σ1',⟨vs,hm,e1⟩,e2,?_⟩
    simp only [hm,e3,hk]
   | callv f xs ys=>
    rw [hkk] at h hk
    simp only [ziU] at hk ⊢
    simp only [zd,ziU] at h ⊢
    cases hf:f.get σ with
    | fn g caps=>
     rw [hf] at h hk
     simp only [Wb,Wa] at h hk ⊢
     obtain ⟨vs,h1,h2⟩:=h
     rw [h1] at hk
     simp only [Wg] at hk
     have hm:xs.mapM (zbo { σ with b:=b' })=some vs:=by
      rw [zG6 hb (fun s hs id hid=>by rw [← hk]; exact zFp s hs id hid),h1]
     obtain ⟨σ1',e1,e2,e3⟩:=zCt F (fun x hx=>by rw [← hk]; exact hx) h2
     refine ⟨σ1',⟨vs,hm,e1⟩,e2,?_⟩
     simp only [hm,e3,hk]
    | _=>rw [hf] at h; cases h
   | _=>rw [hkk] at hk; cases hk
theorem zHC{o:COp}(hk:kOf nb σ o=some K)(h:yk cb nb σ o=some σ1):∀ j,j ∉ K→σ1.b[j]?=σ.b[j]?:=by
 obtain ⟨σ1',e1,e2,_⟩:=zua (b':=σ.b) hk (fun _ _=>rfl) h
 rw [h] at e1
 cases e1
 exact e2.off
theorem zSl{r id:Nat}(h:zJW σ r id=true):(σ.t[r]?).bind zyk=some id:=by
 unfold zJW at h
 split at h
 ·rename_i v hr
  split at h
  ·rename_i id' hv
   rw [hr,QT,hv,Wd h]
  ·cases h
 ·cases h
theorem zOQ{r id:Nat}(h:zrS σ K r=true)(hr:(σ.t[r]?).bind zyk=some id):id ∉ K:=by
 unfold zrS at h
 rw [Wa] at hr
 obtain ⟨v,hv,hs⟩:=hr
 rw [hv] at h
 simp only [hs] at h
 intro hh
 simp only [Xe.2 hh,Xh,WP] at h
theorem zrs{r:Option Nat}{w:List Nat}(h:zlf r w=true):∃ x,r=some x∧x∈w:=by
 cases r with
 | none=>cases h
 | some x=>exact ⟨x,rfl,Xe.1 h⟩
structure Loc1 (nb:Nat) (σ:St) (o:COp) (fl:Fl) (K:List Nat):Prop where
 k:kOf nb σ o=some K
 root:∀ r,fl.root=some r→∀ id∈K,(σ.t[r]?).bind zyk=some id
 nw:fl.nw=true→∃ d,zzt o=some d∧∀ id∈K,id=nb+d
 w:∀ r∈fl.w,∀ id,(σ.t[r]?).bind zyk=some id→id ∉ K
 wn:∀ n∈fl.wn,nb+n ∉ K
theorem zwR{o:COp}{fl:Fl}(h:zo6 nb σ o fl=true):∃ K,Loc1 nb σ o fl K:=by
 unfold zo6 at h
 split at h
 ·rename_i K hk
  simp only [Wh] at h
  obtain ⟨⟨⟨h1,h2⟩,h3⟩,h4⟩:=h
  refine ⟨K,hk,fun r hr id hid=>?_,fun hn=>?_,fun r hr id hs=>?_,fun n hn hh=>?_⟩
  ·rw [hr] at h1
   exact zSl (QO.1 h1 id hid)
  ·rw [hn] at h2
   simp only [Xh,Bool.false_or] at h2
   split at h2
   ·rename_i d hd
    exact ⟨d,hd,fun id hid=>Wd (QO.1 h2 id hid)⟩
   ·cases h2
  ·exact zOQ (QO.1 h3 r hr) hs
  ·have:=QO.1 h4 n hn
   rw [Xe.2 hh] at this
   cases this
 ·cases h
theorem zSe{o:COp}(h:zQD o.k=true)(hk:kOf nb σ o=some K):K=[]:=by
 unfold kOf at hk
 split at hk
 ·cases hk
 ·cases hk; rfl
 ·cases hkk:o.k <;> rw [hkk] at h hk <;> first | (cases h; done) | (cases hk; rfl)
theorem zFc{o:COp}{fl:Fl}(hl:zKk o.k=true)(h:zo6 nb σ o fl=true):zcq σ o σ1=true:=by
 obtain ⟨K,L⟩:=zwR h
 have hk:=L.k
 unfold kOf at hk
 unfold zcq
 cases hg:y8 σ o.guard with
 | none=>rw [hg] at hk; cases hk
 | some g=>
  cases g with
  | false=>rfl
  | true=>cases hkk:o.k <;> rw [hkk] at hl <;> first | (cases hl; done) | exact hl | simpa [zKk,zUk,zab] using hl
theorem zZz{A B:COp}{KA KB:List Nat}{σ σ1 σ2:St}(ha:yk cb nb σ A=some σ1)(hb:yk cb nb σ1 B=some σ2)(hA:kOf nb σ A=some KA)(hB:kOf nb σ1 B=some KB)(hd:∀ j∈KA,j ∉ KB)
  (wa:∀ k∈Wo A,k ∉ yJ B∧k ∉ Wo B) (wb:∀ k∈Wo B,k ∉ yJ A∧k ∉ Wo A) :
  ∃ σ1',yk cb nb σ B=some σ1'∧yk cb nb σ1' A=some σ2∧kOf nb σ B=some KB∧kOf nb σ1' A=some KA∧(∀ k,k ∉ Wo B→σ1'.t[k]?=σ.t[k]?):=by
 obtain ⟨_,_,oa⟩:=xP A rfl rfl (fun _ _=>rfl) ha
 obtain ⟨_,_,ob⟩:=xP B rfl rfl (fun _ _=>rfl) hb
 have fA:=zHC hA ha
 have fB:=zHC hB hb
 have rB:∀ t∈yJ B,σ.t[t]?=σ1.t[t]?:=fun t ht=>(oa.fr t (fun hh=>(wa t hh).1 ht)).symm
 let τ:St:={ t:=σ.t,b:=σ1.b }
 obtain ⟨τ1,g1,o1⟩:=xP B (σ':=τ) oa.len.symm rfl rB hb
 have kB:kOf nb τ B=some KB:=by rw [zBJ (σ:=σ1) (σ':=τ) (.inl rfl) rB,hB]
 obtain ⟨σ1',e1,F1,k1⟩:=zua (b':=σ.b) kB (fun j hj=>(fA j (fun hh=>hd j hh hj)).symm) g1
 let τ2:St:={ t:=σ1'.t,b:=σ.b }
 have hoff:∀ k,k ∉ Wo B→σ1'.t[k]?=σ.t[k]?:=fun k hk=>by rw [F1.t]; exact o1.off k hk
 have rA:∀ t∈yJ A,τ2.t[t]?=σ.t[t]?:=fun t ht=>hoff t (fun hh=>(wb t hh).1 ht)
 have hlen:τ2.t.length=σ.t.length:=by show σ1'.t.length=_; rw [F1.t]; exact o1.len'
 obtain ⟨σ3,g2,o2⟩:=xP A (σ':=τ2) hlen rfl rA ha
 have kA:kOf nb τ2 A=some KA:=by rw [zBJ (σ:=σ) (σ':=τ2) (.inl rfl) rA,hA]
 obtain ⟨σ4,e2,F2,k2⟩:=zua (b':=σ1'.b) kA (fun j hj=>F1.off j (hd j hj)) g2
 have e:σ4=σ2:=by
  have et:σ4.t=σ2.t:=by
   rw [F2.t]
   apply Xd
   intro k
   by_cases hA:k∈Wo A
   ·rw [o2.on k hA,ob.fr k (wa k hA).2]
   ·rw [o2.off k hA]
    show σ1'.t[k]?=_
    rw [F1.t]
    by_cases hB:k∈Wo B
    ·exact o1.on k hB
    ·rw [o1.off k hB,ob.fr k hB,oa.fr k hA]
  have eb:σ4.b=σ2.b:=by
   apply Xd
   intro j
   by_cases hj:j∈KA
   ·rw [F2.on j hj,o2.b,fB j (hd j hj)]
   ·rw [F2.off j hj]
    by_cases hk:j∈KB
    ·rw [F1.on j hk,o1.b]
    ·rw [F1.off j hk,fB j hk,fA j hj]
  cases σ4; cases σ2; simp only at et eb; rw [et,eb]
 rw [e] at e2
 exact ⟨σ1',e1,e2,k1,k2,hoff⟩
def ldV(agg:Bool)(n:Nat)(take:Bool)(a:V)(b:List B):Option V:=match a with
 | .ptr id off=>match b[id]? with
  | some (.live p cs)=>if agg then (if off+n≤cs.length then (if p then some (.agg ((cs.drop off).take n)) else if take then (((cs.drop off).take n).mapM V.refd).map .st else (((cs.drop off).take n).mapM V.plain).map .agg) else none) else (cs[off]?).map V.dem
  | some (.fz cs)=>if agg then (if off+n≤cs.length then some (.agg ((cs.drop off).take n)) else none) else cs[off]?
  | _=>none
 | .fp m cs=>if agg then (if n≤m then some (.agg (cs.take n)) else none) else cs[0]?
 | _=>none
theorem zNT{d:Option Nat}{pin agg take:Bool}{n:Nat}{s:Src}(hq:(agg||!take)=true):zd cb nb σ d pin (.load agg n s take)=(ldV agg n take (s.get σ) σ.b).map (fun v=>σ.put d v):=by
 simp only [zd,ldV]
 cases s.get σ with
 | ptr id off=>
  simp only
  cases σ.b[id]? with
  | none=>rfl
  | some x=>
   cases x with
   | live p cs=>
    simp only
    cases agg with
    | true=>
     simp only [if_true]
     split
     ·cases p with
      | true=>simp
      | false=>
       cases take with
       | true=>simp only [WP,if_false,if_true]; cases ((cs.drop off).take n).mapM V.refd <;> rfl
       | false=>simp only [WP,if_false]; cases ((cs.drop off).take n).mapM V.plain <;> rfl
     ·rfl
    | false=>
     have ht:take=false:=by simpa using hq
     subst ht
     simp only [WP,if_false]
     cases cs[off]? <;> rfl
   | fz cs=>
    simp only
    cases agg with
    | true=>simp only [if_true]; split <;> rfl
    | false=>simp only [WP,if_false]; cases cs[off]? <;> rfl
   | _=>rfl
 | fp m cs=>
  simp only
  cases agg with
  | true=>simp only [if_true]; split <;> rfl
  | false=>simp only [WP,if_false]; cases cs[0]? <;> rfl
 | _=>rfl
def Dm(b b1:List B):Prop:=∀ j:Nat,b1[j]?=b[j]?∨∃ (cs:List V) (off:Nat) (v:V),b[j]?=some (B.live false cs)∧cs[off]?=some v∧b1[j]?=some (B.live false (cs.set off v.dem))
theorem zJo(v:V):v.dem.dem=v.dem:=by
 cases v with
 | tup vs=>cases vs <;> rfl
 | _=>rfl
theorem zTl(v:V):v.dem.plain=v.plain:=by
 cases v with
 | tup vs=>cases vs <;> rfl
 | _=>rfl
theorem zT2(v:V):v.dem.refd=v.refd:=by
 cases v with
 | tup vs=>cases vs <;> rfl
 | _=>rfl
theorem zP8{f:V→Option V}:∀ (l1 l2:List V),(∀ i:Nat,(l1[i]?).map f=(l2[i]?).map f)→l1.mapM f=l2.mapM f
 | [],[],_=>rfl
 | [],b::l2,h=>by have:=h 0; simp at this
 | a::l1,[],h=>by have:=h 0; simp at this
 | a::l1,b::l2,h=>by
  have h0:f a=f b:=by have:=h 0; simpa using this
  have ih:=zP8 l1 l2 (fun i=>by have:=h (i+1); simpa using this)
  rw [List.mapM_cons,List.mapM_cons,h0,ih]
theorem zXQ{f:V→Option V}(hf:∀ v:V,f v.dem=f v){cs:List V}{k:Nat}{v:V}(hk:cs[k]?=some v)(i:Nat):((cs.set k v.dem)[i]?).map f=(cs[i]?).map f:=by
 by_cases e:k=i
 ·subst e
  have hlt:=(Wi.1 hk).1
  rw [WF hlt,hk]
  simp [hf]
 ·rw [WE e]
theorem zRS{f:V→Option V}(hf:∀ v:V,f v.dem=f v){cs:List V}{k:Nat}{v:V}(hk:cs[k]?=some v)(off n:Nat):(((cs.set k v.dem).drop off).take n).mapM f=((cs.drop off).take n).mapM f:=by
 refine zP8 _ _ (fun i=>?_)
 rw [Wn,Wn]
 split
 ·rw [Wp,Wp]; exact zXQ hf hk _
 ·rfl
theorem zSz{agg take:Bool}{n:Nat}{a:V}{b b1:List B}(hd:Dm b b1):ldV agg n take a b1=ldV agg n take a b:=by
 cases a with
 | ptr id off=>
  simp only [ldV]
  rcases hd id with e | ⟨cs,k,v,e1,e2,e3⟩
  ·rw [e]
  ·rw [e1,e3]
   simp only [QI,WP,if_false,zRS zT2 e2,zRS zTl e2]
   congr 1
   by_cases e:k=off
   ·subst e
    have hlt:=(Wi.1 e2).1
    rw [WF hlt,e2]
    simp [zJo]
   ·rw [WE e]
 | _=>rfl
theorem zKm{o:COp}(hl:zab o.k=true)(hr:∀ t∈yJ o,σ'.t[t]?=σ.t[t]?)(hd:Dm σ.b σ'.b∨Dm σ'.b σ.b)(h:yk cb nb σ o=some σ1):∃ v,σ1=σ.put o.dst v∧yk cb nb σ' o=some (σ'.put o.dst v):=by
 unfold yk at h ⊢
 rw [zaJ (fun j w hg=>hr j (za8 hg))]
 split at h
 ·cases hk:o.k with
  | load agg n a take=>
   rw [hk] at h hl
   have hg:a.get σ'=a.get σ:=yh (fun t ht=>hr t (zdN (by rw [hk]; exact ht)))
   rw [zNT hl] at h
   rw [zNT hl,hg]
   have e:ldV agg n take (a.get σ) σ'.b=ldV agg n take (a.get σ) σ.b:=by
    rcases hd with hd | hd
    ·exact zSz hd
    ·exact (zSz hd).symm
   rw [e]
   rw [Wj] at h
   obtain ⟨v,h1,rfl⟩:=h
   exact ⟨v,rfl,by rw [h1]; rfl⟩
  | _=>rw [hk] at hl; cases hl
 ·cases h; exact ⟨_,rfl,rfl⟩
 ·cases h
theorem Dm.rfl'{b:List B}:Dm b b:=fun _=>.inl rfl
theorem zPM{o:COp}(ht:zqM o.k=true)(h:yk cb nb σ o=some σ1):Dm σ.b σ1.b:=by
 unfold yk at h
 split at h
 ·cases hk:o.k with
  | load agg n a take=>
   rw [hk] at h ht
   cases agg with
   | true=>cases ht
   | false=>
    cases take with
    | false=>cases ht
    | true=>
     simp only [zd] at h
     cases hx:a.get σ with
     | ptr id off=>
      rw [hx] at h
      simp only at h
      cases hb:σ.b[id]? with
      | none=>rw [hb] at h; cases h
      | some x=>
       rw [hb] at h
       cases x with
       | live p cs=>
        simp only [WP,if_false,if_true] at h
        cases hv:cs[off]? with
        | none=>rw [hv] at h; cases h
        | some v=>
         rw [hv] at h
         simp only at h
         split at h
         ·cases h
         ·rename_i hp
          have hp:p=false:=by cases p <;> simp_all
          subst hp
          cases h
          rw [xN]
          intro j
          by_cases e:id=j
          ·subst e
           refine .inr ⟨cs,off,v,hb,hv,?_⟩
           simp only [St.setB]
           rw [WF (Wi.1 hb).1]
          ·refine .inl ?_
           simp only [St.setB]
           rw [WE e]
       | fz cs=>
        simp only [WP,if_false] at h
        cases hv:cs[off]? with
        | none=>rw [hv] at h; cases h
        | some v=>rw [hv] at h; cases h; rw [xN]; exact Dm.rfl'
       | _=>cases h
     | fp m cs=>
      rw [hx] at h
      simp only [WP,if_false] at h
      cases hv:cs[0]? with
      | none=>rw [hv] at h; cases h
      | some v=>rw [hv] at h; cases h; rw [xN]; exact Dm.rfl'
     | _=>rw [hx] at h; cases h
  | _=>rw [hk] at ht; cases ht
 ·cases h; rw [xN]; exact Dm.rfl'
 ·cases h
theorem zXi{A B:COp}{σ σ1 σ2:St}(ha:yk cb nb σ A=some σ1)(hb:yk cb nb σ1 B=some σ2)(hl:zab A.k=true)(ht:zqM B.k=true)
  (wa:∀ k∈Wo A,k ∉ yJ B∧k ∉ Wo B) (wb:∀ k∈Wo B,k ∉ yJ A∧k ∉ Wo A) :
  ∃ σ1',yk cb nb σ B=some σ1'∧yk cb nb σ1' A=some σ2∧(∀ k,k ∉ Wo B→σ1'.t[k]?=σ.t[k]?):=by
 obtain ⟨_,_,oa⟩:=xP A rfl rfl (fun _ _=>rfl) ha
 obtain ⟨_,_,ob⟩:=xP B rfl rfl (fun _ _=>rfl) hb
 have rB:∀ t∈yJ B,σ.t[t]?=σ1.t[t]?:=fun t ht=>(oa.fr t (fun hh=>(wa t hh).1 ht)).symm
 obtain ⟨v,e3,_⟩:=zKm (σ':=σ) hl (fun _ _=>rfl) (.inl Dm.rfl') ha
 have hb1:σ1.b=σ.b:=by rw [e3,xN]
 obtain ⟨σ1',f1,f2⟩:=xP B (σ':=σ) oa.len.symm hb1.symm rB hb
 obtain ⟨v',e3',e4⟩:=zKm (σ':=σ1') hl (fun t ht=>f2.off t (fun hh=>(wb t hh).1 ht)) (.inl (zPM ht f1)) ha
 have e:σ1'.put A.dst v'=σ2:=by
  have eb:(σ1'.put A.dst v').b=σ2.b:=by rw [xN,f2.b]
  have et:(σ1'.put A.dst v').t=σ2.t:=by
   apply Xd
   intro k
   rw [xR,f2.len']
   by_cases hA:A.dst=some k∧k<σ.t.length
   ·rw [if_pos hA]
    have hkA:k∈Wo A:=yA k hA.1
    rw [ob.fr k (wa k hkA).2,e3',xR,if_pos hA]
   ·rw [if_neg hA]
    by_cases hB:k∈Wo B
    ·exact f2.on k hB
    ·rw [f2.off k hB,ob.fr k hB,e3',xR,if_neg hA]
  cases hz:σ1'.put A.dst v'; rw [hz] at eb et; cases σ2; simp only at eb et; rw [eb,et]
 exact ⟨σ1',f1,by rw [e4,e],f2.off⟩
theorem zY5{A B:COp}{σ σ1 σ2:St}(ha:yk cb nb σ A=some σ1)(hb:yk cb nb σ1 B=some σ2)(ht:zqM A.k=true)(hl:zab B.k=true)
  (wa:∀ k∈Wo A,k ∉ yJ B∧k ∉ Wo B) (wb:∀ k∈Wo B,k ∉ yJ A∧k ∉ Wo A) :
  ∃ σ1',yk cb nb σ B=some σ1'∧yk cb nb σ1' A=some σ2∧(∀ k,k ∉ Wo B→σ1'.t[k]?=σ.t[k]?):=by
 obtain ⟨_,_,oa⟩:=xP A rfl rfl (fun _ _=>rfl) ha
 have rB:∀ t∈yJ B,σ.t[t]?=σ1.t[t]?:=fun t ht=>(oa.fr t (fun hh=>(wa t hh).1 ht)).symm
 obtain ⟨v,e1,e2⟩:=zKm (σ':=σ) hl rB (.inr (zPM ht ha)) hb
 have hoff:∀ k,k ∉ Wo B→(σ.put B.dst v).t[k]?=σ.t[k]?:=fun k hk=>by rw [xR,if_neg (fun h=>hk (yA k h.1))]
 have hlen:(σ.put B.dst v).t.length=σ.t.length:=zjv _ _ _
 obtain ⟨σ2',f1,f2⟩:=xP A (σ':=σ.put B.dst v) hlen (xN _ _ _) (fun t ht=>hoff t (fun hh=>(wb t hh).1 ht)) ha
 have e:σ2'=σ2:=by
  have eb:σ2'.b=σ2.b:=by rw [f2.b,e1,xN]
  have et:σ2'.t=σ2.t:=by
   apply Xd
   intro k
   rw [e1,xR,oa.len]
   by_cases hB:B.dst=some k∧k<σ.t.length
   ·rw [if_pos hB]
    have hkB:k∈Wo B:=yA k hB.1
    rw [f2.off k (wb k hkB).2,xR,if_pos hB]
   ·rw [if_neg hB]
    by_cases hA:k∈Wo A
    ·exact f2.on k hA
    ·rw [f2.off k hA,oa.fr k hA,xR,if_neg hB]
  cases σ2'; cases σ2; simp only at eb et; rw [eb,et]
 subst e
 exact ⟨_,e2,f1,hoff⟩
theorem zAa{o:COp}(hl:(zab o.k||zqM o.k)=true)(hr:∀ t∈yJ o,σ'.t[t]?=σ.t[t]?):kOf nb σ' o=kOf nb σ o:=by
 unfold kOf
 rw [zaJ (fun j w hg=>hr j (za8 hg))]
 have hrk:∀ t∈yu o.k,σ'.t[t]?=σ.t[t]?:=fun t ht=>hr t (zdN ht)
 cases hk:o.k with
 | load agg n x take=>
  rw [hk] at hrk
  simp only [yh (s:=x) hrk]
 | _=>simp [hk,zab,zqM] at hl
theorem zZL{A B:COp}{qa qb:Fl}{σ σ1 σ2:St}(ha:yk cb nb σ A=some σ1)(hb:yk cb nb σ1 B=some σ2)(fa:zb4 nb σ A qa σ1=true)(fb:zb4 nb σ1 B qb σ2=true)(pk:zrh (A,qa) (B,qb)=true) :
  ∃ σ1',yk cb nb σ B=some σ1'∧yk cb nb σ1' A=some σ2∧zb4 nb σ B qb σ1'=true∧zb4 nb σ1' A qa σ2=true:=by
 by_cases hL:(qa.l&&qb.l)=false∨zz A.k=true∨zz B.k=true
 ·exact zZs ha hb fa fb pk hL
 simp only [not_or,Bool.not_eq_false,Bool.not_eq_true] at hL
 obtain ⟨hl,hpa,hpb⟩:=hL
 rw [Wh] at hl
 obtain ⟨hla,hlb⟩:=hl
 simp only [zrh,Wh] at pk
 obtain ⟨⟨hs,hroots⟩,hq⟩:=pk
 have hroots:=zbH hroots
 have rr:∀ t,t∈qa.roots∨t∈qb.roots→t ∉ Wo A∧t ∉ Wo B:=by
  intro t ht
  constructor
  ·intro hh
   exact hroots t (QD.2 (.inl hh)) (QD.2 ht)
  ·intro hh
   exact hroots t (QD.2 (.inr hh)) (QD.2 ht)
 have hs0:=hs
 simp only [zfQ,Wh] at hs
 have s1:=zbH hs.1
 have s2:=zbH hs.2
 have wa:∀ k∈Wo A,k ∉ yJ B∧k ∉ Wo B:=fun k hk=>by
  have:=s1 k hk
  simp only [QD,not_or] at this
  exact ⟨this.1.1,fun hh=>by simp only [Wo,Wk,QD] at hh; exact hh.elim this.1.2 this.2⟩
 have wb:∀ k∈Wo B,k ∉ yJ A∧k ∉ Wo A:=fun k hk=>by
  have:=s2 k hk
  simp only [QD,not_or] at this
  exact ⟨this.1.1,fun hh=>by simp only [Wo,Wk,QD] at hh; exact hh.elim this.1.2 this.2⟩
 obtain ⟨_,_,oa⟩:=xP A rfl rfl (fun _ _=>rfl) ha
 have fa':zo6 nb σ A qa=true:=by simpa only [zb4,hla,cond_true] using fa
 have fb':zo6 nb σ1 B qb=true:=by simpa only [zb4,hlb,cond_true] using fb
 obtain ⟨KA,LA⟩:=zwR fa'
 obtain ⟨KB,LB⟩:=zwR fb'
 have rt:∀ t,t∈qa.roots∨t∈qb.roots→σ1.t[t]?=σ.t[t]?:=fun t ht=>oa.fr t (rr t ht).1
 have dis:((zab A.k=true∧zqM B.k=true)∨(zqM A.k=true∧zab B.k=true))∨(zKk A.k=true∧zKk B.k=true)∨∀ j∈KA,j ∉ KB:=by
  simp only [Xb,hpa,hpb,hla,hlb,Xh,Xk,WP,false_or,Wh,true_and] at hq
  rcases hq with (((((((h | h) | h) | h) | h) | h) | h) | h) | h
  ·exact .inr (.inl h)
  ·exact .inl (.inl h)
  ·exact .inl (.inr h)
  ·exact .inr (.inr fun j hj=>by rw [zSe h LA.k] at hj; cases hj)
  ·exact .inr (.inr fun j hj=>by rw [zSe h LB.k]; exact List.not_mem_nil)
  ·obtain ⟨x,hx,hm⟩:=zrs h
   refine .inr (.inr fun j hj=>?_)
   have hp:=LA.root x hx j hj
   exact LB.w x hm j (by rw [rt x (.inl (by simp [Fl.roots,hx])),hp])
  ·obtain ⟨x,hx,hm⟩:=zrs h
   refine .inr (.inr fun j hj hj2=>?_)
   have hp:=LB.root x hx j hj2
   exact LA.w x hm j (by rw [← rt x (.inr (by simp [Fl.roots,hx])),hp]) hj
  ·obtain ⟨d,hd,hn⟩:=LA.nw h.1
   obtain ⟨x,hx,hm⟩:=zrs h.2
   rw [hd] at hx; cases hx
   exact .inr (.inr fun j hj=>by rw [hn j hj]; exact LB.wn _ hm)
  ·obtain ⟨d,hd,hn⟩:=LB.nw h.1
   obtain ⟨x,hx,hm⟩:=zrs h.2
   rw [hd] at hx; cases hx
   exact .inr (.inr fun j hj hj2=>by rw [hn j hj2] at hj; exact LA.wn _ hm hj)
 have fin:(zab A.k||zqM A.k)=true→(zab B.k||zqM B.k)=true→(∃ σ1',yk cb nb σ B=some σ1'∧yk cb nb σ1' A=some σ2∧(∀ k,k ∉ Wo B→σ1'.t[k]?=σ.t[k]?))→∃ σ1',yk cb nb σ B=some σ1'∧yk cb nb σ1' A=some σ2∧zb4 nb σ B qb σ1'=true∧zb4 nb σ1' A qa σ2=true:=by
  rintro lA lB ⟨σ1',k1,k2,hoff⟩
  refine ⟨σ1',k1,k2,?_,?_⟩
  ·simp only [zb4,hlb,cond_true]
   rw [← fb']
   exact zgi (zAa lB (fun t ht=>(oa.fr t (fun hh=>(wa t hh).1 ht)).symm)) (fun t ht=>(rt t (.inr ht)).symm)
  ·simp only [zb4,hla,cond_true]
   rw [← fa']
   exact zgi (zAa lA (fun t ht=>hoff t (fun hh=>(wb t hh).1 ht))) (fun t ht=>hoff t (rr t (.inl ht)).2)
 rcases dis with (⟨l1,l2⟩ | ⟨l1,l2⟩) | ⟨l1,l2⟩ | dis
 ·exact fin (by rw [l1]; rfl) (by rw [l2]; simp) (zXi ha hb l1 l2 wa wb)
 ·exact fin (by rw [l1]; simp) (by rw [l2]; rfl) (zY5 ha hb l1 l2 wa wb)
 ·obtain ⟨σ1',k1,k2,S⟩:=zXo ha hb hs0 (.inr (.inr ⟨zFc l1 fa',zFc l2 fb'⟩))
  have S:=S (qa.s&&!qa.l) (qb.s&&!qb.l)
  refine ⟨σ1',k1,k2,?_,?_⟩
  ·rw [← fb]
   exact zlF S.bB (fun t ht=>(oa.fr t (fun hh=>(wa t hh).1 ht)).symm) (fun t ht=>(rt t (.inr ht)).symm) S.dB
  ·rw [← fa]
   exact zlF S.bA (fun t ht=>S.fB t (fun hh=>(wb t hh).1 ht)) (fun t ht=>S.fB t (rr t (.inl ht)).2) S.dA
 ·obtain ⟨σ1',k1,k2,kB,kA,hoff⟩:=zZz ha hb LA.k LB.k dis wa wb
  refine ⟨σ1',k1,k2,?_,?_⟩
  ·simp only [zb4,hlb,cond_true]
   rw [← fb']
   exact zgi (by rw [kB,LB.k]) (fun t ht=>(rt t (.inr ht)).symm)
  ·simp only [zb4,hla,cond_true]
   rw [← fa']
   exact zgi (by rw [kA,LA.k]) (fun t ht=>hoff t (rr t (.inl ht)).2)
theorem ztD{A B:COp}{qa qb:Fl}(h:zx6 (A,qa) (B,qb)=true):∃ da db x,A=⟨some da,false,none,.move (.tmp x) true⟩∧B=⟨some db,false,none,.move (.tmp x) false⟩∧da≠x∧db≠x∧da≠db∧(∀ t∈qa.roots,t≠db)∧qb.l=false∧qb.s=false∧qb.q=false∧qb.root=none∧qb.w=[]∧qa.tk=false∧qb.tk=false:=by
 unfold zx6 at h
 split at h
 ·rename_i da x db y hA hB
  simp only at hA hB
  simp only [Wh,Xc,Option.isNone_iff_eq_none,Xg] at h
  obtain ⟨⟨⟨⟨⟨⟨⟨⟨⟨⟨⟨h1,h2⟩,h3⟩,h4⟩,h5⟩,h6⟩,h7⟩,h8⟩,h9⟩,h10⟩,h11⟩,h12⟩:=h
  have e:=Wd h1
  subst e
  have ne:∀ {a b:Nat},Nat.beq a b=false→a≠b:=fun h e=>by rw [e] at h; simp at h
  refine ⟨da,db,x,hA,hB,ne h2,ne h3,ne h4,fun t ht e=>?_,h6,h7,h8,h9,h10,h11,h12⟩
  exact zbH h5 db (by simp) (e ▸ ht)
 ·cases h
theorem zPz{o:COp}{q:Fl}(h1:q.l=false)(h2:q.s=false)(h3:q.q=false)(h4:q.root=none)(h5:q.w=[])(σ τ:St):zb4 nb σ o q τ=true:=by
 simp [zb4,h1,h2,h3,h4,h5,znl]
theorem zPY{t:List V}{x a b:Nat}{m d:V}(ha:a≠x)(hb:b≠x)(hab:a≠b):((t.modify x V.dem).set a m).set b d=((t.set b d).modify x V.dem).set a m:=by
 apply Xd
 intro k
 simp only [Xa,WN,QI,Xt]
 by_cases h1:b=k
 ·subst h1
  have h2:¬ x=b:=fun h=>hb h.symm
  simp only [if_true,hab,h2,if_false]
  by_cases hl:b<t.length <;> simp [hl]
 ·simp only [h1,if_false]
theorem zPG{σ:St}{x a:Nat}{m:V}{b:List B}(ha:a≠x):Src.get ⟨(σ.t.modify x V.dem).set a m,b⟩ (.tmp x)=(Src.get σ (.tmp x)).dem:=by
 simp only [Src.get,Ws,Xa,WN,if_neg ha,if_true]
 cases σ.t[x]? <;> rfl
theorem zPa{σ:St}{x a:Nat}{m:V}(ha:a≠x):Src.get (σ.put (some a) m) (.tmp x)=Src.get σ (.tmp x):=by
 simp only [Src.get,St.put,Ws,Xa,if_neg ha]
theorem zQ5{A B:COp}{qa qb:Fl}{σ σ1 σ2:St}(ha:yk cb nb σ A=some σ1)(hb:yk cb nb σ1 B=some σ2)(fa:zb4 nb σ A qa σ1=true)(fb:zb4 nb σ1 B qb σ2=true)(pk:zx6 (A,qa) (B,qb)=true∨zx6 (B,qb) (A,qa)=true∨zrh (A,qa) (B,qb)=true) :
  ∃ σ1',yk cb nb σ B=some σ1'∧yk cb nb σ1' A=some σ2∧zb4 nb σ B qb σ1'=true∧zb4 nb σ1' A qa σ2=true:=by
 rcases pk with h | h | h
 ·obtain ⟨da,db,x,rfl,rfl,n1,n2,n3,hr,g1,g2,g3,g4,g5,_,_⟩:=ztD h
  simp only [yk,y8,zd,if_true,WP,if_false,Wg] at ha hb
  subst ha
  have e1:Src.get ((σ.demote (.tmp x)).put (some da) (Src.get σ (.tmp x)).mv) (.tmp x)=(Src.get σ (.tmp x)).dem:=zPG n1
  rw [e1,zJo] at hb
  subst hb
  have e2:((σ.put (some db) (Src.get σ (.tmp x)).dem).demote (.tmp x)).put (some da) (Src.get σ (.tmp x)).mv=((σ.demote (.tmp x)).put (some da) (Src.get σ (.tmp x)).mv).put (some db) (Src.get σ (.tmp x)).dem:=by
   simp only [St.put,St.demote,zPY n1 n2 n3]
  refine ⟨σ.put (some db) (Src.get σ (.tmp x)).dem,by simp [yk,y8,zd],?_,zPz g1 g2 g3 g4 g5 _ _,?_⟩
  ·simp only [yk,y8,zd,if_true,WP,if_false,zPa n2,e2]
  ·refine Eq.trans ?_ fa
   refine zlF (.inl rfl) (fun t ht=>?_) (fun t ht=>?_) (fun d hd=>?_)
   ·have:t=x:=by simpa [yJ,yu,Src.tmps] using ht
    subst this
    simp only [St.put,Xa,if_neg n2]
   ·simp only [St.put,Xa,if_neg (fun (e:db=t)=>hr t ht e.symm)]
   ·cases hd
    simp only [St.put,Xa,if_neg (fun (e:db=da)=>n3 e.symm)]
 ·obtain ⟨db,da,x,rfl,rfl,n1,n2,n3,hr,g1,g2,g3,g4,g5,_,_⟩:=ztD h
  simp only [yk,y8,zd,if_true,WP,if_false,Wg] at ha hb
  subst ha
  rw [zPa n2] at hb
  subst hb
  refine ⟨(σ.demote (.tmp x)).put (some db) (Src.get σ (.tmp x)).mv,by simp [yk,y8,zd],?_,?_,zPz g1 g2 g3 g4 g5 _ _⟩
  ·have e1:Src.get ((σ.demote (.tmp x)).put (some db) (Src.get σ (.tmp x)).mv) (.tmp x)=(Src.get σ (.tmp x)).dem:=zPG n1
   simp only [yk,y8,zd,if_true,WP,if_false,e1,zJo]
   simp only [St.put,St.demote,zPY n1 n2 n3]
  ·refine Eq.trans ?_ fb
   refine zlF (.inl rfl) (fun t ht=>?_) (fun t ht=>?_) (fun d hd=>?_)
   ·have:t=x:=by simpa [yJ,yu,Src.tmps] using ht
    subst this
    simp only [St.put,Xa,if_neg n2]
   ·simp only [St.put,Xa,if_neg (fun (e:da=t)=>hr t ht e.symm)]
   ·cases hd
    simp only [St.put,St.demote,Xa,WN,QI,Xt]
    simp
 ·exact zZL ha hb fa fb h
def zgB(p:V)(b:List B):Option (V × List B):=match p with
 | .ptr id off=>match b[id]? with
  | some (.live false cs)=>(cs[off]?).map fun v=>(v.tk,b.set id (.live false (cs.set off v.dem)))
  | some (.fz cs)=>(cs[off]?).map fun v=>(v,b)
  | _=>none
 | .fp _ cs=>(cs[0]?).map fun v=>(v,b)
 | _=>none
theorem zMn{d n:Nat}{a:Src}(σ:St):yk cb nb σ ⟨some d,false,none,.load false n a true⟩=(zgB (a.get σ) σ.b).map fun x=>⟨σ.t.set d x.1,x.2⟩:=by
 simp only [yk,y8,zd,zgB]
 cases a.get σ with
 | ptr id off=>
  simp only
  cases σ.b[id]? with
  | none=>rfl
  | some x=>
   cases x with
   | live p cs=>cases p <;> (simp only [WP,if_false,if_true]; cases cs[off]? <;> rfl)
   | fz cs=>simp only [WP,if_false]; cases cs[off]? <;> rfl
   | _=>rfl
 | fp m cs=>simp only [WP,if_false]; cases cs[0]? <;> rfl
 | _=>rfl
theorem zX3(v:V):zRB (v.dem).tk=false:=by
 cases v <;> try rfl
 rename_i vs
 cases vs <;> rfl
theorem zMH{m:Nat}{cs:List V}(b b':List B){v:V}(h:zgB (.fp m cs) b=some (v,b')):b'=b∧∀ c,zgB (.fp m cs) c=some (v,c):=by
 simp only [zgB,Wj,Prod.mk.injEq] at h
 obtain ⟨x,hx,rfl,rfl⟩:=h
 exact ⟨rfl,fun c=>by simp only [zgB,hx]; rfl⟩
theorem zCf{id off:Nat}{b b':List B}{v:V}(h:zgB (.ptr id off) b=some (v,b')):(∃ cs v0,b[id]?=some (.live false cs)∧cs[off]?=some v0∧v=v0.tk∧b'=b.set id (.live false (cs.set off v0.dem)))∨(∃ cs,b[id]?=some (.fz cs)∧cs[off]?=some v∧b'=b):=by
 simp only [zgB] at h
 split at h
 ·rename_i cs hb
  rw [Wj] at h
  obtain ⟨x,hx,e⟩:=h
  cases e
  exact .inl ⟨cs,x,hb,hx,rfl,rfl⟩
 ·rename_i cs hb
  rw [Wj] at h
  obtain ⟨x,hx,e⟩:=h
  cases e
  exact .inr ⟨cs,hb,hx,rfl⟩
 ·cases h
theorem zo7{id off:Nat}{b:List B}{cs:List V}{v0:V}(hb:b[id]?=some (.live false cs))(hv:cs[off]?=some v0):zgB (.ptr id off) b=some (v0.tk,b.set id (.live false (cs.set off v0.dem))):=by
 simp only [zgB,hb,hv]; rfl
theorem zzH{id off:Nat}{b:List B}{cs:List V}{v0:V}(hb:b[id]?=some (.fz cs))(hv:cs[off]?=some v0):zgB (.ptr id off) b=some (v0,b):=by
 simp only [zgB,hb,hv]; rfl
theorem zQV{p q v w:V}{b b1 b2:List B}(h1:zgB p b=some (v,b1))(h2:zgB q b1=some (w,b2))(gw:zRB w=true):∃ b1',zgB q b=some (w,b1')∧zgB p b1'=some (v,b2):=by
 have hp:(∃ m cs,p=.fp m cs)∨(∃ id off,p=.ptr id off):=by
  cases p <;> first | exact .inl ⟨_,_,rfl⟩ | exact .inr ⟨_,_,rfl⟩ | (simp [zgB] at h1; done)
 have hq:(∃ m cs,q=.fp m cs)∨(∃ id off,q=.ptr id off):=by
  cases q <;> first | exact .inl ⟨_,_,rfl⟩ | exact .inr ⟨_,_,rfl⟩ | (simp [zgB] at h2; done)
 rcases hp with ⟨m,cs,rfl⟩ | ⟨id,off,rfl⟩
 ·obtain ⟨rfl,k⟩:=zMH _ _ h1
  exact ⟨b2,h2,k b2⟩
 rcases hq with ⟨m,cs,rfl⟩ | ⟨id',off',rfl⟩
 ·obtain ⟨rfl,k⟩:=zMH _ _ h2
  exact ⟨b,k b,h1⟩
 rcases zCf h1 with ⟨cs,v0,e1,e2,rfl,rfl⟩ | ⟨cs,e1,e2,rfl⟩
 ·have hlt:id<b.length:=(Wi.1 e1).1
  rcases zCf h2 with ⟨ds,w0,f1,f2,rfl,rfl⟩ | ⟨ds,f1,f2,rfl⟩
  ·by_cases hid:id=id'
   ·subst hid
    rw [WF hlt] at f1
    cases f1
    have hoff:off≠off':=by
     rintro rfl
     have hl:off<cs.length:=(Wi.1 e2).1
     rw [WF hl] at f2
     cases f2
     rw [zX3] at gw; cases gw
    rw [WE hoff] at f2
    refine ⟨_,zo7 e1 f2,?_⟩
    rw [zo7 (b:=b.set id (.live false (cs.set off' w0.dem))) (WF hlt) (by rw [WE (Ne.symm hoff)]; exact e2)]
    rw [List.set_set,List.set_set,Xs _ _ hoff]
   ·rw [WE hid] at f1
    refine ⟨_,zo7 f1 f2,?_⟩
    rw [zo7 (b:=b.set id' (.live false (ds.set off' w0.dem))) (by rw [WE (Ne.symm hid)]; exact e1) e2,Xs _ _ hid]
  ·have hid:id≠id':=by
    rintro rfl
    rw [WF hlt] at f1
    cases f1
   rw [WE hid] at f1
   exact ⟨_,zzH f1 f2,h1⟩
 ·rcases zCf h2 with ⟨ds,w0,f1,f2,rfl,rfl⟩ | ⟨ds,f1,f2,rfl⟩
  ·have hid:id'≠id:=by
    rintro rfl
    rw [e1] at f1; cases f1
   exact ⟨_,zo7 f1 f2,zzH (by rw [WE hid]; exact e1) e2⟩
  ·exact ⟨_,zzH f1 f2,zzH e1 e2⟩
theorem zVN{fl:Fl}{o:COp}{d:Nat}{σ:St}{v:V}{t:List V}{b:List B}(hd:o.dst=some d)(ht:fl.tk=true)(h:zqE fl o ⟨t.set d v,b⟩=true):zRB v=true:=by
 simp only [zqE,ht,hd,Xh,Bool.false_or,List.getElem?_set_self'] at h
 split at h
 ·rename_i u hu
  cases hx:t[d]? with
  | none=>rw [hx] at hu; cases hu
  | some y=>rw [hx] at hu; cases hu; exact h
 ·cases h
theorem zOK{A B:COp}{qa qb:Fl}{σ σ1 σ2:St}(ha:yk cb nb σ A=some σ1)(hb:yk cb nb σ1 B=some σ2)(fa:flT nb σ A qa σ1=true)(fb:flT nb σ1 B qb σ2=true)(pk:zHM (A,qa) (B,qb)=true) :
  ∃ σ1',yk cb nb σ B=some σ1'∧yk cb nb σ1' A=some σ2∧zb4 nb σ B qb σ1'=true∧zb4 nb σ1' A qa σ2=true:=by
 unfold zHM at pk
 split at pk
 ·rename_i da na a db n' b' hA hB
  simp only at hA hB
  subst hA; subst hB
  simp only [Wh] at pk
  obtain ⟨⟨⟨⟨⟨hs,hroots⟩,hla⟩,hlb⟩,hta⟩,htb⟩:=pk
  simp only [flT,Wh] at fa fb
  have hroots:=zbH hroots
  simp only [zfQ,Wh] at hs
  have s1:=zbH hs.1
  have s2:=zbH hs.2
  have nd:da≠db:=fun e=>by have:=s1 da (by simp); simp [e] at this
  have rb:∀ t∈b'.tmps,t≠da:=fun t ht e=>by have:=s1 da (by simp); simp [yJ,yu,← e,ht] at this
  have ra:∀ t∈a.tmps,t≠db:=fun t ht e=>by have:=s2 db (by simp); simp [yJ,yu,← e,ht] at this
  have rr:∀ t,t∈qa.roots∨t∈qb.roots→t≠da∧t≠db:=by
   intro t ht
   constructor
   ·intro e; exact hroots da (by simp [zq9]) (QD.2 (e ▸ ht))
   ·intro e; exact hroots db (by simp [zq9]) (QD.2 (e ▸ ht))
  rw [zMn,Wj] at ha
  obtain ⟨⟨v,b1⟩,h1,rfl⟩:=ha
  rw [zMn,Wj] at hb
  obtain ⟨⟨w,b2⟩,h2,rfl⟩:=hb
  have gb:Src.get (⟨σ.t.set da v,b1⟩:St) b'=Src.get σ b':=yh fun t ht=>by
   show (σ.t.set da v)[t]?=_
   rw [WE (Ne.symm (rb t ht))]
  rw [gb] at h2
  obtain ⟨b1',k1,k2⟩:=zQV h1 h2 (zVN (σ:=σ) rfl htb fb.2)
  have ga:Src.get (⟨σ.t.set db w,b1'⟩:St) a=Src.get σ a:=yh fun t ht=>by
   show (σ.t.set db w)[t]?=_
   rw [WE (Ne.symm (ra t ht))]
  have fa1:=fa.1
  have fb1:=fb.1
  simp only [zb4,hla,hlb,cond_true] at fa1 fb1
  refine ⟨⟨σ.t.set db w,b1'⟩,?_,?_,?_,?_⟩
  ·rw [zMn,k1]; rfl
  ·rw [zMn,ga,k2,Xs _ _ nd]; rfl
  ·simp only [zb4,hlb,cond_true]
   refine Eq.trans ?_ fb1
   refine zgi (zAa rfl fun t ht=>?_) fun t ht=>?_
   ·show σ.t[t]?=(σ.t.set da v)[t]?
    rw [WE (Ne.symm (rb t (by simpa [yJ,yu] using ht)))]
   ·show σ.t[t]?=(σ.t.set da v)[t]?
    rw [WE (Ne.symm (rr t (.inr ht)).1)]
  ·simp only [zb4,hla,cond_true]
   refine Eq.trans ?_ fa1
   refine zgi (zAa rfl fun t ht=>?_) fun t ht=>?_
   ·show (σ.t.set db w)[t]?=σ.t[t]?
    rw [WE (Ne.symm (ra t (by simpa [yJ,yu] using ht)))]
   ·show (σ.t.set db w)[t]?=σ.t[t]?
    rw [WE (Ne.symm (rr t (.inl ht)).2)]
 ·cases pk
theorem zH8{fl:Fl}{o:COp}{σ σ':St}(h:∀ d,o.dst=some d→σ'.t[d]?=σ.t[d]?):zqE fl o σ'=zqE fl o σ:=by
 unfold zqE
 cases hd:o.dst with
 | none=>rfl
 | some d=>simp only [h d hd]
theorem zUg{A B:COp}{qa qb:Fl}{σ1 σ2 σ1':St}(hb:yk cb nb σ1 B=some σ2)(hb':yk cb nb σ1' A=some σ2)(na:∀ d,A.dst=some d→d ∉ Wo B)(nb':∀ d,B.dst=some d→d ∉ Wo A)(fa:zqE qa A σ1=true)(fb:zqE qb B σ2=true):zqE qb B σ1'=true∧zqE qa A σ2=true:=by
 obtain ⟨_,_,ob⟩:=xP B rfl rfl (fun _ _=>rfl) hb
 obtain ⟨_,_,oa⟩:=xP A rfl rfl (fun _ _=>rfl) hb'
 exact ⟨by rw [← fb]; exact (zH8 fun d hd=>oa.fr d (nb' d hd)).symm,by rw [← fa]; exact zH8 fun d hd=>ob.fr d (na d hd)⟩
theorem zZA{A B:COp}{qa qb:Fl}{σ σ1 σ2:St}(ha:yk cb nb σ A=some σ1)(hb:yk cb nb σ1 B=some σ2)(fa:flT nb σ A qa σ1=true)(fb:flT nb σ1 B qb σ2=true)(pk:zBZ (A,qa) (B,qb)=true) :
  ∃ σ1',yk cb nb σ B=some σ1'∧yk cb nb σ1' A=some σ2∧flT nb σ B qb σ1'=true∧flT nb σ1' A qa σ2=true:=by
 have fa0:=fa
 have fb0:=fb
 simp only [flT,Wh] at fa fb ⊢
 have dsts:(∀ d,A.dst=some d→d ∉ Wo B)∧(∀ d,B.dst=some d→d ∉ Wo A)∨(qa.tk=false∧qb.tk=false):=by
  have ap:zfQ A B=true→(∀ d,A.dst=some d→d ∉ Wo B)∧(∀ d,B.dst=some d→d ∉ Wo A):=by
   intro hs
   simp only [zfQ,Wh] at hs
   have s1:=zbH hs.1
   have s2:=zbH hs.2
   constructor
   ·intro d hd hh
    have:=s1 d (by simp [hd])
    simp only [QD,not_or] at this
    simp only [Wo,Wk,QD] at hh
    exact hh.elim this.1.2 this.2
   ·intro d hd hh
    have:=s2 d (by simp [hd])
    simp only [QD,not_or] at this
    simp only [Wo,Wk,QD] at hh
    exact hh.elim this.1.2 this.2
  simp only [zBZ,Xb] at pk
  rcases pk with ((h | h) | h) | h
  ·obtain ⟨_,_,_,_,_,_,_,_,_,_,_,_,_,_,t1,t2⟩:=ztD h
   exact .inr ⟨t1,t2⟩
  ·obtain ⟨_,_,_,_,_,_,_,_,_,_,_,_,_,_,t1,t2⟩:=ztD h
   exact .inr ⟨t2,t1⟩
  ·unfold zHM at h
   split at h
   ·simp only [Wh] at h
    exact .inl (ap h.1.1.1.1.1)
   ·cases h
  ·simp only [zrh,Wh] at h
   exact .inl (ap h.1.1)
 have main:∃ σ1',yk cb nb σ B=some σ1'∧yk cb nb σ1' A=some σ2∧zb4 nb σ B qb σ1'=true∧zb4 nb σ1' A qa σ2=true:=by
  simp only [zBZ,Xb] at pk
  rcases pk with ((h | h) | h) | h
  ·exact zQ5 ha hb fa.1 fb.1 (.inl h)
  ·exact zQ5 ha hb fa.1 fb.1 (.inr (.inl h))
  ·exact zOK ha hb fa0 fb0 h
  ·exact zQ5 ha hb fa.1 fb.1 (.inr (.inr h))
 obtain ⟨σ1',k1,k2,k3,k4⟩:=main
 have tk:zqE qb B σ1'=true∧zqE qa A σ2=true:=by
  rcases dsts with ⟨na,nb'⟩ | ⟨t1,t2⟩
  ·exact zUg hb k2 na nb' fa.2 fb.2
  ·simp [zqE,t1,t2]
 exact ⟨σ1',k1,k2,⟨k3,tk.1⟩,⟨k4,tk.2⟩⟩
end
section
def zrp(cb:CB)(nb:Nat)(ks:List (COp × Fl)):List Nat→St→Option St
 | [],σ=>some σ
 | i::l,σ=>match ks[i]? with
  | some (o,q)=>match yk cb nb σ o with
   | some σ'=>if flT nb σ o q σ' then zrp cb nb ks l σ' else none
   | none=>none
  | none=>none
theorem zpD{cb:CB}{nb:Nat}{ks:List (COp × Fl)}{i:Nat}{l:List Nat}{σ σ':St}:zrp cb nb ks (i::l) σ=some σ'↔∃ o q σ1,ks[i]?=some (o,q)∧yk cb nb σ o=some σ1∧flT nb σ o q σ1=true∧zrp cb nb ks l σ1=some σ':=by
 constructor
 ·intro h
  simp only [zrp] at h
  split at h
  ·rename_i o q hk
   split at h
   ·rename_i σ1 h1
    split at h
    ·rename_i hc
     exact ⟨o,q,σ1,hk,h1,hc,h⟩
    ·cases h
   ·cases h
  ·cases h
 ·rintro ⟨o,q,σ1,h1,h2,h3,h4⟩
  simp only [zrp,h1,h2]
  rw [if_pos h3]
  exact h4
theorem zFv{cb:CB}{nb:Nat}(ks:List (COp × Fl)):∀ (l:List (COp × Fl)) (k:Nat) (σ:St),(∀ i,l[i]?=ks[k+i]?)→znE cb nb l σ=zrp cb nb ks (List.range' k l.length) σ
 | [],k,σ,h=>rfl
 | (o,q)::l,k,σ,h=>by
  have h0:ks[k]?=some (o,q):=by simpa using (h 0).symm
  have ih:=fun σ=>zFv (cb:=cb) (nb:=nb) ks l (k+1) σ (fun i=>by have:=h (i+1); simpa [Nat.add_assoc,Nat.add_comm 1 i] using this)
  simp only [znE,List.length_cons,List.range'_succ,zrp,h0,ih]
  cases yk cb nb σ o <;> rfl
theorem zTh{cb:CB}{nb:Nat}{ks:List (COp × Fl)}{i:Nat}{l2:List Nat}{σ':St}:∀ (l1:List Nat) (σ:St),(∀ j∈l1,∀ a b,ks[j]?=some a→ks[i]?=some b→zBZ a b=true)→zrp cb nb ks (l1++i::l2) σ=some σ'→zrp cb nb ks (i::(l1++l2)) σ=some σ'
 | [],σ,_,h=>h
 | j::l1,σ,hp,h=>by
  rw [List.cons_append,zpD] at h
  obtain ⟨oj,qj,σ1,h1,h2,h3,h4⟩:=h
  have ih:=zTh l1 σ1 (fun j' hj'=>hp j' (by simp [hj'])) h4
  rw [zpD] at ih
  obtain ⟨oi,qi,σ2,g1,g2,g3,g4⟩:=ih
  have pk:=hp j (by simp) _ _ h1 g1
  obtain ⟨σ1',e1,e2,e3,e4⟩:=zZA h2 g2 h3 g3 pk
  rw [zpD]
  refine ⟨oi,qi,σ1',g1,e1,e3,?_⟩
  rw [List.cons_append,zpD]
  exact ⟨oj,qj,σ2,h1,e2,e4,g4⟩
theorem zKT(acc:Array Nat)(j:Nat):∀ (l:List Edge) (s:Nat),(l.foldl (fun s e=>if Region.binds .any e=true then s ||| 2 ^ e.on ||| acc.getD e.on 0 else s) s).testBit j=true→s.testBit j=true∨∃ e∈l,Region.binds .any e=true∧(j=e.on∨(acc.getD e.on 0).testBit j=true)
 | [],s,h=>.inl h
 | e::l,s,h=>by
  rw [List.foldl_cons] at h
  rcases zKT acc j l _ h with h | ⟨e',he',h⟩
  ·split at h
   ·rename_i hb
    simp only [Nat.testBit_or,Nat.testBit_two_pow,Xb,decide_eq_true_eq] at h
    rcases h with (h | h) | h
    ·exact .inl h
    ·exact .inr ⟨e,by simp,hb,.inl h.symm⟩
    ·exact .inr ⟨e,by simp,hb,.inr h⟩
   ·exact .inl h
  ·exact .inr ⟨e',by simp [he'],h⟩
def zY2(acc:Array Nat)(pre:List Oper):Prop:=acc.size=pre.length∧∀ i j,(acc.getD i 0).testBit j=true→∃ o,pre[i]?=some o∧∃ e∈o.after,Region.binds .any e=true∧(j=e.on∨(acc.getD e.on 0).testBit j=true)
theorem zLc{acc:Array Nat}{b:Nat}(i:Nat)(h:i<acc.size):(acc.push b).getD i 0=acc.getD i 0:=by
 rw [QQ,QQ,Array.getElem?_push_lt h,QS h]
theorem zNG{acc:Array Nat}{i j:Nat}(h:(acc.getD i 0).testBit j=true):i<acc.size:=by
 rcases Xn i acc.size with h' | h'
 ·exact h'
 ·rw [QQ,WT h'] at h; simp at h
theorem zIa:∀ (l pre:List Oper) (acc:Array Nat),zY2 acc pre→zY2 (l.foldl (fun acc o=>acc.push (o.after.foldl (fun s e=>if Region.binds .any e=true then s ||| 2 ^ e.on ||| acc.getD e.on 0 else s) 0)) acc) (pre++l)
 | [],pre,acc,h=>by simpa using h
 | o::l,pre,acc,h=>by
  rw [List.foldl_cons]
  have:=zIa l (pre++[o]) (acc.push (o.after.foldl (fun s e=>if Region.binds .any e=true then s ||| 2 ^ e.on ||| acc.getD e.on 0 else s) 0)) ⟨by simp [h.1],fun i j hb=>by
   have hi:=zNG hb
   have up:∀ e:Nat,(acc.getD e 0).testBit j=true→∀ b,((acc.push b).getD e 0).testBit j=true:=fun e he b=>by rw [zLc e (zNG he)]; exact he
   by_cases hlt:i<acc.size
   ·rw [zLc i hlt] at hb
    obtain ⟨o',h1,e,h2,h3,h4⟩:=h.2 i j hb
    exact ⟨o',by rw [List.getElem?_append_left (by rw [← h.1]; exact hlt)]; exact h1,e,h2,h3,h4.imp id (fun hh=>up _ hh _)⟩
   ·have hie:i=acc.size:=by simp at hi; omega
    subst hie
    refine ⟨o,by rw [h.1]; simp,?_⟩
    rw [QQ,Array.getElem?_push_size,Xl,← WA] at hb
    rcases zKT acc j _ _ hb with hb | ⟨e,h2,h3,h4⟩
    ·simp at hb
    ·exact ⟨e,by simpa using h2,h3,h4.imp id (fun hh=>up _ hh _)⟩⟩
  simpa using this
theorem zOT(ops:Array Oper)(i j:Nat)(h:((Region.before ops).getD i 0).testBit j=true):∃ o,ops[i]?=some o∧∃ e∈o.after,Region.binds .any e=true∧(j=e.on∨((Region.before ops).getD e.on 0).testBit j=true):=by
 have:=zIa ops.toList [] #[] ⟨rfl,fun i j h=>by simp at h⟩
 have e:Region.before ops=ops.toList.foldl (fun acc o=>acc.push (o.after.foldl (fun s e=>if Region.binds .any e=true then s ||| 2 ^ e.on ||| acc.getD e.on 0 else s) 0)) #[]:=by
  unfold Region.before
  rw [← WA]
 rw [← e] at this
 obtain ⟨o,h1,h2⟩:=this.2 i j h
 exact ⟨o,by simpa using h1,h2⟩
section
variable {ren:Rn} {we:World} {ωe:Nat→Ow} {U:Nat→Nat→Prop} {O:Nat→Prop} {P:Program} {nb:Nat} {cb:CB}
def unl(ops:Array Oper)(listed:Array Bool):List Nat:=(Wy ops.size).filter (fun i=>!listed.getD i true)
theorem zy3{ops:Array Oper}{listed:Array Bool}{i:Nat}:i∈unl ops listed↔i<ops.size∧listed.getD i true=false:=by
 simp [unl,List.mem_filter]
theorem zAf(ops:Array Oper)(listed:Array Bool):(unl ops listed).Pairwise (·<·):=List.pairwise_lt_range.filter _
theorem zWm{ops:Array Oper}{listed:Array Bool}{i:Nat}{l1 l2:List Nat}(hi:i<listed.size)(h:unl ops listed=l1++i::l2):unl ops (listed.setIfInBounds i true)=l1++l2:=by
 have hs:=zAf ops listed
 rw [h,Xr] at hs
 obtain ⟨_,h2,h3⟩:=hs
 rw [Xu] at h2
 have e:unl ops (listed.setIfInBounds i true)=(unl ops listed).filter (fun x=>x != i):=by
  unfold unl
  rw [List.filter_filter]
  apply List.filter_congr
  intro x _
  by_cases hx:i=x
  ·subst hx
   simp [QQ,hi]
  ·rw [getD_set_ne true hx]
   have:(x != i)=true:=by simpa using fun e=>hx e.symm
   rw [this]; simp
 rw [e,h,List.filter_append,List.filter_cons]
 simp only [bne_self_eq_false,WP,if_false]
 rw [Xj.2 (fun x hx=>by have:=h3 x hx i (by simp); simp; omega),Xj.2 (fun x hx=>by have:=h2.1 x hx; simp; omega)]
theorem zGq{h:Hint}{rid:Nat}{ops:Array Oper}:∀ (l:List Oper) (k:Nat) (cs:List COp),zCU P ren h rid ops l k=some cs→cs.length=l.length∧∀ i o,l[i]?=some o→∃ c,cs[i]?=some c∧cOp P ren h rid ops (k+i) o=some c
 | [],k,cs,hc=>by cases hc; exact ⟨rfl,by simp⟩
 | o::l,k,cs,hc=>by
  simp only [zCU,Wb,Wa,Option.pure_def,Wg] at hc
  obtain ⟨c,h1,rest,h2,rfl⟩:=hc
  obtain ⟨q1,q2⟩:=zGq l (k+1) rest h2
  refine ⟨by simp [q1],fun i o' ho'=>?_⟩
  cases i with
  | zero=>simp at ho'; subst ho'; exact ⟨c,rfl,h1⟩
  | succ i=>
   obtain ⟨c',g1,g2⟩:=q2 i o' (by simpa using ho')
   exact ⟨c',by simpa using g1,by rw [show k+(i+1)=k+1+i by omega]; exact g2⟩
theorem zJO{rt:Option Nat}(before:Array Nat)(cs:List COp)(b:Bool)(i:Nat)(x:COp × Fl)(h:(zg6 rt before cs b)[i]?=some x):cs[i]?=some x.1:=by
 unfold zg6 at h
 rw [List.getElem?_map,List.getElem?_zipIdx] at h
 cases hc:cs[i]? with
 | none=>simp [hc] at h
 | some c=>simp [hc] at h; rw [← h]
theorem zKt{rt:Option Nat}(before:Array Nat)(cs:List COp)(b:Bool):(zg6 rt before cs b).length=cs.length:=by simp [zg6]
theorem zB0{rt:Option Nat}(before:Array Nat)(cs:List COp):∃ b,zdO rt before cs=zg6 rt before cs b:=by
 unfold zdO
 simp only
 split
 ·exact ⟨true,rfl⟩
 ·exact ⟨false,rfl⟩
theorem zL0{rt:Option Nat}(before:Array Nat)(cs:List COp)(i:Nat)(x:COp × Fl)(h:(zdO rt before cs)[i]?=some x):cs[i]?=some x.1:=by
 obtain ⟨b,e⟩:=zB0 before cs
 rw [e] at h
 exact zJO before cs b i x h
theorem zLV{rt:Option Nat}(before:Array Nat)(cs:List COp):(zdO rt before cs).length=cs.length:=by
 obtain ⟨b,e⟩:=zB0 before cs
 rw [e,zKt]
theorem zXr(hcb:zhy P ren cb){h:Hint}{rid:Nat}{ops:Array Oper}{cs:List COp}(hc:zCU P ren h rid ops ops.toList 0=some cs)(he:zDD ops=true)(hp:zDS (Region.before ops) (zdO (h.rt.lookup rid) (Region.before ops) cs)=true){Q:Exit→Act→World→Prop}{σ':St} :
  ∀ (fuel:Nat) (listed:Array Bool) {σ:St} {a:Act} {w:World} {ω:Nat→Ow} {μ:Nat→Nat},listed.size=ops.size→(∀ i j,listed.getD i false=true→((Region.before ops).getD i 0).testBit j=true→listed.getD j false=true)→(unl ops listed).length=fuel →
   Rel ren we ωe U O σ a w ω μ→zrp cb nb (zdO (h.rt.lookup rid) (Region.before ops) cs) (unl ops listed) σ=some σ'→Post ren we ωe U O nb μ σ' (Q .normal)→wpAny P .any ops Q fuel listed a w:=by
 obtain ⟨hlen,hget⟩:=zGq _ _ _ hc
 intro fuel
 induction fuel with
 | zero=>
  intro listed σ a w ω μ hsz hdown hl R hs hQ
  have hnil:unl ops listed=[]:=List.length_eq_zero_iff.1 hl
  rw [hnil] at hs
  cases hs
  refine ⟨?_,hQ _ _ _ _ R (fun _ _=>rfl)⟩
  rw [List.eq_nil_iff_forall_not_mem]
  intro j hj
  obtain ⟨h1,o,h2,_⟩:=mem_ready.1 hj
  have:j∈unl ops listed:=zy3.2 ⟨(QA.1 h2).1,h1⟩
  rw [hnil] at this; cases this
 | succ fuel ih=>
  intro listed σ a w ω μ hsz hdown hl R hs hQ
  have lst:∀ j,j<ops.size→listed.getD j true=true→listed.getD j false=true:=fun j hj h=>by
   rw [QQ,QS (by omega)] at h ⊢; exact h
  have unlst:∀ j,listed.getD j true=false→listed.getD j false=true→False:=fun j h1 h2=>by
   rcases Xn j listed.size with h' | h'
   ·rw [QQ,QS h'] at h1 h2; simp at h1 h2; rw [h1] at h2; cases h2
   ·rw [QQ,WT h'] at h2; cases h2
  refine ⟨fun hr=>?_,fun i hi=>?_⟩
  ·exfalso
   cases hu:unl ops listed with
   | nil=>rw [hu] at hl; cases hl
   | cons i rest=>
    have hm:i∈unl ops listed:=by rw [hu]; simp
    obtain ⟨m1,m2⟩:=zy3.1 hm
    have:i∈Region.ready .any ops listed:=by
     refine mem_ready.2 ⟨m2,ops[i],QS m1,fun e hee hb=>?_⟩
     have hback:e.on<i:=by
      have:=QO.1 he (ops[i],i) (by rw [List.mem_zipIdx_iff_getElem?]; simp [m1])
      have:=Array.all_eq_true_iff_forall_mem.1 this e hee
      simpa [hb] using this
     refine lst _ (by omega) ?_
     cases hx:listed.getD e.on true with
     | true=>rfl
     | false=>
      exfalso
      have hm2:e.on∈unl ops listed:=zy3.2 ⟨by omega,hx⟩
      have hso:=zAf ops listed
      rw [hu] at hm2 hso
      rw [Xu] at hso
      rcases List.mem_cons.1 hm2 with h | h
      ·omega
      ·have:=hso.1 _ h; omega
    rw [hr] at this; cases this
  ·obtain ⟨m2,o,ho,hall⟩:=mem_ready.1 hi
   have m1:i<ops.size:=(QA.1 ho).1
   obtain ⟨l1,l2,hu⟩:=List.append_of_mem (zy3.2 ⟨m1,m2⟩)
   have hbefore:∀ j,((Region.before ops).getD i 0).testBit j=true→listed.getD j false=true:=by
    intro j hj
    obtain ⟨o',ho',e,h1,h2,h3⟩:=zOT ops i j hj
    rw [ho] at ho'; cases ho'
    rcases h3 with rfl | h3
    ·exact hall e h1 h2
    ·exact hdown _ _ (hall e h1 h2) h3
   have hso:=zAf ops listed
   rw [hu,Xr] at hso
   rw [hu] at hs
   have hs':=zTh l1 σ (fun j hj a b hja hib=>by
    have hji:j<i:=hso.2.2 j hj i (by simp)
    have hil:i<(zdO (h.rt.lookup rid) (Region.before ops) cs).length:=(Wi.1 hib).1
    have:=QO.1 hp i (Xp.2 hil)
    have:=QO.1 this j (Xp.2 hji)
    rw [Xb] at this
    rcases this with h | h
    ·exfalso
     have hm:j∈unl ops listed:=by rw [hu]; simp [hj]
     exact unlst j (zy3.1 hm).2 (hbefore j h)
    ·rw [hja,hib] at h; exact h) hs
   rw [zpD] at hs'
   obtain ⟨c,q,σ1,g1,g2,g3,g4⟩:=hs'
   have hci:=zL0 _ _ _ _ g1
   obtain ⟨c',hc1,hc2⟩:=hget i o (by simpa using ho)
   rw [hci] at hc1
   cases hc1
   rw [Nat.zero_add] at hc2
   unfold wpOp
   simp only [ho]
   refine zK7 R hcb hc2 g2 (fun a' w' ω' μ' R' hm=>?_)
   have hset:=zWm (ops:=ops) (listed:=listed) (by omega) hu
   refine ih (listed.setIfInBounds i true) (by simpa using hsz) (fun i' j hi' hj=>?_) ?_ R' (by rw [hset]; exact g4) (hQ.at hm)
   ·by_cases hii:i=i'
    ·subst hii; exact getD_set_true (hbefore j hj)
    ·rw [getD_set_ne false hii] at hi'
     exact getD_set_true (hdown i' j hi' hj)
   ·rw [hset]
    rw [hu] at hl
    simp at hl ⊢
    omega
theorem zXN(hm:P.follows .mixedOrders=true)(cb:CB)(hcb:zhy P ren cb):zG0 P ren cb:=by
 intro h id ops cs hc hp nb we ωe U O σ σ' a w ω μ R hs Q hQ
 rw [Wh] at hp
 refine wp_region_any hm ?_
 have R':=(R.sameHeap (w':={ w with drawn:=w.drawn+1 }) rfl rfl rfl rfl).2
 have e:unl ops (Array.replicate ops.size false)=Wy ops.size:=by
  unfold unl
  rw [Xj]
  intro i hi
  have hi:=Xp.1 hi
  simp [QQ,hi]
 have hlen:(zdO (h.rt.lookup id) (Region.before ops) cs).length=ops.size:=by rw [zLV,(zGq _ _ _ hc).1]; simp
 refine zXr hcb hc hp.1 hp.2 ops.size _ (by simp) (fun i j hi=>?_) (by rw [e]; simp) R' ?_ hQ
 ·exfalso
  rw [QQ,Array.getElem?_replicate] at hi
  split at hi <;> simp at hi
 ·rw [e,List.range_eq_range',← hlen,← zFv _ _ 0 σ (fun i=>by rw [Nat.zero_add])]
  exact hs
end
end
section
variable {ren:Rn} {P:Program} {w:World}
def zjZ:Nat→Nat→Prop:=fun _ _=>False
theorem zPl:wr zjZ (fun _=>Ow.no)=zjZ:=by
 funext k o
 simp [wr,zjZ]
theorem zSv(hgv:GV ren w zjZ){args:List V}{us:List Value}(hl:args.length=us.length)(h:∀ (i:Nat) (v:V) (u:Value),args[i]?=some v→us[i]?=some u→RepP ren w zjZ v u) :
  Rel ren w (fun _=>Ow.no) zjZ No ⟨args,([]:Bor).map toB⟩ ⟨us.toArray,[]⟩ w (fun _=>Ow.no) (fun _=>0):=by
 refine ⟨rfl,by simp [hl],fun i v hv=>?_,fun id p cs hb=>by simp at hb,fun id cs hb=>by simp at hb,fun id es hb=>by simp at hb,Kept.refl _ _,fun k hk=>absurd rfl hk,fun k o h=>h.elim,fun k o u h1 h2=>⟨h1,h2⟩,fun k=>Nat.le_refl _,by rw [zPl]; exact hgv⟩
 have hlt:i<us.length:=by rw [← hl]; exact (Wi.1 hv).1
 have e:(us.toArray).getD i undef=us[i]:=by simp [hlt]
 show Rep ren _ _ _ ((us.toArray).getD i undef)
 rw [e]
 refine .pure ?_
 show RepP ren w (wr zjZ (fun _=>Ow.no)) v us[i]
 rw [zPl]
 exact h i v _ hv (Wc hlt)
theorem zQA(hgv:GV ren w zjZ){cb:CB}(hcb:zhy P ren cb){f:FuncId}{g:Nat}(hf:ren f=some g){args:List V}{us:List Value}(hl:args.length=us.length)(h:∀ (i:Nat) (v:V) (u:Value),args[i]?=some v→us[i]?=some u→RepP ren w zjZ v u)
  {b:Bool} {bor':Bor} (hr:cb g args []=some (.sc (.bool b),bor')):Calls P f us.toArray w fun e w'=>e=.returned (.bool b)∧Kept No w w':=by
 obtain ⟨_,hp⟩:=hcb _ _ _ _ _ hr f hf
 refine (hp w us zjZ No (fun _=>Ow.no) (fun _=>0) (zSv hgv hl h)).mono ?_
 rintro e w' ⟨u,ω',μ',rfl,R,_⟩
 have:=(R.ts 0 _ rfl).sc_eq.1
 refine ⟨?_,R.kp⟩
 have hu:u=.bool b:=by simpa using this
 rw [hu]
end
end Go.Proofs.YtgmhijonllockaaGreatDoor
