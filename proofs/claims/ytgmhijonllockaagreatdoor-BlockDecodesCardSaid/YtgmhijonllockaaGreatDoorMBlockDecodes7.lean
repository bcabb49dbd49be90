/- Part 7 of the proof of BlockDecodes: an abstract machine over plain values, its soundness, and the functions of the program on plain values. -/
import Derived.Test.YtgmhijonllockaaGreatDoorMBlockDecodes6
namespace Go.Proofs.YtgmhijonllockaaGreatDoor
set_option maxRecDepth 100000
set_option linter.unusedVariables false
set_option linter.unusedSimpArgs false
open Bool renaming false_eq_true->WP,and_eq_true->Wh,or_eq_true->Xb,not_eq_true'->Xc,not_true->Xh,false_and->Xk,eq_iff_iff->Xo
open List renaming mem_append->QD,getElem?_set_ne->WE,all_eq_true->QO,getElem?_eq_some_iff->Wi,getElem?_eq_none->Q3,getElem?_set_self->WF,getElem?_set->Xa,ext_getElem?->Xd,contains_iff_mem->Xe,mem_flatMap->Q0,getElem?_eq_getElem->Wc,getD_eq_getElem?_getD->Ws,mem_filterMap->QP,mem_append_left->Xf,isEmpty_iff->Xg,getElem_mem->W2,getElem?_modify->WN,filterMap_cons->Xi,filter_eq_self->Xj,flatMap_eq_nil_iff->Xm,length_set->QI,mem_append_right->Q7,mem_range->Xp,getElem?_of_mem->Xq,mem_of_mem_take->WV,pairwise_append->Xr,set_comm->Xs,getElem?_take->Wn,getElem?_drop->Wp,length_modify->Xt,pairwise_cons->Xu,map->Xv,range->Wy
open Option renaming bind_eq_some_iff->Wa,bind_eq_bind->Wb,map_eq_some_iff->Wj,bind_some->QT,getD_some->Xl
open _root_.Array renaming getD_eq_getD_getElem?->QQ,getElem?_eq_getElem->QS,getElem?_eq_some_iff->QA,getElem?_eq_none->WT,foldl_toList->WA
open Option.some renaming injEq->Wg
open Nat renaming eq_of_beq_eq_true->Wd,lt_or_ge->Xn
section
variable {cb:CB} {nb:Nat} {σ σ' σ1:St}
def Wo(o:COp):List Nat:=Wk o.k o.dst
theorem zaX{g:Option (Nat × Bool)}(h:∀ j w,g=some (j,w)→σ'.t[j]?=σ.t[j]?):zad σ' g=zad σ g:=by
 cases g with
 | none=>rfl
 | some jw=>obtain ⟨j,w⟩:=jw; simp only [zad,h j w rfl]
theorem zbh{o:COp}{j:Nat}{w:Bool}(h:o.guard=some (j,w)):j∈zL o:=by simp [zL,h]
theorem zdR{o:COp}{j:Nat}(h:j∈xt o.k):j∈zL o:=by simp [zL,h]
theorem yR(o:COp)(hl:σ'.t.length=σ.t.length)(hb:σ'.b=σ.b)(hr:∀ t∈zL o,σ'.t[t]?=σ.t[t]?)(h:xk cb nb σ o=some σ1) :
  ∃ σ1',xk cb nb σ' o=some σ1'∧Over (Wo o) σ σ1 σ' σ1':=by
 unfold xk at h ⊢
 rw [zaX (fun j w hg=>hr j (zbh hg))]
 split at h
 ·exact zOF o.k hl hb (fun t ht=>hr t (zdR ht)) h
 ·cases h
  exact ⟨_,rfl,zbN _ hl hb zA (fun i hi hd=>hr i (zdR (zDw (zi2 hi hd))))⟩
 ·cases h
def pv(σ:St)(pin:Bool):K→Option V
 | .move x _=>if pin then none else some (x.get σ).dem
 | k=>xj σ k
theorem zGk{k:K}(hp:yy k=true)(σ:St)(d:Option Nat)(pin:Bool):yd cb nb σ d pin k=(pv σ pin k).map (fun v=>σ.put d v):=by
 cases k <;> simp [yy] at hp <;> first | rfl | (subst hp; cases pin <;> rfl)
theorem zSA{k:K}(hp:yy k=true)(pin:Bool)(hr:∀ t∈xt k,σ'.t[t]?=σ.t[t]?):pv σ' pin k=pv σ pin k:=by
 cases k with
 | move x take=>simp only [pv,zh (s:=x) hr]
 | _=>exact zDn _ hr (.inr hp)
theorem zpV(o:COp)(hp:yy o.k=true)(hr:∀ t∈zL o,σ'.t[t]?=σ.t[t]?)(h:xk cb nb σ o=some σ1):∃ v,σ1=σ.put o.dst v∧xk cb nb σ' o=some (σ'.put o.dst v):=by
 unfold xk at h ⊢
 rw [zaX (fun j w hg=>hr j (zbh hg))]
 split at h
 ·rw [zGk hp] at h ⊢
  rw [zSA hp _ (fun t ht=>hr t (zdR ht))]
  rw [Wj] at h
  obtain ⟨v,h1,rfl⟩:=h
  exact ⟨v,rfl,by rw [h1]; rfl⟩
 ·cases h; exact ⟨_,rfl,rfl⟩
 ·cases h
theorem zxj{k:K}(h:yy k=true):zaj k=[]:=by
 cases k <;> simp [yy] at h <;> first | rfl | (subst h; rfl)
theorem zGo{σ σ1:St}{d:Option Nat}{v:V}(h:σ.putR nb d false v=some σ1)(hv:∀ p cs,v≠.bx p cs):σ1.b=σ.b:=by
 cases v with
 | bx p cs=>exact absurd rfl (hv p cs)
 | fr sz es=>simp only [St.putR,St.putG,Xk,WP,if_false] at h; cases h; exact yO _ _ _
 | gs sz es=>simp only [St.putR] at h; cases h; exact yO _ _ _
 | _=>simp only [St.putR] at h; cases h; exact yO _ _ _
theorem zq4{σ:St}:∀ (ss:List (Src × Nat)) (b:List B),(∀ s∈ss,∀ id,zam (s.1.get σ)=some id→yX b id=b)→xo σ ss b=b
 | [],b,h=>rfl
 | s::ss,b,h=>by
  have ih:=zq4 ss b (fun s' hs'=>h s' (by simp [hs']))
  unfold xo
  split
  ·exact ih
  ·cases ho:zam (s.1.get σ) with
   | none=>exact ih
   | some id=>simp only [h s (by simp) id ho]; exact ih
theorem zQh{b:List B}{id:Nat}(h:zRL b[id]?=true):yX b id=b:=by
 unfold yX
 cases hb:b[id]? with
 | none=>rfl
 | some x=>
  cases x with
  | fz cs=>rfl
  | gone=>rfl
  | live p cs=>rw [hb] at h; simp [zRL] at h
  | mp es=>rfl
  | dead n=>rfl
theorem zDl(b:List B)(n:Nat)(acc:List Nat):zeZ b n [] acc=acc:=by cases n <;> rfl
theorem zIL{s:Src × Nat}(hm:s.2<2):zsW s=none:=by
 unfold zsW
 split
 ·rw [if_neg (by omega)]
 ·rfl
theorem zDt{σ:St}{s:Src × Nat}(hm:s.2<2)(h:zi0 σ.b (s.1.get σ)=true){v:V}(hv:zby σ s=some v):yG v=[]:=by
 have hl:zn7 s.2 (s.1.get σ)=none:=by unfold zn7; rw [if_neg (by omega)]
 rw [zby,zIL hm] at hv
 simp only [zw5,hl] at hv
 cases hx:s.1.get σ with
 | own id off len sz=>
  rw [hx] at hv
  simp only [zbc] at hv
  cases hc:((σ.b[id]?).getD .gone).cs? with
  | none=>rw [hc] at hv; cases hv
  | some cs=>rw [hc] at hv; cases hv; rfl
 | ptr id off=>rw [hx] at h; simp [zi0] at h
 | st cs=>rw [hx] at h; simp [zi0] at h
 | mp id=>rw [hx] at h; simp [zi0] at h
 | fn f caps=>
  rw [hx] at h hv
  simp only [zi0,Xg] at h
  subst h
  simp [zbc] at hv
  subst hv; rfl
 | _=>
  rw [hx] at hv
  simp only [zbc] at hv
  first
   | (cases hv; rfl)
   | (simp [V.plain] at hv; subst hv; rfl)
   | (simp [V.plain] at hv)
theorem zEg{dst:Option Nat}{agg:Bool}{n:Nat}{a:Src}{take pin:Bool}(hl:(agg||!take)=true)(hg:a.get σ'=a.get σ)(hb:∀ id off,a.get σ=.ptr id off→σ'.b[id]?=σ.b[id]?)(h:yd cb nb σ dst pin (.load agg n a take)=some σ1):∃ v,σ1=σ.put dst v∧yd cb nb σ' dst pin (.load agg n a take)=some (σ'.put dst v):=by
 simp only [yd,hg] at h ⊢
 cases hx:a.get σ with
 | ptr id off=>
  rw [hx] at h
  have hb:=hb id off hx
  simp only [hb]
  simp only at h
  cases hbb:σ.b[id]? with
  | none=>rw [hbb] at h; cases h
  | some x=>
   rw [hbb] at h
   cases x with
   | live p cs=>
    simp only at h ⊢
    cases agg with
    | true=>
     simp only [if_true] at h ⊢
     split at h
     ·rename_i hle
      simp only [hle,if_true]
      cases p with
      | true=>simp only [if_true] at h ⊢; cases h; exact ⟨_,rfl,rfl⟩
      | false=>
       cases take with
       | true=>
        simp only [WP,if_false,if_true,Wb,Wa,Wg] at h ⊢
        obtain ⟨vs,h1,rfl⟩:=h
        exact ⟨_,rfl,⟨vs,h1,rfl⟩⟩
       | false=>
        simp only [WP,if_false,Wb,Wa,Wg] at h ⊢
        obtain ⟨vs,h1,rfl⟩:=h
        exact ⟨_,rfl,⟨vs,h1,rfl⟩⟩
     ·cases h
    | false=>
     have ht:take=false:=by simpa using hl
     subst ht
     simp only [WP,if_false] at h ⊢
     cases hv:cs[off]? with
     | none=>rw [hv] at h; cases h
     | some v=>rw [hv] at h; simp only at h ⊢; cases h; exact ⟨_,rfl,rfl⟩
   | fz cs=>
    simp only at h ⊢
    cases agg with
    | true=>
     simp only [if_true] at h ⊢
     split at h
     ·rename_i hle
      simp only [hle,if_true]
      cases h; exact ⟨_,rfl,rfl⟩
     ·cases h
    | false=>
     simp only [WP,if_false] at h ⊢
     cases hv:cs[off]? with
     | none=>rw [hv] at h; cases h
     | some v=>rw [hv] at h; simp only at h ⊢; cases h; exact ⟨_,rfl,rfl⟩
   | _=>cases h
 | fp m cs=>
  rw [hx] at h
  simp only at h ⊢
  cases agg with
  | true=>
   simp only [if_true] at h ⊢
   split at h
   ·rename_i hle
    simp only [hle,if_true]
    cases h; exact ⟨_,rfl,rfl⟩
   ·cases h
  | false=>
   simp only [WP,if_false] at h ⊢
   cases hv:cs[0]? with
   | none=>rw [hv] at h; cases h
   | some v=>rw [hv] at h; simp only at h ⊢; cases h; exact ⟨_,rfl,rfl⟩
 | _=>rw [hx] at h; cases h
theorem zR5{dst:Option Nat}{agg:Bool}{n:Nat}{a:Src}{take pin:Bool}(hl:(agg||!take)=true)(h:yd cb nb σ dst pin (.load agg n a take)=some σ1):∃ v,σ1=σ.put dst v:=by
 obtain ⟨v,h,_⟩:=zEg (σ':=σ) hl rfl (fun _ _ _=>rfl) h
 exact ⟨v,h⟩
theorem zHN{o:COp}(h:xk cb nb σ o=some σ1)(hq:zcx σ o σ1=true):σ1.b=σ.b:=by
 unfold xk at h
 unfold zcx at hq
 cases hg:zad σ o.guard with
 | none=>rw [hg] at h; cases h
 | some g=>
  rw [hg] at h hq
  cases g with
  | false=>simp only at h; cases h; exact yO _ _ _
  | true=>
   simp only at h hq
   have sp:yy o.k=true→σ1.b=σ.b:=by
    intro hp
    rw [zGk hp,Wj] at h
    obtain ⟨v,_,rfl⟩:=h
    exact yO _ _ _
   cases hk:o.k with
   | load agg n x take=>
    rw [hk] at h hq
    obtain ⟨v,rfl⟩:=zR5 hq h
    exact yO _ _ _
   | toStr x=>
    rw [hk] at h
    simp only [yd,Wj] at h
    obtain ⟨v,_,rfl⟩:=h
    exact yO _ _ _
   | loadS n x=>
    rw [hk] at h
    simp only [yd,Wb] at h
    repeat' (split at h)
    ·rw [Wa] at h
     obtain ⟨v,_,h⟩:=h
     cases h
     exact yO _ _ _
    all_goals cases h
   | see x=>
    rw [hk] at h
    simp only [yd,Wj] at h
    obtain ⟨v,_,rfl⟩:=h
    exact yO _ _ _
   | cmpB x y=>
    rw [hk] at h
    simp only [yd,Wj] at h
    obtain ⟨v,_,rfl⟩:=h
    exact yO _ _ _
   | sliceA n sz x l hh m=>
    rw [hk] at h
    simp only [yd,Wj] at h
    obtain ⟨v,_,rfl⟩:=h
    exact yO _ _ _
   | move x take=>
    rw [hk] at h
    simp only [yd] at h
    repeat' (split at h)
    ·cases h
    ·cases h; rw [yO,zhp]
    ·cases h; exact yO _ _ _
   | append sz bytes s x=>
    rw [hk] at h hq
    simp only [Wh,Xc] at hq
    obtain ⟨⟨hq,hown⟩,hcut⟩:=hq
    simp only [yd,hq,Xk,WP,if_false,St.putG] at h
    split at h
    ·split at h
     ·cases h; rw [yO,zhp]
     ·cases h
    ·split at h
     ·cases h; rw [yO,zhp]
     ·cases h
    ·rename_i hs _
     rw [hs] at hown
     simp [zam] at hown
    ·rename_i hs _
     rw [hs] at hcut
     simp [zS2] at hcut
    ·cases h
   | buildSlice sz n z ps=>
    rw [hk] at h hq
    simp only [Xc] at hq
    simp only [yd,hq,Wb,Wa,St.putG,WP,and_false,if_false,Wg] at h
    obtain ⟨_,_,rfl⟩:=h
    exact yO _ _ _
   | makeSlice sz bytes z l c=>
    rw [hk] at h hq
    simp only [Xc] at hq
    simp only [yd,hq,St.putG,WP,if_false] at h
    repeat' (split at h)
    all_goals first
     | (cases h; done)
     | (cases h; exact yO _ _ _)
   | call f xs ys=>
    rw [hk] at h hq
    simp only [Wh,Xc,QO,decide_eq_true_eq,Xg] at hq
    obtain ⟨⟨⟨hpin,hys⟩,hargs⟩,hd⟩:=hq
    subst hys
    simp only [yd,Wb,Wa] at h
    obtain ⟨vs,h1,h2⟩:=h
    unfold zd7 at h2
    have hfz:xo σ xs σ.b=σ.b:=zq4 xs _ (fun s hs id hid=>by
     have:=(hargs s hs).2
     cases hx:s.1.get σ <;> rw [hx] at this hid <;> simp only [zam] at hid <;> cases hid
     exact zQh this)
    have hids:zar σ.b vs=[]:=by
     unfold zar
     have:vs.flatMap yG=[]:=by
      rw [Xm]
      intro v hv
      obtain ⟨i,hi⟩:=Xq hv
      have hlt:i<xs.length:=by rw [← zAY h1]; exact (Wi.1 hi).1
      obtain ⟨v',g1,g2⟩:=zEB h1 i _ (Wc hlt)
      rw [hi] at g1; cases g1
      exact zDt (hargs _ (W2 hlt)).1 (hargs _ (W2 hlt)).2 g2
     rw [this,zDl]
    simp only [hfz,hids,ze5,Wb,QT] at h2
    simp only [Wa] at h2
    obtain ⟨⟨r,bor'⟩,_,h3⟩:=h2
    simp only at h3
    split at h3
    ·have e:zas (fun k=>(([]:List Nat)++(Xv (nb+·) []).take (bor'.length-([]:List Nat).length)).getD k 0) (([]:List Nat)++(Xv (nb+·) []).take (bor'.length-([]:List Nat).length)) bor' σ.b=σ.b:=by simp [zas]
     rw [e,hpin] at h3
     generalize zoI _ r=r' at h3
     cases hdd:o.dst with
     | none=>rw [hdd] at hd; cases hd
     | some d=>
      rw [hdd] at hd h3
      have:=zGo h3 (fun p cs hbx=>by
       subst hbx
       simp only [St.putR,St.newB] at h3
       split at h3
       ·cases h3
        simp only [St.put,St.setB] at hd
        split at hd
        ·rename_i v hv
         rw [Xa] at hv
         simp only [if_true] at hv
         split at hv
         ·cases hv; simp [zuf] at hd
         ·cases hv
        ·cases hd
       ·cases h3)
      exact this
    ·cases h3
   | extract x i=>
    rw [hk] at h hq
    simp only [Wh,Xc] at hq
    obtain ⟨hpin,hq⟩:=hq
    simp only [yd,hpin] at h
    split at h
    ·rename_i vs hvs
     rw [hvs] at hq
     simp only at hq
     split at h
     ·rename_i _ v t hvi
      rw [hvi] at hq
      split at h
      ·split at h
       ·have:=zGo h (fun p cs hbx=>by subst hbx; simp at hq)
        exact this
       ·first
         | (cases h; exact yO _ _ _)
         | (simp only [Xk,WP,if_false] at h; cases h; exact yO _ _ _)
      ·cases h
     ·cases h
    ·cases h
   | mlook kd ok z x y=>
    rw [hk] at h hq
    simp only [yd] at h
    split at h
    ·split at h
     ·split at h
      ·simp only [Wb,Wa,Option.pure_def,Wg] at h
       obtain ⟨r,_,rfl⟩:=h
       exact yO _ _ _
      ·cases h
     ·cases h
    ·cases h
   | lenM x=>
    rw [hk] at h hq
    simp only [yd] at h
    split at h
    ·split at h
     ·cases h; exact yO _ _ _
     ·cases h
    ·cases h
   | _=>
    rw [hk] at hq
    exact sp (by rw [hk]; exact hq)
theorem zDx{o:COp}{σ1 σ1':St}(hb:σ'.b=σ.b∨yy o.k=true)(hr:∀ t∈zL o,σ'.t[t]?=σ.t[t]?)(hd:∀ d,o.dst=some d→σ1'.t[d]?=σ1.t[d]?):zcx σ' o σ1'=zcx σ o σ1:=by
 unfold zcx
 rw [zaX (fun j w hg=>hr j (zbh hg))]
 have hrk:∀ t∈xt o.k,σ'.t[t]?=σ.t[t]?:=fun t ht=>hr t (zdR ht)
 cases hk:o.k with
 | call f xs ys=>
  rw [hk] at hrk hb
  have hb:σ'.b=σ.b:=hb.resolve_right (by simp [yy])
  rw [hb]
  have e:(xs.all fun s=>decide (s.2<2)&&zi0 σ.b (s.1.get σ'))=(xs.all fun s=>decide (s.2<2)&&zi0 σ.b (s.1.get σ)):=by
   have hc:∀ s∈xs,s.1.get σ'=s.1.get σ:=fun s hs=>zh (fun t ht=>hrk t (Q0.2 ⟨s,hs,ht⟩))
   rw [Xo,QO,QO]
   constructor
   ·intro hh c hcc; rw [← hc c hcc]; exact hh c hcc
   ·intro hh c hcc; rw [hc c hcc]; exact hh c hcc
  simp only [e]
  cases hds:o.dst with
  | none=>rfl
  | some d=>simp only [hd d hds]
 | extract x i=>
  rw [hk] at hrk
  simp only [zh (s:=x) hrk]
 | append sz bytes s x=>
  rw [hk] at hrk
  simp only [xt] at hrk
  simp only [zh (s:=s) (fun t ht=>hrk t (by simp [ht]))]
 | _=>rfl
theorem zbT{a b:List Nat}(h:zdX a b=true):∀ x∈a,x ∉ b:=by
 intro x hx hb
 have:=QO.1 h x hx
 simp [hb] at this
structure Side (A B:COp) (sa sb:Bool) (σ σ1 σ2 σ1':St):Prop where
 fA:∀ k,k ∉ Wo A→σ1.t[k]?=σ.t[k]?
 fB:∀ k,k ∉ Wo B→σ1'.t[k]?=σ.t[k]?
 dB:∀ d,B.dst=some d→σ1'.t[d]?=σ2.t[d]?
 dA:∀ d,A.dst=some d→σ2.t[d]?=σ1.t[d]?
 bB:σ.b=σ1.b∨yy B.k=true∨zag B.k=true∨sb=true
 bA:σ1'.b=σ.b∨yy A.k=true∨zag A.k=true∨sa=true
theorem zWc{A B:COp}{σ σ1 σ2:St}(ha:xk cb nb σ A=some σ1)(hb:xk cb nb σ1 B=some σ2)(hs:zfA A B=true)(hq:yy A.k=true∨yy B.k=true∨(zcx σ A σ1=true∧zcx σ1 B σ2=true)) :
  ∃ σ1',xk cb nb σ B=some σ1'∧xk cb nb σ1' A=some σ2∧∀ sa sb,Side A B sa sb σ σ1 σ2 σ1':=by
 simp only [zfA,Wh] at hs
 have s1:=zbT hs.1
 have s2:=zbT hs.2
 have wa:∀ k∈Wo A,k ∉ zL B∧k ∉ Wo B:=fun k hk=>by
  have:=s1 k hk
  simp only [QD,not_or] at this
  exact ⟨this.1.1,fun hh=>by simp only [Wo,Wk,QD] at hh; exact hh.elim this.1.2 this.2⟩
 have wb:∀ k∈Wo B,k ∉ zL A∧k ∉ Wo A:=fun k hk=>by
  have:=s2 k hk
  simp only [QD,not_or] at this
  exact ⟨this.1.1,fun hh=>by simp only [Wo,Wk,QD] at hh; exact hh.elim this.1.2 this.2⟩
 obtain ⟨_,_,oa⟩:=yR A rfl rfl (fun _ _=>rfl) ha
 obtain ⟨_,_,ob⟩:=yR B rfl rfl (fun _ _=>rfl) hb
 have rB:∀ t∈zL B,σ.t[t]?=σ1.t[t]?:=fun t ht=>(oa.fr t (fun hh=>(wa t hh).1 ht)).symm
 have key:∃ σ1',xk cb nb σ B=some σ1'∧(∀ k∈Wo B,σ1'.t[k]?=σ2.t[k]?)∧(∀ k,k ∉ Wo B→σ1'.t[k]?=σ.t[k]?)∧σ1'.t.length=σ.t.length ∧
   ∃ σ2',xk cb nb σ1' A=some σ2'∧(∀ k∈Wo A,σ2'.t[k]?=σ1.t[k]?)∧(∀ k,k ∉ Wo A→σ2'.t[k]?=σ1'.t[k]?)∧σ2'.b=σ2.b∧(σ.b=σ1.b∨yy B.k=true)∧(σ1'.b=σ.b∨yy A.k=true):=by
  have viaB:∀ σ1',xk cb nb σ B=some σ1'→(∀ k,k ∉ Wo B→σ1'.t[k]?=σ.t[k]?)→∀ t∈zL A,σ1'.t[t]?=σ.t[t]?:=fun σ1' _ h t ht=>h t (fun hh=>(wb t hh).1 ht)
  by_cases hbp:yy B.k=true
  ·obtain ⟨v,e1,e2⟩:=zpV B hbp rB hb
   have hWB:∀ k,B.dst=some k→k∈Wo B:=fun k hk=>zA k hk
   have hl:(σ.put B.dst v).t.length=σ.t.length:=zjh _ _ _
   have off:∀ k,k ∉ Wo B→(σ.put B.dst v).t[k]?=σ.t[k]?:=fun k hk=>by rw [xT,if_neg (fun h=>hk (hWB k h.1))]
   refine ⟨_,e2,fun k hk=>?_,off,hl,?_⟩
   ·have hkd:B.dst=some k:=by
     simp only [Wo,Wk,zxj hbp,List.nil_append] at hk
     cases hd:B.dst with
     | none=>rw [hd] at hk; simp at hk
     | some d=>rw [hd] at hk; simp at hk; rw [hk]
    rw [e1,xT,xT,oa.len]
    by_cases hlt:k<σ.t.length
    ·rw [if_pos ⟨hkd,hlt⟩,if_pos ⟨hkd,hlt⟩]
    ·rw [if_neg (fun h=>hlt h.2),if_neg (fun h=>hlt h.2),Q3 (by omega),Q3 (by rw [oa.len]; omega)]
   ·obtain ⟨σ2',f1,f2⟩:=yR A (σ':=σ.put B.dst v) hl (yO _ _ _) (viaB _ e2 off) ha
    exact ⟨σ2',f1,f2.on,f2.off,by rw [f2.b,e1,yO],.inr hbp,.inl (yO _ _ _)⟩
  ·by_cases hap:yy A.k=true
   ·obtain ⟨v,e1,_⟩:=zpV A hap (fun _ _=>rfl) ha
    have hb1:σ.b=σ1.b:=by rw [e1,yO]
    obtain ⟨σ1',f1,f2⟩:=yR B (σ':=σ) oa.len.symm hb1 rB hb
    have hl:σ1'.t.length=σ.t.length:=f2.len'
    refine ⟨σ1',f1,f2.on,f2.off,hl,?_⟩
    obtain ⟨v',e3,e4⟩:=zpV A (σ':=σ1') hap (viaB _ f1 f2.off) ha
    refine ⟨_,e4,fun k hk=>?_,fun k hk=>?_,by rw [yO,f2.b],.inl hb1,.inr hap⟩
    ·have hkd:A.dst=some k:=by
      simp only [Wo,Wk,zxj hap,List.nil_append] at hk
      cases hd:A.dst with
      | none=>rw [hd] at hk; simp at hk
      | some d=>rw [hd] at hk; simp at hk; rw [hk]
     rw [e3,xT,xT,hl]
     by_cases hlt:k<σ.t.length
     ·rw [if_pos ⟨hkd,hlt⟩,if_pos ⟨hkd,hlt⟩]
     ·rw [if_neg (fun h=>hlt h.2),if_neg (fun h=>hlt h.2),Q3 (by omega),Q3 (by omega)]
    ·rw [xT,if_neg (fun h=>hk (zA k h.1))]
   ·have hq:zcx σ A σ1=true∧zcx σ1 B σ2=true:=by
     rcases hq with h | h | h
     ·exact absurd h hap
     ·exact absurd h hbp
     ·exact h
    have hb1:=zHN ha hq.1
    have hb2:=zHN hb hq.2
    obtain ⟨σ1',f1,f2⟩:=yR B (σ':=σ) oa.len.symm hb1.symm rB hb
    refine ⟨σ1',f1,f2.on,f2.off,f2.len',?_⟩
    obtain ⟨σ2',g1,g2⟩:=yR A (σ':=σ1') f2.len' (by rw [f2.b,hb2,hb1]) (viaB _ f1 f2.off) ha
    exact ⟨σ2',g1,g2.on,g2.off,by rw [g2.b,hb2],.inl hb1.symm,.inl (by rw [f2.b,hb2,hb1])⟩
 obtain ⟨σ1',k1,k2,k3,k4,σ2',k5,k6,k7,k8,k9,k10⟩:=key
 have e:σ2'=σ2:=by
  have et:σ2'.t=σ2.t:=by
   apply Xd
   intro k
   by_cases hA:k∈Wo A
   ·rw [k6 k hA,ob.fr k (wa k hA).2]
   ·rw [k7 k hA]
    by_cases hB:k∈Wo B
    ·rw [k2 k hB]
    ·rw [k3 k hB,ob.fr k hB,oa.fr k hA]
  cases σ2'; cases σ2; simp only at et k8; rw [et,k8]
 subst e
 exact ⟨σ1',k1,k5,fun sa sb=>⟨oa.fr,k3,fun d hd=>k2 d (zA d hd),fun d hd=>k6 d (zA d hd),k9.imp_right .inl,k10.imp_right .inl⟩⟩
theorem zLu{o:COp}{σ1 σ1':St}(hb:σ'.b=σ.b∨yy o.k=true∨zag o.k=true)(hr:∀ t∈zL o,σ'.t[t]?=σ.t[t]?)(hd:∀ d,o.dst=some d→σ1'.t[d]?=σ1.t[d]?):zcx σ' o σ1'=zcx σ o σ1:=by
 rcases hb with h | h | h
 ·exact zDx (.inl h) hr hd
 ·exact zDx (.inr h) hr hd
 ·unfold zcx
  rw [zaX (fun j w hg=>hr j (zbh hg))]
  cases hk:o.k <;> rw [hk] at h <;> simp [zag] at h <;> rfl
theorem zKH{o:COp}{id:Nat}(hb:σ'.b=σ.b∨yy o.k=true∨zag o.k=true)(hr:∀ t∈zL o,σ'.t[t]?=σ.t[t]?):zsM nb σ' o id=zsM nb σ o id:=by
 unfold zsM
 rcases hb with hb | h | h
 rotate_left
 ·simp [h]
 ·simp [h]
 congr 1
 rw [zaX (fun j w hg=>hr j (zbh hg))]
 cases hk:o.k with
 | call f xs ys=>
  have hrk:∀ t∈xt o.k,σ'.t[t]?=σ.t[t]?:=fun t ht=>hr t (zdR ht)
  rw [hk] at hrk
  simp only [xt] at hrk
  have e1:xs.mapM (zby σ')=xs.mapM (zby σ):=zeB xs (fun s hs=>zmo hb (fun t ht=>hrk t (Q0.2 ⟨s,hs,ht⟩)))
  have e2:∀ vs,za5 nb σ' o.dst vs xs ys=za5 nb σ o.dst vs xs ys:=by
   intro vs
   unfold za5
   rw [zk4 xs _ hrk,hb]
   congr 3
   have hcc:∀ s∈xs,zam (s.1.get σ')=zam (s.1.get σ):=fun s hs=>by rw [zh (fun t ht=>hrk t (Q0.2 ⟨s,hs,ht⟩))]
   clear hrk e1 hk
   induction xs with
   | nil=>rfl
   | cons s xs ih=>
    simp only [Xi,hcc s (by simp)]
    rw [ih (fun s hs=>hcc s (by simp [hs]))]
  simp only [e1,e2]
 | _=>rfl
theorem ztj{o:COp}(hb:σ'.b=σ.b∨yy o.k=true∨zag o.k=true)(hr:∀ t∈zL o,σ'.t[t]?=σ.t[t]?):∀ (w:List Nat),(∀ r∈w,σ'.t[r]?=σ.t[r]?)→zlO nb σ' o w=zlO nb σ o w
 | [],_=>rfl
 | r::w,h=>by
  simp only [zlO,h r (by simp),ztj hb hr w (fun r hr=>h r (by simp [hr]))]
  congr 1
  cases σ.t[r]? with
  | none=>rfl
  | some v=>cases v <;> first | rfl | exact zKH hb hr
theorem zJC{o:COp}{r:Nat}(hr:∀ t∈zL o,σ'.t[t]?=σ.t[t]?)(h:σ'.t[r]?=σ.t[r]?):znf σ' o r=znf σ o r:=by
 unfold znf
 congr 1
 cases hk:o.k with
 | load agg n x take=>
  cases x with
  | const v=>rfl
  | tmp p=>
   have hp:σ'.t[p]?=σ.t[p]?:=hr p (zdR (by rw [hk]; simp [xt,Src.tmps]))
   simp only [hp,h]
 | _=>rfl
theorem zJU{o:COp}{σ1 σ1':St}(hr:∀ t∈zL o,σ'.t[t]?=σ.t[t]?)(hd:∀ d,o.dst=some d→σ1'.t[d]?=σ1.t[d]?):zsv σ' o σ1'=zsv σ o σ1:=by
 unfold zsv
 rw [zaX (fun j w hg=>hr j (zbh hg))]
 have hrk:∀ t∈xt o.k,σ'.t[t]?=σ.t[t]?:=fun t ht=>hr t (zdR ht)
 cases hk:o.k with
 | call f xs ys=>
  rw [hk] at hrk
  have e:(xs.all fun s=>decide (s.2<2)&&zwS (s.1.get σ'))=(xs.all fun s=>decide (s.2<2)&&zwS (s.1.get σ)):=by
   have hc:∀ s∈xs,s.1.get σ'=s.1.get σ:=fun s hs=>zh (fun t ht=>hrk t (Q0.2 ⟨s,hs,ht⟩))
   rw [Xo,QO,QO]
   constructor
   ·intro hh c hcc; rw [← hc c hcc]; exact hh c hcc
   ·intro hh c hcc; rw [hc c hcc]; exact hh c hcc
  cases hds:o.dst with
  | none=>rfl
  | some d=>simp only [e,hd d hds]
 | _=>rfl
theorem zyX{dst:Option Nat}{vs:List V}{xs:List (Src × Nat)}{ys:List Nat}(hb:σ'.b=σ.b)(hrk:∀ t∈xs.flatMap (fun p=>p.1.tmps),σ'.t[t]?=σ.t[t]?):za5 nb σ' dst vs xs ys=za5 nb σ dst vs xs ys:=by
 unfold za5
 rw [zk4 xs _ hrk,hb]
 congr 3
 have hcc:∀ s∈xs,zam (s.1.get σ')=zam (s.1.get σ):=fun s hs=>by rw [zh (fun t ht=>hrk t (Q0.2 ⟨s,hs,ht⟩))]
 clear hrk
 induction xs with
 | nil=>rfl
 | cons s xs ih=>
  simp only [Xi,hcc s (by simp)]
  rw [ih (fun s hs=>hcc s (by simp [hs]))]
theorem zzD{o:COp}(hb:σ'.b=σ.b∨yy o.k=true∨zag o.k=true)(hr:∀ t∈zL o,σ'.t[t]?=σ.t[t]?):kOf nb σ' o=kOf nb σ o:=by
 unfold kOf
 rw [zaX (fun j w hg=>hr j (zbh hg))]
 have hrk:∀ t∈xt o.k,σ'.t[t]?=σ.t[t]?:=fun t ht=>hr t (zdR ht)
 cases hk:o.k with
 | call f xs ys=>
  rw [hk] at hrk hb
  simp only [xt] at hrk
  have hb:σ'.b=σ.b:=hb.resolve_right (by simp [yy,zag])
  have e1:xs.mapM (zby σ')=xs.mapM (zby σ):=zeB xs (fun s hs=>zmo hb (fun t ht=>hrk t (Q0.2 ⟨s,hs,ht⟩)))
  simp only [e1,zyX hb hrk]
 | callv f xs ys=>
  rw [hk] at hrk hb
  simp only [xt] at hrk
  have hb:σ'.b=σ.b:=hb.resolve_right (by simp [yy,zag])
  have hrk2:∀ t∈xs.flatMap (fun p=>p.1.tmps),σ'.t[t]?=σ.t[t]?:=fun t ht=>hrk t (Q7 _ ht)
  have e1:xs.mapM (zby σ')=xs.mapM (zby σ):=zeB xs (fun s hs=>zmo hb (fun t ht=>hrk2 t (Q0.2 ⟨s,hs,ht⟩)))
  simp only [e1,zyX hb hrk2,zh (s:=f) (fun t ht=>hrk t (Xf _ ht))]
 | loadS n x=>
  rw [hk] at hrk hb
  have hb:σ'.b=σ.b:=hb.resolve_right (by simp [yy,zag])
  simp only [zh (s:=x) hrk,hb]
 | load agg n x take=>
  rw [hk] at hrk
  simp only [zh (s:=x) hrk]
 | store n x y=>
  rw [hk] at hrk
  simp only [xt] at hrk
  simp only [zh (s:=x) (fun t ht=>hrk t (Xf _ ht))]
 | append sz bytes x y=>
  rw [hk] at hrk
  simp only [xt] at hrk
  simp only [zh (s:=x) (fun t ht=>hrk t (Xf _ ht)),zh (s:=y) (fun t ht=>hrk t (Q7 _ ht))]
 | _=>rfl
theorem zf4{o:COp}{fl:Fl}(hk:kOf nb σ' o=kOf nb σ o)(hw:∀ t∈fl.roots,σ'.t[t]?=σ.t[t]?):zov nb σ' o fl=zov nb σ o fl:=by
 unfold zov
 rw [hk]
 cases kOf nb σ o with
 | none=>rfl
 | some K=>
  simp only
  have e2:fl.w.all (zqw σ' K)=fl.w.all (zqw σ K):=by
   have hc:∀ r∈fl.w,zqw σ' K r=zqw σ K r:=fun r hr=>by
    unfold zqw
    rw [hw r (by simp [Fl.roots,hr])]
   rw [Xo,QO,QO]
   constructor
   ·intro hh c hcc; rw [← hc c hcc]; exact hh c hcc
   ·intro hh c hcc; rw [hc c hcc]; exact hh c hcc
  cases hf:fl.root with
  | none=>simp only [e2]
  | some r=>
   have:zHu σ' r=zHu σ r:=by
    funext id
    unfold zHu
    rw [hw r (by simp [Fl.roots,hf])]
   simp only [this,e2]
theorem zkW{o:COp}{fl:Fl}{σ1 σ1':St}(hb:σ'.b=σ.b∨yy o.k=true∨zag o.k=true∨(fl.s&&!fl.l)=true)(hr:∀ t∈zL o,σ'.t[t]?=σ.t[t]?)(hw:∀ t∈fl.roots,σ'.t[t]?=σ.t[t]?)(hd:∀ d,o.dst=some d→σ1'.t[d]?=σ1.t[d]?):zb7 nb σ' o fl σ1'=zb7 nb σ o fl σ1:=by
 unfold zb7
 rw [zJU hr hd]
 cases hl:fl.l with
 | true=>
  rw [hl] at hb
  simp only [Xh,Bool.and_false,WP,or_false] at hb
  exact zf4 (zzD hb hr) hw
 | false=>
 simp only [cond_false]
 cases hs:fl.s with
 | true=>rfl
 | false=>
  rw [hs] at hb
  have hb:σ'.b=σ.b∨yy o.k=true∨zag o.k=true:=by
   rcases hb with h | h | h | h
   ·exact .inl h
   ·exact .inr (.inl h)
   ·exact .inr (.inr h)
   ·cases h
  simp only [cond_false]
  rw [zLu hb hr hd,ztj hb hr fl.w (fun r h=>hw r (by simp [Fl.roots,h]))]
  congr 2
  cases hf:fl.root with
  | none=>rfl
  | some r=>exact zJC hr (hw r (by simp [Fl.roots,hf]))
theorem zzP{b:List B}{id k:Nat}(h:k≠id):(yX b id)[k]?=b[k]?:=by
 unfold yX
 split
 ·rw [WE (fun e=>h e.symm)]
 ·rfl
theorem zwX{σ:St}{k:Nat}:∀ (ss:List (Src × Nat)) (b:List B),k ∉ ss.filterMap (fun s=>zam (s.1.get σ))→(xo σ ss b)[k]?=b[k]?
 | [],b,h=>rfl
 | s::ss,b,h=>by
  unfold xo
  have h1:k ∉ ss.filterMap (fun s=>zam (s.1.get σ)):=by
   intro hh; apply h
   rw [QP] at hh ⊢
   obtain ⟨a,q1,q2⟩:=hh
   exact ⟨a,by simp [q1],q2⟩
  rw [zwX ss _ h1]
  split
  ·rfl
  ·cases ho:zam (s.1.get σ) with
   | none=>rfl
   | some id=>
    refine zzP (fun e=>h ?_)
    rw [QP]
    exact ⟨s,by simp,by rw [ho,e]⟩
theorem znF{σ σ1:St}{d:Option Nat}{x:B}{f:Nat→V}{k:Nat}(h:σ.newB nb d x f=some σ1)(hk:k ∉ d.toList.map (nb+·)):σ1.b[k]?=σ.b[k]?:=by
 cases d with
 | none=>cases h
 | some d=>
  simp only [St.newB] at h
  split at h
  ·cases h
   simp at hk
   simp only [yO,St.setB]
   rw [WE (fun e=>hk e.symm)]
  ·cases h
theorem zO0{σ σ1:St}{d:Option Nat}{pin:Bool}{sz:Nat}{es:Ls}{k:Nat}(h:σ.putG nb d pin sz es=some σ1)(hk:k ∉ d.toList.map (nb+·)):σ1.b[k]?=σ.b[k]?:=by
 unfold St.putG at h
 split at h
 ·exact znF h hk
 ·cases h; rw [yO]
theorem zO2{σ σ1:St}{d:Option Nat}{pin:Bool}{v:V}{k:Nat}(h:σ.putR nb d pin v=some σ1)(hk:k ∉ d.toList.map (nb+·)):σ1.b[k]?=σ.b[k]?:=by
 unfold St.putR at h
 split at h
 ·split at h
  ·cases h
  ·cases h; rw [yO]
 ·exact zO0 h hk
 ·exact znF h hk
 ·cases h; rw [yO]
theorem zyE(g:Nat→Nat):∀ (ids:List Nat) (bor:Bor) (b:List B) (id:Nat),id ∉ ids→(zas g ids bor b)[id]?=b[id]?
 | [],bor,b,id,h=>by cases bor <;> rfl
 | i::ids,[],b,id,h=>rfl
 | i::ids,x::bor,b,id,h=>by
  simp only [zas]
  rw [zyE g ids bor _ id (fun hh=>h (by simp [hh])),WE (fun e=>h (by simp [e]))]
theorem zQB{o:COp}{id:Nat}(h:xk cb nb σ o=some σ1)(ha:zsM nb σ o id=true):σ1.b[id]?=σ.b[id]?:=by
 unfold zsM at ha
 rw [Xb,Xb] at ha
 rcases ha with (ha | ha) | ha
 ·obtain ⟨v,rfl,_⟩:=zpV o ha (fun _ _=>rfl) h
  rw [yO]
 ·have:σ1.b=σ.b:=by
   refine zHN h ?_
   unfold xk at h
   unfold zcx
   cases hg:zad σ o.guard with
   | none=>rw [hg] at h; cases h
   | some g=>
    cases g with
    | false=>rfl
    | true=>cases hk:o.k <;> rw [hk] at ha <;> simp [zag] at ha <;> simp [ha]
  rw [this]
 ·unfold xk at h
  cases hg:zad σ o.guard with
  | none=>rw [hg] at h; cases h
  | some g=>
   rw [hg] at h ha
   cases g with
   | false=>simp only at h; cases h; rw [yO]
   | true=>
    simp only at h ha
    cases hk:o.k with
    | call f xs ys=>
     rw [hk] at h ha
     simp only [yd,Wb,Wa] at h
     obtain ⟨vs,h1,h2⟩:=h
     simp only [h1] at ha
     have ha:id ∉ za5 nb σ o.dst vs xs ys:=by
      intro hh
      have:(za5 nb σ o.dst vs xs ys).contains id=true:=Xe.2 hh
      rw [this] at ha; cases ha
     simp only [za5,QD,not_or] at ha
     obtain ⟨⟨⟨a1,a2⟩,a3⟩,a4⟩:=ha
     unfold zd7 at h2
     simp only [Wb,Wa,Prod.exists] at h2
     obtain ⟨bor,_,r,bor',_,h2⟩:=h2
     split at h2
     ·have:=zO2 h2 a4
      rw [this]
      simp only
      rw [zyE _ _ _ _ _ ?_,zwX _ _ a2]
      intro hh
      rw [QD] at hh
      rcases hh with hh | hh
      ·exact a1 hh
      ·exact a3 (WV hh)
     ·cases h2
    | alloc p cs=>
     rw [hk] at h ha
     simp only [yd] at h
     refine znF h (fun hh=>?_)
     have:(o.dst.toList.map (nb+·)).contains id=true:=Xe.2 hh
     simp only [this] at ha; cases ha
    | box p x=>
     rw [hk] at h ha
     have hn:id ∉ o.dst.toList.map (nb+·):=fun hh=>by
      have:(o.dst.toList.map (nb+·)).contains id=true:=Xe.2 hh
      simp only [this] at ha; cases ha
     simp only [yd] at h
     split at h
     ·split at h
      ·cases h
      ·exact znF h hn
     ·split at h
      ·exact znF h hn
      ·cases h
    | _=>rw [hk] at ha; cases ha
theorem zGp{o:COp}(h:xk cb nb σ o=some σ1)(hs:zsv σ o σ1=true):∃ v,σ1=σ.put o.dst v∧∀ σ':St,(∀ t∈zL o,σ'.t[t]?=σ.t[t]?)→xk cb nb σ' o=some (σ'.put o.dst v):=by
 unfold xk at h
 unfold zsv at hs
 cases hg:zad σ o.guard with
 | none=>rw [hg] at h; cases h
 | some g=>
  rw [hg] at h hs
  cases g with
  | false=>
   simp only at h; cases h
   refine ⟨_,rfl,fun σ' hr=>?_⟩
   unfold xk
   rw [zaX (fun j w hg=>hr j (zbh hg)),hg]
  | true=>
   simp only at h hs
   cases hk:o.k with
   | call f xs ys=>
    cases hds:o.dst with
    | none=>rw [hk,hds] at hs; cases hs
    | some d=>
     rw [hk,hds] at hs
     rw [hk,hds] at h
     simp only [Wh,Xc,QO,decide_eq_true_eq,Xg] at hs
     obtain ⟨⟨⟨hpin,hys⟩,hargs⟩,hd⟩:=hs
     subst hys
     rw [hpin] at h
     simp only [yd,Wb,Wa] at h
     obtain ⟨vs,h1,h2⟩:=h
     have hown:∀ s∈xs,zam (s.1.get σ)=none:=fun s hs=>by
      have:=(hargs s hs).2
      cases hx:s.1.get σ <;> rw [hx] at this <;> simp [zwS] at this <;> rfl
     have hrefs:vs.flatMap yG=[]:=by
      rw [Xm]
      intro v hv
      obtain ⟨i,hi⟩:=Xq hv
      have hlt:i<xs.length:=by rw [← zAY h1]; exact (Wi.1 hi).1
      obtain ⟨v',g1,g2⟩:=zEB h1 i _ (Wc hlt)
      rw [hi] at g1; cases g1
      refine zDt (hargs _ (W2 hlt)).1 ?_ g2
      have:=(hargs _ (W2 hlt)).2
      cases hx:(xs[i]).1.get σ <;> rw [hx] at this <;> simp [zwS] at this <;> simp [zi0,this]
     have gen:∀ (τ:St),(∀ s∈xs,zam (s.1.get τ)=none)→zd7 cb nb τ (some d) false f vs xs []=(cb f (vs.map (zdS (yN []))) []).bind fun p=>
       if ((p.2.take ([]:List Nat).length).map B.len=([]:Bor).map B.len∧p.2.length=(([]:List Nat)++(([]:List Nat).map (nb+·)).take (p.2.length-([]:List Nat).length)).length∧vs.all (fun a=>(yG a).all ([]:List Nat).contains)∧zGE p.1∧(zj1 p.1).all (fun k=>decide (k<(([]:List Nat)++(([]:List Nat).map (nb+·)).take (p.2.length-([]:List Nat).length)).length))∧p.2.all (B.lend (Wy (([]:List Nat)++(([]:List Nat).map (nb+·)).take (p.2.length-([]:List Nat).length)).length))∧ziQ (p.2.take ([]:List Nat).length) ([]:Bor)∧(p.2.drop ([]:List Nat).length).all B.isRow∧zkV τ.b nb []) then
        St.putR nb τ (some d) false (zoI (fun k=>(([]:List Nat)++(([]:List Nat).map (nb+·)).take (p.2.length-([]:List Nat).length)).getD k 0) p.1)
       else none:=by
      intro τ hτ
      have hfz:xo τ xs τ.b=τ.b:=zq4 xs _ (fun s hs id hid=>by rw [hτ s hs] at hid; cases hid)
      have hids:zar τ.b vs=[]:=by unfold zar; rw [hrefs,zDl]
      unfold zd7
      simp only [hfz,hids,ze5,Wb,QT]
      congr 1
      funext p
      have e:zas (fun k=>(([]:List Nat)++(Xv (nb+·) []).take (p.2.length-([]:List Nat).length)).getD k 0) (([]:List Nat)++(Xv (nb+·) []).take (p.2.length-([]:List Nat).length)) p.2 τ.b=τ.b:=by simp [zas]
      rw [e]
     rw [gen σ hown,Wa] at h2
     obtain ⟨⟨r,bor'⟩,hcb,h3⟩:=h2
     simp only at h3
     split at h3
     ·rename_i hcond
      generalize hr':zoI _ r=r' at h3
      have hnb:∀ p cs,r'≠.bx p cs:=fun p cs hbx=>by
       subst hbx
       simp only [St.putR,St.newB] at h3
       split at h3
       ·cases h3
        simp only [St.put,St.setB] at hd
        split at hd
        ·rename_i v hv
         rw [Xa] at hv
         simp only [if_true] at hv
         split at hv
         ·cases hv; simp [zuf] at hd
         ·cases hv
        ·cases hd
       ·cases h3
      have putc:∃ v,∀ τ:St,τ.putR nb (some d) false r'=some (τ.put (some d) v):=by
       cases r' with
       | bx p cs=>exact absurd rfl (hnb p cs)
       | fr sz es=>exact ⟨.gs sz es,fun τ=>rfl⟩
       | gs sz es=>exact ⟨.gs sz es,fun τ=>rfl⟩
       | _=>exact ⟨_,fun τ=>rfl⟩
      obtain ⟨v,hv⟩:=putc
      rw [hv σ] at h3
      refine ⟨v,(Option.some.inj h3).symm,fun σ' hr=>?_⟩
      have hrk:∀ t∈xt o.k,σ'.t[t]?=σ.t[t]?:=fun t ht=>hr t (zdR ht)
      rw [hk] at hrk
      have hc:∀ s∈xs,s.1.get σ'=s.1.get σ:=fun s hs=>zh (fun t ht=>hrk t (Q0.2 ⟨s,hs,ht⟩))
      have hargs':∀ s∈xs,zby σ' s=zby σ s:=fun s hs=>by
       have h2:=(hargs s hs).2
       have h3:=(hargs s hs).1
       have hl:∀ v,zn7 s.2 v=none:=fun v=>by unfold zn7; rw [if_neg (by omega)]
       simp only [zby,zIL h3,zw5,hl,hc s hs]
       cases hx:s.1.get σ <;> rw [hx] at h2 <;> simp [zwS] at h2 <;> rfl
      unfold xk
      rw [zaX (fun j w hg=>hr j (zbh hg)),hg]
      simp only [hk,hds,hpin,yd]
      rw [zeB xs hargs',h1]
      simp only [Wb,QT]
      rw [gen σ' (fun s hs=>by rw [hc s hs]; exact hown s hs),hcb]
      simp only [QT]
      rw [if_pos (by exact hcond),hr',hv σ']
     ·cases h3
   | _=>rw [hk] at hs; cases hs
theorem zxt{o:COp}(hl:zag o.k=true)(hr:∀ t∈zL o,σ'.t[t]?=σ.t[t]?)(hb:∀ agg n a take id off,o.k=.load agg n a take→a.get σ=.ptr id off→σ'.b[id]?=σ.b[id]?)(h:xk cb nb σ o=some σ1):∃ v,σ1=σ.put o.dst v∧xk cb nb σ' o=some (σ'.put o.dst v):=by
 unfold xk at h ⊢
 rw [zaX (fun j w hg=>hr j (zbh hg))]
 split at h
 ·cases hk:o.k with
  | load agg n a take=>
   rw [hk] at h hl
   exact zEg hl (zh (fun t ht=>hr t (zdR (by rw [hk]; exact ht)))) (fun id off=>hb _ _ _ _ id off hk) h
  | _=>rw [hk] at hl; cases hl
 ·cases h; exact ⟨_,rfl,rfl⟩
 ·cases h
theorem zGh{A B:COp}{r:Nat}{w:List Nat}(hra:znf σ A r=true)(hm:zj8 (some r) w=true)(hB:xk cb nb σ' B=some σ1)(hw:zlO nb σ' B w=true)(ht:σ'.t[r]?=σ.t[r]?) :
  ∀ agg n a take id off,A.k=.load agg n a take→a.get σ=.ptr id off→σ1.b[id]?=σ'.b[id]?:=by
 intro agg n a take id off hk hg
 unfold znf at hra
 rw [Wh] at hra
 have hra:=hra.2
 rw [hk] at hra
 cases a with
 | const v=>cases hra
 | tmp p=>
  simp only at hra
  split at hra
  ·rename_i id1 o1 id2 o2 h1 h2
   have e:=Wd hra
   have:id=id1:=by
    simp only [Src.get,Ws,h1,Xl] at hg
    cases hg; rfl
   subst this; subst e
   have hm:r∈w:=Xe.1 hm
   have key:∀ (w:List Nat),r∈w→zlO nb σ' B w=true→zsM nb σ' B id=true:=by
    intro w
    induction w with
    | nil=>intro h; cases h
    | cons x w ih=>
     intro h hh
     simp only [zlO,Wh] at hh
     rcases List.mem_cons.1 h with rfl | h
     ·have:=hh.1
      rw [ht,h2] at this
      exact this
     ·exact ih h hh.2
   exact zQB hB (key w hm hw)
  ·rename_i h1
   simp only [Src.get,Ws,h1,Xl] at hg
   cases hg
  ·cases hra
theorem zPS{σ σ1 σ2:St}{d:Nat}{dst:Option Nat}{v:V}(e:σ2=σ1.put dst v)(hd:dst=some d)(hl:σ1.t.length=σ.t.length):(σ.put dst v).t[d]?=σ2.t[d]?:=by
 subst e; rw [xT,xT,hl]
 by_cases h:d<σ.t.length
 ·rw [if_pos ⟨hd,h⟩,if_pos ⟨hd,h⟩]
 ·rw [if_neg (fun q=>h q.2),if_neg (fun q=>h q.2),Q3 (by omega),Q3 (by omega)]
theorem zWU{A B:COp}{qa qb:Fl}{σ σ1 σ2:St}(ha:xk cb nb σ A=some σ1)(hb:xk cb nb σ1 B=some σ2)(fa:zb7 nb σ A qa σ1=true)(fb:zb7 nb σ1 B qb σ2=true)(pk:zpI (A,qa) (B,qb)=true)(hL:(qa.l&&qb.l)=false∨yy A.k=true∨yy B.k=true) :
  ∃ σ1',xk cb nb σ B=some σ1'∧xk cb nb σ1' A=some σ2∧zb7 nb σ B qb σ1'=true∧zb7 nb σ1' A qa σ2=true:=by
 simp only [zpI,Wh] at pk
 obtain ⟨⟨hs,hroots⟩,hq0⟩:=pk
 have hq:yy A.k=true∨yy B.k=true∨((!qa.l)=true∧(!qb.l)=true∧(((((((yy A.k=true∨yy B.k=true)∨(((qa.q=true∧qb.q=true)∧(!qa.s)=true)∧(!qb.s)=true))∨((zj8 qa.root qb.w=true∧(!qa.s)=true)∧(!qb.s)=true))∨((zj8 qb.root qa.w=true∧(!qa.s)=true)∧(!qb.s)=true))∨qa.s=true)∨qb.s=true))):=by
  simp only [Xb] at hq0
  rcases hq0 with ((h | h) | h) | h
  ·simp only [Wh,Xb] at h
   exact .inr (.inr ⟨h.1.1,h.1.2,h.2⟩)
  ·exact .inl h
  ·exact .inr (.inl h)
  ·simp only [Wh] at h
   rcases hL with h' | h' | h'
   ·rw [h.1.1,h.1.2] at h'; cases h'
   ·exact .inl h'
   ·exact .inr (.inl h')
 have hroots:=zbT hroots
 have rr:∀ t,t∈qa.roots∨t∈qb.roots→t ∉ Wo A∧t ∉ Wo B:=by
  intro t ht
  constructor
  ·intro hh
   exact hroots t (QD.2 (.inl hh)) (QD.2 ht)
  ·intro hh
   exact hroots t (QD.2 (.inr hh)) (QD.2 ht)
 have hs0:=hs
 simp only [zfA,Wh] at hs
 have s1:=zbT hs.1
 have s2:=zbT hs.2
 have wa:∀ k∈Wo A,k ∉ zL B∧k ∉ Wo B:=fun k hk=>by
  have:=s1 k hk
  simp only [QD,not_or] at this
  exact ⟨this.1.1,fun hh=>by simp only [Wo,Wk,QD] at hh; exact hh.elim this.1.2 this.2⟩
 have wb:∀ k∈Wo B,k ∉ zL A∧k ∉ Wo A:=fun k hk=>by
  have:=s2 k hk
  simp only [QD,not_or] at this
  exact ⟨this.1.1,fun hh=>by simp only [Wo,Wk,QD] at hh; exact hh.elim this.1.2 this.2⟩
 obtain ⟨_,_,oa⟩:=yR A rfl rfl (fun _ _=>rfl) ha
 obtain ⟨_,_,ob⟩:=yR B rfl rfl (fun _ _=>rfl) hb
 have rB:∀ t∈zL B,σ.t[t]?=σ1.t[t]?:=fun t ht=>(oa.fr t (fun hh=>(wa t hh).1 ht)).symm
 have main:∃ σ1',xk cb nb σ B=some σ1'∧xk cb nb σ1' A=some σ2∧Side A B (qa.s&&!qa.l) (qb.s&&!qb.l) σ σ1 σ2 σ1':=by
  have fa':=fa
  have fb':=fb
  have swp:∀ hq,∃ σ1',xk cb nb σ B=some σ1'∧xk cb nb σ1' A=some σ2∧Side A B (qa.s&&!qa.l) (qb.s&&!qb.l) σ σ1 σ2 σ1':=fun hq=>by
   obtain ⟨σ1',q1,q2,q3⟩:=zWc ha hb hs0 hq
   exact ⟨σ1',q1,q2,q3 _ _⟩
  have nos:∀ {s:Bool},(!s)=true→s=false:=fun {s} h=>by cases s <;> first | rfl | cases h
  rcases hq with h | h | ⟨hla,hlb,hq⟩
  ·exact swp (.inl h)
  ·exact swp (.inr (.inl h))
  have hla:=nos hla
  have hlb:=nos hlb
  simp only [zb7,hla,cond_false] at fa'
  simp only [zb7,hlb,cond_false] at fb'
  rcases hq with (((((h | h) | h) | h) | h) | h) | h
  ·exact swp (.inl h)
  ·exact swp (.inr (.inl h))
  ·obtain ⟨⟨⟨hqa,hqb⟩,hsa⟩,hsb⟩:=h
   have h:qa.q=true∧qb.q=true:=⟨hqa,hqb⟩
   simp only [nos hsa,nos hsb,cond_false,Wh,Xb,Xc] at fa' fb'
   obtain ⟨⟨fa1,fa2⟩,fa3⟩:=fa'
   obtain ⟨⟨fb1,fb2⟩,fb3⟩:=fb'
   refine swp (.inr (.inr ⟨?_,?_⟩))
   ·rcases fa1 with e | e
    ·rw [h.1] at e; cases e
    ·exact e
   ·rcases fb1 with e | e
    ·rw [h.2] at e; cases e
    ·exact e
  ·
   obtain ⟨⟨h,hsa⟩,hsb⟩:=h
   simp only [nos hsa,nos hsb,cond_false,Wh,Xb,Xc] at fa' fb'
   obtain ⟨⟨fa1,fa2⟩,fa3⟩:=fa'
   obtain ⟨⟨fb1,fb2⟩,fb3⟩:=fb'
   cases hr:qa.root with
   | none=>rw [hr] at h; cases h
   | some r=>
    rw [hr] at h fa2
    simp only [zj8] at h
    simp only at fa2
    have hrm:r∈qb.w:=Xe.1 h
    have hrA:r ∉ Wo A:=(rr r (.inl (by simp [Fl.roots,hr]))).1
    have hlA:zag A.k=true:=by
     have:=fa2; unfold znf at this; rw [Wh] at this; exact this.1
    obtain ⟨v,e1,_⟩:=zxt (σ':=σ) hlA (fun _ _=>rfl) (fun _ _ _ _ _ _ _ _=>rfl) ha
    have hb1:σ1.b=σ.b:=by rw [e1,yO]
    obtain ⟨σ1',f1,f2⟩:=yR B (σ':=σ) oa.len.symm hb1.symm rB hb
    have hw:zlO nb σ B qb.w=true:=by
     rw [← ztj (σ:=σ) (σ':=σ1) (.inl hb1) (fun t ht=>(rB t ht).symm) qb.w (fun t ht=>oa.fr t (rr t (.inr (by simp [Fl.roots,ht]))).1)]
     exact fb3
    have hblk:=zGh fa2 h f1 hw rfl
    obtain ⟨v',e3,e4⟩:=zxt (σ':=σ1') hlA (fun t ht=>f2.off t (fun hh=>(wb t hh).1 ht)) hblk ha
    have e:σ1'.put A.dst v'=σ2:=by
     have eb:(σ1'.put A.dst v').b=σ2.b:=by rw [yO,f2.b]
     have et:(σ1'.put A.dst v').t=σ2.t:=by
      apply Xd
      intro k
      rw [xT,f2.len']
      by_cases hA:A.dst=some k∧k<σ.t.length
      ·rw [if_pos hA]
       have hkA:k∈Wo A:=zA k hA.1
       rw [ob.fr k (wa k hkA).2,e3,xT,if_pos hA]
      ·rw [if_neg hA]
       by_cases hB:k∈Wo B
       ·exact f2.on k hB
       ·rw [f2.off k hB,ob.fr k hB,e3,xT,if_neg hA]
     cases hz:σ1'.put A.dst v'; rw [hz] at eb et; cases σ2; simp only at eb et; rw [eb,et]
    refine ⟨σ1',f1,by rw [e4,e],oa.fr,f2.off,fun d hd=>f2.on d (zA d hd),fun d hd=>ob.fr d (wa d (zA d hd)).2,.inl hb1.symm,.inr (.inr (.inl hlA))⟩
  ·
   obtain ⟨⟨h,hsa⟩,hsb⟩:=h
   simp only [nos hsa,nos hsb,cond_false,Wh,Xb,Xc] at fa' fb'
   obtain ⟨⟨fa1,fa2⟩,fa3⟩:=fa'
   obtain ⟨⟨fb1,fb2⟩,fb3⟩:=fb'
   cases hr:qb.root with
   | none=>rw [hr] at h; cases h
   | some r=>
    rw [hr] at h fb2
    simp only at fb2
    have hlB:zag B.k=true:=by
     have:=fb2; unfold znf at this; rw [Wh] at this; exact this.1
    have hrA:r ∉ Wo A:=(rr r (.inr (by simp [Fl.roots,hr]))).1
    have hblk:=zGh fb2 h ha fa3 (oa.fr r hrA).symm
    obtain ⟨v,e1,e2⟩:=zxt (σ':=σ) hlB (fun t ht=>rB t ht) (fun agg n a take id off hk hg=>(hblk agg n a take id off hk hg).symm) hb
    have hoff:∀ k,k ∉ Wo B→(σ.put B.dst v).t[k]?=σ.t[k]?:=fun k hk=>by rw [xT,if_neg (fun h=>hk (zA k h.1))]
    have hl:(σ.put B.dst v).t.length=σ.t.length:=zjh _ _ _
    obtain ⟨σ2',f1,f2⟩:=yR A (σ':=σ.put B.dst v) hl (yO _ _ _) (fun t ht=>hoff t (fun hh=>(wb t hh).1 ht)) ha
    have e:σ2'=σ2:=by
     have eb:σ2'.b=σ2.b:=by rw [f2.b,e1,yO]
     have et:σ2'.t=σ2.t:=by
      apply Xd
      intro k
      rw [e1,xT,oa.len]
      by_cases hB:B.dst=some k∧k<σ.t.length
      ·rw [if_pos hB]
       have hkB:k∈Wo B:=zA k hB.1
       rw [f2.off k (wb k hkB).2,xT,if_pos hB]
      ·rw [if_neg hB]
       by_cases hA:k∈Wo A
       ·exact f2.on k hA
       ·rw [f2.off k hA,oa.fr k hA,xT,if_neg hB]
     cases σ2'; cases σ2; simp only at eb et; rw [eb,et]
    subst e
    refine ⟨_,e2,f1,oa.fr,hoff,fun d hd=>?_,fun d hd=>f2.on d (zA d hd),.inr (.inr (.inl hlB)),.inl (yO _ _ _)⟩
    rw [zPS e1 hd oa.len]
  ·
   have hsa:qa.s=true:=h
   simp only [hsa,cond_true] at fa'
   obtain ⟨v,e3,e4⟩:=zGp ha fa'
   have hb1:σ1.b=σ.b:=by rw [e3,yO]
   obtain ⟨σ1',f1,f2⟩:=yR B (σ':=σ) oa.len.symm hb1.symm rB hb
   have e4:=e4 σ1' (fun t ht=>f2.off t (fun hh=>(wb t hh).1 ht))
   have e:σ1'.put A.dst v=σ2:=by
    have eb:(σ1'.put A.dst v).b=σ2.b:=by rw [yO,f2.b]
    have et:(σ1'.put A.dst v).t=σ2.t:=by
     apply Xd
     intro k
     rw [xT,f2.len']
     by_cases hA:A.dst=some k∧k<σ.t.length
     ·rw [if_pos hA]
      have hkA:k∈Wo A:=zA k hA.1
      rw [ob.fr k (wa k hkA).2,e3,xT,if_pos hA]
     ·rw [if_neg hA]
      by_cases hB:k∈Wo B
      ·exact f2.on k hB
      ·rw [f2.off k hB,ob.fr k hB,e3,xT,if_neg hA]
    cases hz:σ1'.put A.dst v; rw [hz] at eb et; cases σ2; simp only at eb et; rw [eb,et]
   exact ⟨σ1',f1,by rw [e4,e],oa.fr,f2.off,fun d hd=>f2.on d (zA d hd),fun d hd=>ob.fr d (wa d (zA d hd)).2,.inl hb1.symm,.inr (.inr (.inr (by rw [hsa,hla]; rfl)))⟩
  ·
   have hsb:qb.s=true:=h
   simp only [hsb,cond_true] at fb'
   obtain ⟨v,e1,e2⟩:=zGp hb fb'
   have e2:=e2 σ rB
   have hoff:∀ k,k ∉ Wo B→(σ.put B.dst v).t[k]?=σ.t[k]?:=fun k hk=>by rw [xT,if_neg (fun h=>hk (zA k h.1))]
   have hl:(σ.put B.dst v).t.length=σ.t.length:=zjh _ _ _
   obtain ⟨σ2',f1,f2⟩:=yR A (σ':=σ.put B.dst v) hl (yO _ _ _) (fun t ht=>hoff t (fun hh=>(wb t hh).1 ht)) ha
   have e:σ2'=σ2:=by
    have eb:σ2'.b=σ2.b:=by rw [f2.b,e1,yO]
    have et:σ2'.t=σ2.t:=by
     apply Xd
     intro k
     rw [e1,xT,oa.len]
     by_cases hB:B.dst=some k∧k<σ.t.length
     ·rw [if_pos hB]
      have hkB:k∈Wo B:=zA k hB.1
      rw [f2.off k (wb k hkB).2,xT,if_pos hB]
     ·rw [if_neg hB]
      by_cases hA:k∈Wo A
      ·exact f2.on k hA
      ·rw [f2.off k hA,oa.fr k hA,xT,if_neg hB]
    cases σ2'; cases σ2; simp only at eb et; rw [eb,et]
   subst e
   refine ⟨_,e2,f1,oa.fr,hoff,fun d hd=>?_,fun d hd=>f2.on d (zA d hd),.inr (.inr (.inr (by rw [hsb,hlb]; rfl))),.inl (yO _ _ _)⟩
   rw [zPS e1 hd oa.len]
 obtain ⟨σ1',k1,k2,S⟩:=main
 refine ⟨σ1',k1,k2,?_,?_⟩
 ·rw [← fb]
  exact zkW S.bB rB (fun t ht=>(oa.fr t (rr t (.inr ht)).1).symm) S.dB
 ·rw [← fa]
  exact zkW S.bA (fun t ht=>S.fB t (fun hh=>(wb t hh).1 ht)) (fun t ht=>S.fB t (rr t (.inl ht)).2) S.dA
end
section
variable {cb:CB} {nb:Nat} {σ σ' σ1:St} {b':List B} {K:List Nat}
structure FB (K:List Nat) (σ1:St) (b':List B) (σ1':St):Prop where
 t:σ1'.t=σ1.t
 on:∀ j∈K,σ1'.b[j]?=σ1.b[j]?
 off:∀ j,j ∉ K→σ1'.b[j]?=b'[j]?
theorem zLx{b b':List B}{i j:Nat}(x:B)(h:b'[j]?=b[j]?):(b'.set i x)[j]?=(b.set i x)[j]?:=by
 by_cases e:i=j
 ·subst e
  by_cases h1:i<b.length
  ·have h2:i<b'.length:=by
    rcases Xn i b'.length with h3 | h3
    ·exact h3
    ·rw [Q3 h3,Wc h1] at h; cases h
   rw [WF h1,WF h2]
  ·have h2:b'.length≤i:=by
    rcases Xn i b'.length with h3 | h3
    ·rw [Q3 (by omega:b.length≤i),Wc h3] at h; cases h
    ·exact h3
   rw [Q3 (by simp; omega),Q3 (by simp; omega)]
 ·rw [WE e,WE e]; exact h
theorem ziz(s:Src)(σ:St)(b':List B):s.get { σ with b:=b' }=s.get σ:=by cases s <;> rfl
theorem zW3(σ τ:St)(h:τ.t=σ.t)(d:Option Nat)(v:V):(τ.put d v).t=(σ.put d v).t:=by cases d <;> simp [St.put,h]
theorem FB.putS{σ τ:St}(h:FB K σ b' τ)(d:Option Nat)(v:V):FB K (σ.put d v) b' (τ.put d v):=
 ⟨zW3 _ _ h.t d v,fun j hj=>by rw [yO,yO]; exact h.on j hj,fun j hj=>by rw [yO]; exact h.off j hj⟩
theorem FB.base(hb:∀ j∈K,b'[j]?=σ.b[j]?):FB K σ b' { σ with b:=b' }:=⟨rfl,hb,fun _ _=>rfl⟩
theorem FB.set{σ τ:St}(h:FB K σ b' τ){id:Nat}(hid:id∈K)(x:B):FB K (σ.setB id x) b' (τ.setB id x):=by
 refine ⟨h.t,fun j hj=>zLx x (h.on j hj),fun j hj=>?_⟩
 ·simp only [St.setB]
  rw [WE (fun e=>hj (by rw [← e]; exact hid))]
  exact h.off j hj
theorem FB.dem{σ τ:St}(h:FB K σ b' τ)(s:Src):FB K (σ.demote s) b' (τ.demote s):=by
 cases s with
 | const v=>exact h
 | tmp t=>exact ⟨by simp [St.demote,h.t],h.on,h.off⟩
theorem znI{τ:St}(F:FB K σ b' τ){d:Option Nat}{x:B}{f:Nat→V}(hd:∀ k,d=some k→nb+k∈K)(h:σ.newB nb d x f=some σ1):∃ σ1',τ.newB nb d x f=some σ1'∧FB K σ1 b' σ1':=by
 cases d with
 | none=>cases h
 | some d=>
  simp only [St.newB] at h ⊢
  rw [F.on _ (hd d rfl)]
  split at h
  ·rename_i hg
   cases h
   exact ⟨_,rfl,(F.set (hd d rfl) x).putS _ _⟩
  ·cases h
theorem zog{τ:St}(F:FB K σ b' τ){d:Option Nat}{pin:Bool}{sz:Nat}{es:Ls}(hd:∀ k,d=some k→nb+k∈K)(h:σ.putG nb d pin sz es=some σ1):∃ σ1',τ.putG nb d pin sz es=some σ1'∧FB K σ1 b' σ1':=by
 unfold St.putG at h ⊢
 split at h
 ·rename_i hp; rw [if_pos hp]; exact znI F hd h
 ·rename_i hp; rw [if_neg hp]; cases h; exact ⟨_,rfl,F.putS _ _⟩
theorem zFG{τ:St}(F:FB K σ b' τ){d:Option Nat}{pin:Bool}{v:V}(hd:∀ k,d=some k→nb+k∈K)(h:σ.putR nb d pin v=some σ1):∃ σ1',τ.putR nb d pin v=some σ1'∧FB K σ1 b' σ1':=by
 cases v with
 | gs sz es=>
  simp only [St.putR] at h ⊢
  split at h
  ·cases h
  ·rename_i hp; rw [if_neg hp]; cases h; exact ⟨_,rfl,F.putS _ _⟩
 | fr sz es=>simp only [St.putR] at h ⊢; exact zog F hd h
 | bx p cs=>simp only [St.putR] at h ⊢; exact znI F hd h
 | _=>simp only [St.putR] at h ⊢; cases h; exact ⟨_,rfl,F.putS _ _⟩
theorem zK5{b b':List B}{id:Nat}(h:b'[id]?=b[id]?):zGW b' id=zGW b id:=by unfold zGW; rw [h]
theorem zvZ(b:List B):∀ (n:Nat) (todo acc:List Nat) (x:Nat),x∈acc→x∈zeZ b n todo acc
 | 0,todo,acc,x,h=>by cases todo <;> exact h
 | n+1,[],acc,x,h=>h
 | n+1,id::todo,acc,x,h=>by
  simp only [zeZ]
  split
  ·exact zvZ b n todo acc x h
  ·exact zvZ b n _ _ x (Xf _ h)
theorem zrg{b b':List B}(hb:∀ j∈K,b'[j]?=b[j]?):∀ (n:Nat) (todo acc:List Nat),(∀ x∈zeZ b n todo acc,x∈K)→zeZ b' n todo acc=zeZ b n todo acc
 | 0,todo,acc,h=>by cases todo <;> rfl
 | n+1,[],acc,h=>rfl
 | n+1,id::todo,acc,h=>by
  simp only [zeZ] at h ⊢
  split
  ·rename_i hc
   rw [if_pos hc] at h
   exact zrg hb n todo acc h
  ·rename_i hc
   rw [if_neg hc] at h
   have hid:id∈K:=h id (zvZ b n _ _ id (by simp))
   rw [zK5 (hb id hid)]
   exact zrg hb n _ _ h
theorem zQ3{b b':List B}{id j:Nat}(h:b'[id]?=b[id]?)(hj:b'[j]?=b[j]?):(yX b' id)[j]?=(yX b id)[j]?:=by
 unfold yX
 rw [h]
 split
 ·exact zLx _ hj
 ·exact hj
theorem zla{σ τ:St}(ht:τ.t=σ.t):∀ (ss:List (Src × Nat)) (b b':List B),(∀ j∈K,b'[j]?=b[j]?)→(∀ s∈ss,∀ id,zam (s.1.get σ)=some id→id∈K) →
  (∀ j∈K,(xo τ ss b')[j]?=(xo σ ss b)[j]?)∧(∀ j,j ∉ K→(xo τ ss b')[j]?=b'[j]?)
 | [],b,b',hb,hs=>⟨hb,fun _ _=>rfl⟩
 | s::ss,b,b',hb,hs=>by
  have hg:s.1.get τ=s.1.get σ:=by cases hh:s.1 <;> simp [Src.get,ht]
  unfold xo
  rw [hg]
  by_cases h2:2≤s.2
  ·rw [if_pos h2,if_pos h2]
   exact zla ht ss b b' hb (fun s' h'=>hs s' (by simp [h']))
  ·rw [if_neg h2,if_neg h2]
   cases ho:zam (s.1.get σ) with
   | none=>exact zla ht ss b b' hb (fun s' h'=>hs s' (by simp [h']))
   | some id=>
    have hid:=hs s (by simp) id ho
    simp only
    obtain ⟨q2,q3⟩:=zla ht ss (yX b id) (yX b' id) (fun j hj=>zQ3 (hb id hid) (hb j hj)) (fun s' h'=>hs s' (by simp [h']))
    refine ⟨q2,fun j hj=>?_⟩
    rw [q3 j hj,zzP (fun e=>hj (by rw [e]; exact hid))]
theorem zyJ{b b':List B}(ids:List Nat):∀ (l:List Nat),(∀ x∈l,b'[x]?=b[x]?)→ze5 b' ids l=ze5 b ids l
 | [],h=>rfl
 | id::l,h=>by
  simp only [ze5,h id (by simp),zyJ ids l (fun x hx=>h x (by simp [hx]))]
theorem zy0{b b':List B}:∀ (xs:List Nat),(∀ x∈xs,b'[nb+x]?=b[nb+x]?)→zkV b' nb xs=zkV b nb xs
 | [],h=>rfl
 | x::xs,h=>by
  simp only [zkV,h x (by simp),zy0 xs (fun y hy=>h y (by simp [hy]))]
theorem zwc(g:Nat→Nat):∀ (ids:List Nat) (bor:Bor) (b b':List B),(∀ x∈ids,x∈K)→(∀ j∈K,b'[j]?=b[j]?) →
  (∀ j∈K,(zas g ids bor b')[j]?=(zas g ids bor b)[j]?)∧(∀ j,j ∉ K→(zas g ids bor b')[j]?=b'[j]?)
 | [],bor,b,b',hi,hb=>by cases bor <;> exact ⟨hb,fun _ _=>rfl⟩
 | id::ids,[],b,b',hi,hb=>⟨hb,fun _ _=>rfl⟩
 | id::ids,x::bor,b,b',hi,hb=>by
  simp only [zas]
  obtain ⟨q2,q3⟩:=zwc g ids bor (b.set id (x.ren g)) (b'.set id (x.ren g)) (fun y hy=>hi y (by simp [hy])) (fun j hj=>zLx _ (hb j hj))
  refine ⟨q2,fun j hj=>?_⟩
  rw [q3 j hj,WE (fun e=>hj (by rw [← e]; exact hi id (by simp)))]
theorem zMw{σ τ:St}(ht:τ.t=σ.t){s:Src × Nat}(hb:∀ id,zam (s.1.get σ)=some id→τ.b[id]?=σ.b[id]?):zby τ s=zby σ s:=by
 have hg:s.1.get τ=s.1.get σ:=by cases hh:s.1 <;> simp [Src.get,ht]
 unfold zby
 cases zsW s with
 | some v=>rfl
 | none=>
 simp only
 unfold zw5
 rw [hg]
 cases hl:zn7 s.2 (s.1.get σ) with
 | some v=>rfl
 | none=>
  simp only
  have:zbc τ.b (s.1.get σ)=zbc σ.b (s.1.get σ):=by
   cases hx:s.1.get σ with
   | own id off len sz=>
    rw [hx] at hb
    simp only [zbc,hb id rfl]
   | _=>rfl
  rw [this]
theorem zAz{τ:St}(F:FB K σ b' τ){d:Option Nat}{pin:Bool}{f:Nat}{args:List V}{ss:List (Src × Nat)}{xs:List Nat}(hK:∀ x∈za5 nb σ d args ss xs,x∈K)
  (h:zd7 cb nb σ d pin f args ss xs=some σ1):∃ σ1',zd7 cb nb τ d pin f args ss xs=some σ1'∧FB K σ1 b' σ1'∧za5 nb τ d args ss xs=za5 nb σ d args ss xs:=by
 have h1:∀ x∈zar (xo σ ss σ.b) args,x∈K:=fun x hx=>hK x (by simp [za5,hx])
 have h2:∀ s∈ss,∀ id,zam (s.1.get σ)=some id→id∈K:=fun s hs id hid=>hK id (by simp only [za5,QD,QP]; exact .inl (.inl (.inr ⟨s,hs,hid⟩)))
 have h3:∀ x∈xs,nb+x∈K:=fun x hx=>hK _ (by simp only [za5,QD,List.mem_map]; exact .inl (.inr ⟨x,hx,rfl⟩))
 have h4:∀ k,d=some k→nb+k∈K:=fun k hk=>hK _ (by subst hk; simp [za5])
 obtain ⟨z2,z3⟩:=zla (K:=K) F.t ss σ.b τ.b F.on h2
 have hids:zar (xo τ ss τ.b) args=zar (xo σ ss σ.b) args:=by
  unfold zar
  exact zrg z2 40 _ _ (fun x hx=>h1 x hx)
 have hget:∀ s:Src × Nat,zam (s.1.get τ)=zam (s.1.get σ):=fun s=>by
  have hg:s.1.get τ=s.1.get σ:=by cases hh:s.1 <;> simp [Src.get,F.t]
  rw [hg]
 have hc:za5 nb τ d args ss xs=za5 nb σ d args ss xs:=by
  unfold za5
  rw [hids]
  congr 3
  clear hids z2 z3 hK h1 h2 h
  induction ss with
  | nil=>rfl
  | cons s ss ih=>simp only [Xi,hget s,ih]
 unfold zd7 at h ⊢
 simp only [hids]
 simp only [Wb,Wa] at h
 obtain ⟨bor,hbor,⟨r,bor'⟩,hcb,h⟩:=h
 simp only at h hcb
 rw [zyJ _ _ (fun x hx=>z2 x (h1 x hx)),hbor]
 simp only [Wb,QT,hcb]
 rw [zy0 (nb:=nb) (b:=xo σ ss σ.b) (b':=xo τ ss τ.b) xs (fun x hx=>z2 _ (h3 x hx))]
 split at h
 ·rename_i hcond
  rw [if_pos hcond]
  have hids':∀ x∈zar (xo σ ss σ.b) args++(xs.map (nb+·)).take (bor'.length-(zar (xo σ ss σ.b) args).length),x∈K:=by
   intro x hx
   rcases QD.1 hx with hx | hx
   ·exact h1 x hx
   ·obtain ⟨y,hy,rfl⟩:=List.mem_map.1 (WV hx)
    exact h3 y hy
  generalize hG:(fun k=>(zar (xo σ ss σ.b) args++(xs.map (nb+·)).take (bor'.length-(zar (xo σ ss σ.b) args).length)).getD k 0)=G at h ⊢
  obtain ⟨y2,y3⟩:=zwc (K:=K) G _ bor' (xo σ ss σ.b) (xo τ ss τ.b) hids' z2
  have F':FB K { σ with b:=zas G (zar (xo σ ss σ.b) args++(xs.map (nb+·)).take (bor'.length-(zar (xo σ ss σ.b) args).length)) bor' (xo σ ss σ.b) } b' { τ with b:=zas G (zar (xo σ ss σ.b) args++(xs.map (nb+·)).take (bor'.length-(zar (xo σ ss σ.b) args).length)) bor' (xo τ ss τ.b) }:=
   ⟨F.t,y2,fun j hj=>by rw [y3 j hj,z3 j hj]; exact F.off j hj⟩
  obtain ⟨σ1',e1,e2⟩:=zFG F' h4 h
  exact ⟨σ1',e1,e2,hc⟩
 ·cases h
theorem zOV{b b':List B}{v:V}(hv:∀ id,zam v=some id→b'[id]?=b[id]?):zbc b' v=zbc b v:=by
 cases v with
 | own id off len sz=>simp only [zbc,hv id rfl]
 | _=>rfl
theorem zOi{d:Option Nat}{pin agg take:Bool}{n:Nat}{a:Src}(hK:∀ id off,a.get σ=.ptr id off→id∈K)(hb:∀ j∈K,b'[j]?=σ.b[j]?)(h:yd cb nb σ d pin (.load agg n a take)=some σ1) :
  ∃ σ1',yd cb nb { σ with b:=b' } d pin (.load agg n a take)=some σ1'∧FB K σ1 b' σ1':=by
 have F:=FB.base (K:=K) hb
 by_cases hq:(agg||!take)=true
 ·obtain ⟨v,rfl,h2⟩:=zEg (σ':={ σ with b:=b' }) hq (ziz _ _ _) (fun id off hh=>hb id (hK id off hh)) h
  exact ⟨_,h2,F.putS _ _⟩
 ·have e1:agg=false:=by cases agg <;> simp_all
  have e2:take=true:=by cases take <;> simp_all
  subst e1; subst e2
  simp only [yd,ziz] at h ⊢
  cases hx:a.get σ with
  | ptr id off=>
   rw [hx] at h
   have hid:=hK id off hx
   simp only [hb id hid] at h ⊢
   cases hbb:σ.b[id]? with
   | none=>rw [hbb] at h; cases h
   | some x=>
    rw [hbb] at h
    cases x with
    | live p cs=>
     simp only [WP,if_false,if_true] at h ⊢
     cases hv:cs[off]? with
     | none=>rw [hv] at h; cases h
     | some v=>
      rw [hv] at h
      simp only at h ⊢
      split at h
      ·cases h
      ·rename_i hp
       rw [if_neg hp]
       cases h
       exact ⟨_,rfl,(F.set hid _).putS _ _⟩
    | fz cs=>
     simp only [WP,if_false] at h ⊢
     cases hv:cs[off]? with
     | none=>rw [hv] at h; cases h
     | some v=>rw [hv] at h; simp only at h ⊢; cases h; exact ⟨_,rfl,F.putS _ _⟩
    | _=>cases h
  | fp m cs=>
   rw [hx] at h
   simp only [WP,if_false] at h ⊢
   cases hv:cs[0]? with
   | none=>rw [hv] at h; cases h
   | some v=>rw [hv] at h; simp only at h ⊢; cases h; exact ⟨_,rfl,F.putS _ _⟩
  | _=>rw [hx] at h; cases h
theorem zMu{d:Option Nat}{pin:Bool}{n:Nat}{a x:Src}(hK:∀ id off,a.get σ=.ptr id off→id∈K)(hb:∀ j∈K,b'[j]?=σ.b[j]?)(h:yd cb nb σ d pin (.store n a x)=some σ1) :
  ∃ σ1',yd cb nb { σ with b:=b' } d pin (.store n a x)=some σ1'∧FB K σ1 b' σ1':=by
 have F:=FB.base (K:=K) hb
 simp only [yd,ziz] at h ⊢
 split at h
 ·cases h
 ·rename_i hd
  rw [if_neg hd]
  cases hx:a.get σ with
  | ptr id off=>
   rw [hx] at h
   have hid:=hK id off hx
   simp only [hb id hid] at h ⊢
   cases hbb:σ.b[id]? with
   | none=>rw [hbb] at h; cases h
   | some y=>
    rw [hbb] at h
    cases y with
    | live p cs=>
     cases p with
     | true=>
      simp only [Wb,Wa] at h ⊢
      obtain ⟨v,h1,h2⟩:=h
      split at h2
      ·rename_i hc
       cases h2
       exact ⟨_,⟨v,h1,by rw [if_pos hc]⟩,F.set hid _⟩
      ·cases h2
     | false=>
      simp only at h ⊢
      cases hv:x.get σ with
      | agg us=>
       rw [hv] at h
       simp only at h ⊢
       split at h
       ·rename_i hc; rw [if_pos hc]; cases h; exact ⟨_,rfl,F.set hid _⟩
       ·cases h
      | st us=>
       rw [hv] at h
       simp only at h ⊢
       split at h
       ·rename_i hc; rw [if_pos hc]; cases h; exact ⟨_,rfl,F.set hid _⟩
       ·cases h
      | tup vs=>rw [hv] at h; cases h
      | bx p cs=>rw [hv] at h; cases h
      | junk=>rw [hv] at h; cases h
      | _=>
       rw [hv] at h
       simp only at h ⊢
       split at h
       ·rename_i hc; rw [if_pos hc]; cases h; exact ⟨_,rfl,(F.dem x).set hid _⟩
       ·cases h
    | _=>cases h
  | _=>rw [hx] at h; cases h
theorem zN4{b b':List B}{v:V}(hv:∀ id,zam v=some id→b'[id]?=b[id]?):zo4 b' v=zo4 b v:=by
 cases v with
 | own id off len sz=>simp only [zo4,hv id rfl]
 | _=>rfl
theorem zME{d:Option Nat}{pin:Bool}{n:Nat}{a:Src}(hK:∀ id off,a.get σ=.ptr id off→id∈K∧∀ j∈zwj σ.b id off n,j∈K)(hb:∀ j∈K,b'[j]?=σ.b[j]?)(h:yd cb nb σ d pin (.loadS n a)=some σ1) :
  ∃ σ1',yd cb nb { σ with b:=b' } d pin (.loadS n a)=some σ1'∧FB K σ1 b' σ1':=by
 have F:=FB.base (K:=K) hb
 simp only [yd,ziz] at h ⊢
 cases hx:a.get σ with
 | ptr id off=>
  rw [hx] at h
  obtain ⟨h1,h2⟩:=hK id off hx
  simp only [hb id h1] at h ⊢
  cases hbl:σ.b[id]? with
  | none=>rw [hbl] at h; cases h
  | some B=>
   rw [hbl] at h
   cases B with
   | live p cs=>
    cases p with
    | true=>cases h
    | false=>
     simp only at h ⊢
     split at h
     ·rename_i hc
      rw [if_pos hc]
      have e:((cs.drop off).take n).mapM (zo4 b')=((cs.drop off).take n).mapM (zo4 σ.b):=zeB _ (fun v hv=>zN4 fun j hj=>hb j (h2 j (by simp only [zwj,hbl]; exact QP.2 ⟨v,hv,hj⟩)))
      rw [e]
      cases hm:((cs.drop off).take n).mapM (zo4 σ.b) with
      | none=>rw [hm] at h; cases h
      | some vs=>rw [hm] at h; cases h; exact ⟨_,rfl,F.putS _ _⟩
     ·cases h
   | _=>cases h
 | _=>rw [hx] at h; cases h
theorem zG6{xs:List (Src × Nat)}(hb:∀ j∈K,b'[j]?=σ.b[j]?)(hK:∀ s∈xs,∀ id,zam (s.1.get σ)=some id→id∈K):xs.mapM (zby { σ with b:=b' })=xs.mapM (zby σ):=
 zeB xs (fun s hs=>zMw (σ:=σ) (τ:={ σ with b:=b' }) rfl (fun id hid=>hb id (hK s hs id hid)))
theorem zDA{d:Option Nat}{vs:List V}{xs:List (Src × Nat)}{ys:List Nat}:∀ s∈xs,∀ id,zam (s.1.get σ)=some id→id∈za5 nb σ d vs xs ys:=fun s hs id hid=>by
 simp only [za5,QD,QP]; exact .inl (.inl (.inr ⟨s,hs,hid⟩))
theorem zEx{d:Option Nat}(hk:(d.map fun d=>[nb+d])=some K):∀ k,d=some k→nb+k∈K:=fun k hd=>by
 subst hd; simp at hk; simp [← hk]
theorem zta{o:COp}(hk:kOf nb σ o=some K)(hb:∀ j∈K,b'[j]?=σ.b[j]?)(h:xk cb nb σ o=some σ1) :
  ∃ σ1',xk cb nb { σ with b:=b' } o=some σ1'∧FB K σ1 b' σ1'∧kOf nb { σ with b:=b' } o=some K:=by
 have F:=FB.base (K:=K) hb
 unfold xk at h ⊢
 unfold kOf at hk ⊢
 rw [zaX (σ':={ σ with b:=b' }) (σ:=σ) (fun _ _ _=>rfl)]
 cases hg:zad σ o.guard with
 | none=>rw [hg] at h; cases h
 | some g=>
  rw [hg] at h hk
  cases g with
  | false=>simp only at h hk ⊢; cases h; exact ⟨_,rfl,F.putS _ _,hk⟩
  | true=>
   simp only at h hk ⊢
   cases hkk:o.k with
   | load agg n a take=>
    rw [hkk] at h hk
    simp only [ziz] at hk ⊢
    obtain ⟨σ1',e1,e2⟩:=zOi (K:=K) (fun id off hx=>by rw [hx] at hk; simp at hk; simp [← hk]) hb h
    exact ⟨σ1',e1,e2,hk⟩
   | loadS n a=>
    rw [hkk] at h hk
    simp only [ziz] at hk ⊢
    obtain ⟨σ1',e1,e2⟩:=zME (K:=K) (fun id off hx=>by rw [hx] at hk; simp only [Wg] at hk; rw [← hk]; exact ⟨by simp,fun j hj=>by simp [hj]⟩) hb h
    refine ⟨σ1',e1,e2,?_⟩
    cases hx:a.get σ with
    | ptr id off=>
     rw [hx] at hk
     simp only [Wg] at hk ⊢
     have:zwj b' id off n=zwj σ.b id off n:=by unfold zwj; rw [hb id (by rw [← hk]; simp)]
     rw [this,hk]
    | _=>rw [hx] at hk; cases hk
   | store n a x=>
    rw [hkk] at h hk
    simp only [ziz] at hk ⊢
    obtain ⟨σ1',e1,e2⟩:=zMu (K:=K) (fun id off hx=>by rw [hx] at hk; simp at hk; simp [← hk]) hb h
    exact ⟨σ1',e1,e2,hk⟩
   | alloc p cs=>
    rw [hkk] at h hk
    simp only at hk ⊢
    simp only [yd] at h ⊢
    obtain ⟨σ1',e1,e2⟩:=znI F (zEx hk) h
    exact ⟨σ1',e1,e2,hk⟩
   | box p x=>
    rw [hkk] at h hk
    simp only at hk ⊢
    simp only [yd,ziz] at h ⊢
    have gen:∀ y,σ.newB nb o.dst y (fun id=>.ptr id 0)=some σ1→∃ σ1',({ σ with b:=b' }:St).newB nb o.dst y (fun id=>.ptr id 0)=some σ1'∧FB K σ1 b' σ1'∧(o.dst.map fun d=>[nb+d])=some K:=fun y hy=>by
     obtain ⟨σ1',e1,e2⟩:=znI F (zEx hk) hy
     exact ⟨σ1',e1,e2,hk⟩
    cases hx:x.get σ with
    | st cs=>
     rw [hx] at h
     simp only at h ⊢
     split at h
     ·cases h
     ·rename_i hp; rw [if_neg hp]; exact gen _ h
    | _=>
     rw [hx] at h
     simp only at h ⊢
     split at h
     ·exact gen _ h
     ·cases h
   | buildSlice sz n z ps=>
    rw [hkk] at h hk
    simp only at hk ⊢
    simp only [yd,zj0 (σ:=σ) (σ':={ σ with b:=b' }) ps _ (fun _ _=>rfl),Wb,Wa] at h ⊢
    obtain ⟨cs,h1,h2⟩:=h
    split at h2
    ·rename_i hc
     cases h2
     exact ⟨_,⟨cs,h1,by rw [if_pos hc]⟩,F.putS _ _,hk⟩
    ·rename_i hc
     obtain ⟨σ1',e1,e2⟩:=zog F (zEx hk) h2
     exact ⟨σ1',⟨cs,h1,by rw [if_neg hc]; exact e1⟩,e2,hk⟩
   | makeSlice sz bytes z l c=>
    rw [hkk] at h hk
    simp only at hk ⊢
    simp only [yd,ziz] at h ⊢
    split at h
    ·rename_i lv cv hl1 hc1
     split at h
     ·rename_i hc
      rw [if_pos hc]
      split at h
      ·rename_i hp
       rw [if_pos hp]
       obtain ⟨σ1',e1,e2⟩:=znI F (zEx hk) h
       exact ⟨σ1',e1,e2,hk⟩
      ·rename_i hp
       rw [if_neg hp]
       obtain ⟨σ1',e1,e2⟩:=zog F (zEx hk) h
       exact ⟨σ1',e1,e2,hk⟩
     ·cases h
    ·cases h
   | extract x i=>
    rw [hkk] at h hk
    simp only at hk ⊢
    simp only [yd,ziz] at h ⊢
    cases hx:x.get σ with
    | tup vs=>
     rw [hx] at h
     simp only at h ⊢
     split at h
     ·rename_i v t hvi
      split at h
      ·rename_i hc
       rw [if_pos hc]
       split at h
       ·rename_i hh
        rw [if_pos hh]
        have F':FB K { σ with t:=σ.t.set t (.tup (vs.set i .junk)) } b' { t:=σ.t.set t (.tup (vs.set i .junk)),b:=b' }:=⟨rfl,F.on,F.off⟩
        obtain ⟨σ1',e1,e2⟩:=zFG F' (zEx hk) h
        exact ⟨σ1',e1,e2,hk⟩
       ·rename_i hh
        rw [if_neg hh]
        split at h
        ·cases h
        ·rename_i hp
         rw [if_neg hp]
         cases h
         exact ⟨_,rfl,F.putS _ _,hk⟩
      ·cases h
     ·cases h
    | _=>rw [hx] at h; cases h
   | move x take=>
    rw [hkk] at h hk
    simp only at hk ⊢
    simp only [yd,ziz] at h ⊢
    split at h
    ·cases h
    ·rename_i hp
     rw [if_neg hp]
     split at h
     ·rename_i ht; rw [if_pos ht]; cases h; exact ⟨_,rfl,(F.dem x).putS _ _,hk⟩
     ·rename_i ht; rw [if_neg ht]; cases h; exact ⟨_,rfl,F.putS _ _,hk⟩
   | append sz bytes s x=>
    rw [hkk] at h hk
    simp only [ziz] at hk ⊢
    have hx:zam (x.get σ)=none:=by
     cases hx:x.get σ with
     | own id off len sz=>rw [hx] at hk; cases hs:s.get σ <;> rw [hs] at hk <;> cases hk
     | _=>rfl
    have hv:zbc b' (x.get σ)=zbc σ.b (x.get σ):=zOV (fun id hid=>by rw [hx] at hid; cases hid)
    have hd:∀ k,o.dst=some k→nb+k∈K:=by
     refine zEx ?_
     split at hk <;> first | exact hk | cases hk
    simp only [yd,ziz,hv] at h ⊢
    split at h
    ·rename_i sz1 es sz2 es2 hs hvx
     split at h
     ·rename_i hc
      rw [if_pos hc]
      split at h
      ·rename_i hp
       rw [if_pos hp]
       split at h
       ·obtain ⟨σ1',e1,e2⟩:=zog F hd h
        exact ⟨σ1',e1,e2,hk⟩
       ·cases h
      ·rename_i hp
       rw [if_neg hp]
       cases h
       exact ⟨_,rfl,(F.dem s).putS _ _,hk⟩
     ·cases h
    ·rename_i sz1 sz2 es2 hs hvx
     split at h
     ·rename_i hc
      rw [if_pos hc]
      obtain ⟨σ1',e1,e2⟩:=zog (F.dem s) hd h
      exact ⟨σ1',e1,e2,hk⟩
     ·cases h
    ·rename_i hs hvx
     rw [hs] at hk
     exfalso
     split at hk <;> simp_all
    ·rename_i hs hvx
     rw [hs] at hk
     exfalso
     split at hk <;> simp_all
    ·cases h
   | call f xs ys=>
    rw [hkk] at h hk
    simp only at hk ⊢
    simp only [yd,Wb,Wa] at h ⊢
    obtain ⟨vs,h1,h2⟩:=h
    rw [h1] at hk
    simp only [Wg] at hk
    have hm:xs.mapM (zby { σ with b:=b' })=some vs:=by
     rw [zG6 hb (fun s hs id hid=>by rw [← hk]; exact zDA s hs id hid),h1]
    obtain ⟨σ1',e1,e2,e3⟩:=zAz F (fun x hx=>by rw [← hk]; exact hx) h2
    refine ⟨σ1',⟨vs,hm,e1⟩,e2,?_⟩
    simp only [hm,e3,hk]
   | callv f xs ys=>
    rw [hkk] at h hk
    simp only [ziz] at hk ⊢
    simp only [yd,ziz] at h ⊢
    cases hf:f.get σ with
    | fn g caps=>
     rw [hf] at h hk
     simp only [Wb,Wa] at h hk ⊢
     obtain ⟨vs,h1,h2⟩:=h
     rw [h1] at hk
     simp only [Wg] at hk
     have hm:xs.mapM (zby { σ with b:=b' })=some vs:=by
      rw [zG6 hb (fun s hs id hid=>by rw [← hk]; exact zDA s hs id hid),h1]
     obtain ⟨σ1',e1,e2,e3⟩:=zAz F (fun x hx=>by rw [← hk]; exact hx) h2
     refine ⟨σ1',⟨vs,hm,e1⟩,e2,?_⟩
     simp only [hm,e3,hk]
    | _=>rw [hf] at h; cases h
   | _=>rw [hkk] at hk; cases hk
theorem zFu{o:COp}(hk:kOf nb σ o=some K)(h:xk cb nb σ o=some σ1):∀ j,j ∉ K→σ1.b[j]?=σ.b[j]?:=by
 obtain ⟨σ1',e1,e2,_⟩:=zta (b':=σ.b) hk (fun _ _=>rfl) h
 rw [h] at e1
 cases e1
 exact e2.off
theorem zPJ{r id:Nat}(h:zHu σ r id=true):(σ.t[r]?).bind zxi=some id:=by
 unfold zHu at h
 split at h
 ·rename_i v hr
  split at h
  ·rename_i id' hv
   rw [hr,QT,hv,Wd h]
  ·cases h
 ·cases h
theorem zMD{r id:Nat}(h:zqw σ K r=true)(hr:(σ.t[r]?).bind zxi=some id):id ∉ K:=by
 unfold zqw at h
 rw [Wa] at hr
 obtain ⟨v,hv,hs⟩:=hr
 rw [hv] at h
 simp only [hs] at h
 intro hh
 simp only [Xe.2 hh,Xh,WP] at h
theorem zp6{r:Option Nat}{w:List Nat}(h:zj8 r w=true):∃ x,r=some x∧x∈w:=by
 cases r with
 | none=>cases h
 | some x=>exact ⟨x,rfl,Xe.1 h⟩
structure Loc1 (nb:Nat) (σ:St) (o:COp) (fl:Fl) (K:List Nat):Prop where
 k:kOf nb σ o=some K
 root:∀ r,fl.root=some r→∀ id∈K,(σ.t[r]?).bind zxi=some id
 nw:fl.nw=true→∃ d,zx0 o=some d∧∀ id∈K,id=nb+d
 w:∀ r∈fl.w,∀ id,(σ.t[r]?).bind zxi=some id→id ∉ K
 wn:∀ n∈fl.wn,nb+n ∉ K
theorem zvO{o:COp}{fl:Fl}(h:zov nb σ o fl=true):∃ K,Loc1 nb σ o fl K:=by
 unfold zov at h
 split at h
 ·rename_i K hk
  simp only [Wh] at h
  obtain ⟨⟨⟨h1,h2⟩,h3⟩,h4⟩:=h
  refine ⟨K,hk,fun r hr id hid=>?_,fun hn=>?_,fun r hr id hs=>?_,fun n hn hh=>?_⟩
  ·rw [hr] at h1
   exact zPJ (QO.1 h1 id hid)
  ·rw [hn] at h2
   simp only [Xh,Bool.false_or] at h2
   split at h2
   ·rename_i d hd
    exact ⟨d,hd,fun id hid=>Wd (QO.1 h2 id hid)⟩
   ·cases h2
  ·exact zMD (QO.1 h3 r hr) hs
  ·have:=QO.1 h4 n hn
   rw [Xe.2 hh] at this
   cases this
 ·cases h
theorem zPQ{o:COp}(h:zOh o.k=true)(hk:kOf nb σ o=some K):K=[]:=by
 unfold kOf at hk
 split at hk
 ·cases hk
 ·cases hk; rfl
 ·cases hkk:o.k <;> rw [hkk] at h hk <;> first | (cases h; done) | (cases hk; rfl)
theorem zDo{o:COp}{fl:Fl}(hl:zH7 o.k=true)(h:zov nb σ o fl=true):zcx σ o σ1=true:=by
 obtain ⟨K,L⟩:=zvO h
 have hk:=L.k
 unfold kOf at hk
 unfold zcx
 cases hg:zad σ o.guard with
 | none=>rw [hg] at hk; cases hk
 | some g=>
  cases g with
  | false=>rfl
  | true=>cases hkk:o.k <;> rw [hkk] at hl <;> first | (cases hl; done) | exact hl | simpa [zH7,zSb,zag] using hl
theorem zXg{A B:COp}{KA KB:List Nat}{σ σ1 σ2:St}(ha:xk cb nb σ A=some σ1)(hb:xk cb nb σ1 B=some σ2)(hA:kOf nb σ A=some KA)(hB:kOf nb σ1 B=some KB)(hd:∀ j∈KA,j ∉ KB)
  (wa:∀ k∈Wo A,k ∉ zL B∧k ∉ Wo B) (wb:∀ k∈Wo B,k ∉ zL A∧k ∉ Wo A) :
  ∃ σ1',xk cb nb σ B=some σ1'∧xk cb nb σ1' A=some σ2∧kOf nb σ B=some KB∧kOf nb σ1' A=some KA∧(∀ k,k ∉ Wo B→σ1'.t[k]?=σ.t[k]?):=by
 obtain ⟨_,_,oa⟩:=yR A rfl rfl (fun _ _=>rfl) ha
 obtain ⟨_,_,ob⟩:=yR B rfl rfl (fun _ _=>rfl) hb
 have fA:=zFu hA ha
 have fB:=zFu hB hb
 have rB:∀ t∈zL B,σ.t[t]?=σ1.t[t]?:=fun t ht=>(oa.fr t (fun hh=>(wa t hh).1 ht)).symm
 let τ:St:={ t:=σ.t,b:=σ1.b }
 obtain ⟨τ1,g1,o1⟩:=yR B (σ':=τ) oa.len.symm rfl rB hb
 have kB:kOf nb τ B=some KB:=by rw [zzD (σ:=σ1) (σ':=τ) (.inl rfl) rB,hB]
 obtain ⟨σ1',e1,F1,k1⟩:=zta (b':=σ.b) kB (fun j hj=>(fA j (fun hh=>hd j hh hj)).symm) g1
 let τ2:St:={ t:=σ1'.t,b:=σ.b }
 have hoff:∀ k,k ∉ Wo B→σ1'.t[k]?=σ.t[k]?:=fun k hk=>by rw [F1.t]; exact o1.off k hk
 have rA:∀ t∈zL A,τ2.t[t]?=σ.t[t]?:=fun t ht=>hoff t (fun hh=>(wb t hh).1 ht)
 have hlen:τ2.t.length=σ.t.length:=by show σ1'.t.length=_; rw [F1.t]; exact o1.len'
 obtain ⟨σ3,g2,o2⟩:=yR A (σ':=τ2) hlen rfl rA ha
 have kA:kOf nb τ2 A=some KA:=by rw [zzD (σ:=σ) (σ':=τ2) (.inl rfl) rA,hA]
 obtain ⟨σ4,e2,F2,k2⟩:=zta (b':=σ1'.b) kA (fun j hj=>F1.off j (hd j hj)) g2
 have e:σ4=σ2:=by
  have et:σ4.t=σ2.t:=by
   rw [F2.t]
   apply Xd
   intro k
   by_cases hA:k∈Wo A
   ·rw [o2.on k hA,ob.fr k (wa k hA).2]
   ·rw [o2.off k hA]
    show σ1'.t[k]?=_
    rw [F1.t]
    by_cases hB:k∈Wo B
    ·exact o1.on k hB
    ·rw [o1.off k hB,ob.fr k hB,oa.fr k hA]
  have eb:σ4.b=σ2.b:=by
   apply Xd
   intro j
   by_cases hj:j∈KA
   ·rw [F2.on j hj,o2.b,fB j (hd j hj)]
   ·rw [F2.off j hj]
    by_cases hk:j∈KB
    ·rw [F1.on j hk,o1.b]
    ·rw [F1.off j hk,fB j hk,fA j hj]
  cases σ4; cases σ2; simp only at et eb; rw [et,eb]
 rw [e] at e2
 exact ⟨σ1',e1,e2,k1,k2,hoff⟩
def ldV(agg:Bool)(n:Nat)(take:Bool)(a:V)(b:List B):Option V:=match a with
 | .ptr id off=>match b[id]? with
  | some (.live p cs)=>if agg then (if off+n≤cs.length then (if p then some (.agg ((cs.drop off).take n)) else if take then (((cs.drop off).take n).mapM V.refd).map .st else (((cs.drop off).take n).mapM V.plain).map .agg) else none) else (cs[off]?).map V.dem
  | some (.fz cs)=>if agg then (if off+n≤cs.length then some (.agg ((cs.drop off).take n)) else none) else cs[off]?
  | _=>none
 | .fp m cs=>if agg then (if n≤m then some (.agg (cs.take n)) else none) else cs[0]?
 | _=>none
theorem zLP{d:Option Nat}{pin agg take:Bool}{n:Nat}{s:Src}(hq:(agg||!take)=true):yd cb nb σ d pin (.load agg n s take)=(ldV agg n take (s.get σ) σ.b).map (fun v=>σ.put d v):=by
 simp only [yd,ldV]
 cases s.get σ with
 | ptr id off=>
  simp only
  cases σ.b[id]? with
  | none=>rfl
  | some x=>
   cases x with
   | live p cs=>
    simp only
    cases agg with
    | true=>
     simp only [if_true]
     split
     ·cases p with
      | true=>simp
      | false=>
       cases take with
       | true=>simp only [WP,if_false,if_true]; cases ((cs.drop off).take n).mapM V.refd <;> rfl
       | false=>simp only [WP,if_false]; cases ((cs.drop off).take n).mapM V.plain <;> rfl
     ·rfl
    | false=>
     have ht:take=false:=by simpa using hq
     subst ht
     simp only [WP,if_false]
     cases cs[off]? <;> rfl
   | fz cs=>
    simp only
    cases agg with
    | true=>simp only [if_true]; split <;> rfl
    | false=>simp only [WP,if_false]; cases cs[off]? <;> rfl
   | _=>rfl
 | fp m cs=>
  simp only
  cases agg with
  | true=>simp only [if_true]; split <;> rfl
  | false=>simp only [WP,if_false]; cases cs[0]? <;> rfl
 | _=>rfl
def Dm(b b1:List B):Prop:=∀ j:Nat,b1[j]?=b[j]?∨∃ (cs:List V) (off:Nat) (v:V),b[j]?=some (B.live false cs)∧cs[off]?=some v∧b1[j]?=some (B.live false (cs.set off v.dem))
theorem zIf(v:V):v.dem.dem=v.dem:=by
 cases v with
 | tup vs=>cases vs <;> rfl
 | _=>rfl
theorem zPq(v:V):v.dem.plain=v.plain:=by
 cases v with
 | tup vs=>cases vs <;> rfl
 | _=>rfl
theorem zRY(v:V):v.dem.refd=v.refd:=by
 cases v with
 | tup vs=>cases vs <;> rfl
 | _=>rfl
theorem zMY{f:V→Option V}:∀ (l1 l2:List V),(∀ i:Nat,(l1[i]?).map f=(l2[i]?).map f)→l1.mapM f=l2.mapM f
 | [],[],_=>rfl
 | [],b::l2,h=>by have:=h 0; simp at this
 | a::l1,[],h=>by have:=h 0; simp at this
 | a::l1,b::l2,h=>by
  have h0:f a=f b:=by have:=h 0; simpa using this
  have ih:=zMY l1 l2 (fun i=>by have:=h (i+1); simpa using this)
  rw [List.mapM_cons,List.mapM_cons,h0,ih]
theorem zVH{f:V→Option V}(hf:∀ v:V,f v.dem=f v){cs:List V}{k:Nat}{v:V}(hk:cs[k]?=some v)(i:Nat):((cs.set k v.dem)[i]?).map f=(cs[i]?).map f:=by
 by_cases e:k=i
 ·subst e
  have hlt:=(Wi.1 hk).1
  rw [WF hlt,hk]
  simp [hf]
 ·rw [WE e]
theorem zPt{f:V→Option V}(hf:∀ v:V,f v.dem=f v){cs:List V}{k:Nat}{v:V}(hk:cs[k]?=some v)(off n:Nat):(((cs.set k v.dem).drop off).take n).mapM f=((cs.drop off).take n).mapM f:=by
 refine zMY _ _ (fun i=>?_)
 rw [Wn,Wn]
 split
 ·rw [Wp,Wp]; exact zVH hf hk _
 ·rfl
theorem zPP{agg take:Bool}{n:Nat}{a:V}{b b1:List B}(hd:Dm b b1):ldV agg n take a b1=ldV agg n take a b:=by
 cases a with
 | ptr id off=>
  simp only [ldV]
  rcases hd id with e | ⟨cs,k,v,e1,e2,e3⟩
  ·rw [e]
  ·rw [e1,e3]
   simp only [QI,WP,if_false,zPt zRY e2,zPt zPq e2]
   congr 1
   by_cases e:k=off
   ·subst e
    have hlt:=(Wi.1 e2).1
    rw [WF hlt,e2]
    simp [zIf]
   ·rw [WE e]
 | _=>rfl
theorem zH3{o:COp}(hl:zag o.k=true)(hr:∀ t∈zL o,σ'.t[t]?=σ.t[t]?)(hd:Dm σ.b σ'.b∨Dm σ'.b σ.b)(h:xk cb nb σ o=some σ1):∃ v,σ1=σ.put o.dst v∧xk cb nb σ' o=some (σ'.put o.dst v):=by
 unfold xk at h ⊢
 rw [zaX (fun j w hg=>hr j (zbh hg))]
 split at h
 ·cases hk:o.k with
  | load agg n a take=>
   rw [hk] at h hl
   have hg:a.get σ'=a.get σ:=zh (fun t ht=>hr t (zdR (by rw [hk]; exact ht)))
   rw [zLP hl] at h
   rw [zLP hl,hg]
   have e:ldV agg n take (a.get σ) σ'.b=ldV agg n take (a.get σ) σ.b:=by
    rcases hd with hd | hd
    ·exact zPP hd
    ·exact (zPP hd).symm
   rw [e]
   rw [Wj] at h
   obtain ⟨v,h1,rfl⟩:=h
   exact ⟨v,rfl,by rw [h1]; rfl⟩
  | _=>rw [hk] at hl; cases hl
 ·cases h; exact ⟨_,rfl,rfl⟩
 ·cases h
theorem Dm.rfl'{b:List B}:Dm b b:=fun _=>.inl rfl
theorem zNk{o:COp}(ht:zpj o.k=true)(h:xk cb nb σ o=some σ1):Dm σ.b σ1.b:=by
 unfold xk at h
 split at h
 ·cases hk:o.k with
  | load agg n a take=>
   rw [hk] at h ht
   cases agg with
   | true=>cases ht
   | false=>
    cases take with
    | false=>cases ht
    | true=>
     simp only [yd] at h
     cases hx:a.get σ with
     | ptr id off=>
      rw [hx] at h
      simp only at h
      cases hb:σ.b[id]? with
      | none=>rw [hb] at h; cases h
      | some x=>
       rw [hb] at h
       cases x with
       | live p cs=>
        simp only [WP,if_false,if_true] at h
        cases hv:cs[off]? with
        | none=>rw [hv] at h; cases h
        | some v=>
         rw [hv] at h
         simp only at h
         split at h
         ·cases h
         ·rename_i hp
          have hp:p=false:=by cases p <;> simp_all
          subst hp
          cases h
          rw [yO]
          intro j
          by_cases e:id=j
          ·subst e
           refine .inr ⟨cs,off,v,hb,hv,?_⟩
           simp only [St.setB]
           rw [WF (Wi.1 hb).1]
          ·refine .inl ?_
           simp only [St.setB]
           rw [WE e]
       | fz cs=>
        simp only [WP,if_false] at h
        cases hv:cs[off]? with
        | none=>rw [hv] at h; cases h
        | some v=>rw [hv] at h; cases h; rw [yO]; exact Dm.rfl'
       | _=>cases h
     | fp m cs=>
      rw [hx] at h
      simp only [WP,if_false] at h
      cases hv:cs[0]? with
      | none=>rw [hv] at h; cases h
      | some v=>rw [hv] at h; cases h; rw [yO]; exact Dm.rfl'
     | _=>rw [hx] at h; cases h
  | _=>rw [hk] at ht; cases ht
 ·cases h; rw [yO]; exact Dm.rfl'
 ·cases h
theorem zWC{A B:COp}{σ σ1 σ2:St}(ha:xk cb nb σ A=some σ1)(hb:xk cb nb σ1 B=some σ2)(hl:zag A.k=true)(ht:zpj B.k=true)
  (wa:∀ k∈Wo A,k ∉ zL B∧k ∉ Wo B) (wb:∀ k∈Wo B,k ∉ zL A∧k ∉ Wo A) :
  ∃ σ1',xk cb nb σ B=some σ1'∧xk cb nb σ1' A=some σ2∧(∀ k,k ∉ Wo B→σ1'.t[k]?=σ.t[k]?):=by
 obtain ⟨_,_,oa⟩:=yR A rfl rfl (fun _ _=>rfl) ha
 obtain ⟨_,_,ob⟩:=yR B rfl rfl (fun _ _=>rfl) hb
 have rB:∀ t∈zL B,σ.t[t]?=σ1.t[t]?:=fun t ht=>(oa.fr t (fun hh=>(wa t hh).1 ht)).symm
 obtain ⟨v,e3,_⟩:=zH3 (σ':=σ) hl (fun _ _=>rfl) (.inl Dm.rfl') ha
 have hb1:σ1.b=σ.b:=by rw [e3,yO]
 obtain ⟨σ1',f1,f2⟩:=yR B (σ':=σ) oa.len.symm hb1.symm rB hb
 obtain ⟨v',e3',e4⟩:=zH3 (σ':=σ1') hl (fun t ht=>f2.off t (fun hh=>(wb t hh).1 ht)) (.inl (zNk ht f1)) ha
 have e:σ1'.put A.dst v'=σ2:=by
  have eb:(σ1'.put A.dst v').b=σ2.b:=by rw [yO,f2.b]
  have et:(σ1'.put A.dst v').t=σ2.t:=by
   apply Xd
   intro k
   rw [xT,f2.len']
   by_cases hA:A.dst=some k∧k<σ.t.length
   ·rw [if_pos hA]
    have hkA:k∈Wo A:=zA k hA.1
    rw [ob.fr k (wa k hkA).2,e3',xT,if_pos hA]
   ·rw [if_neg hA]
    by_cases hB:k∈Wo B
    ·exact f2.on k hB
    ·rw [f2.off k hB,ob.fr k hB,e3',xT,if_neg hA]
  cases hz:σ1'.put A.dst v'; rw [hz] at eb et; cases σ2; simp only at eb et; rw [eb,et]
 exact ⟨σ1',f1,by rw [e4,e],f2.off⟩
theorem zV7{A B:COp}{σ σ1 σ2:St}(ha:xk cb nb σ A=some σ1)(hb:xk cb nb σ1 B=some σ2)(ht:zpj A.k=true)(hl:zag B.k=true)
  (wa:∀ k∈Wo A,k ∉ zL B∧k ∉ Wo B) (wb:∀ k∈Wo B,k ∉ zL A∧k ∉ Wo A) :
  ∃ σ1',xk cb nb σ B=some σ1'∧xk cb nb σ1' A=some σ2∧(∀ k,k ∉ Wo B→σ1'.t[k]?=σ.t[k]?):=by
 obtain ⟨_,_,oa⟩:=yR A rfl rfl (fun _ _=>rfl) ha
 have rB:∀ t∈zL B,σ.t[t]?=σ1.t[t]?:=fun t ht=>(oa.fr t (fun hh=>(wa t hh).1 ht)).symm
 obtain ⟨v,e1,e2⟩:=zH3 (σ':=σ) hl rB (.inr (zNk ht ha)) hb
 have hoff:∀ k,k ∉ Wo B→(σ.put B.dst v).t[k]?=σ.t[k]?:=fun k hk=>by rw [xT,if_neg (fun h=>hk (zA k h.1))]
 have hlen:(σ.put B.dst v).t.length=σ.t.length:=zjh _ _ _
 obtain ⟨σ2',f1,f2⟩:=yR A (σ':=σ.put B.dst v) hlen (yO _ _ _) (fun t ht=>hoff t (fun hh=>(wb t hh).1 ht)) ha
 have e:σ2'=σ2:=by
  have eb:σ2'.b=σ2.b:=by rw [f2.b,e1,yO]
  have et:σ2'.t=σ2.t:=by
   apply Xd
   intro k
   rw [e1,xT,oa.len]
   by_cases hB:B.dst=some k∧k<σ.t.length
   ·rw [if_pos hB]
    have hkB:k∈Wo B:=zA k hB.1
    rw [f2.off k (wb k hkB).2,xT,if_pos hB]
   ·rw [if_neg hB]
    by_cases hA:k∈Wo A
    ·exact f2.on k hA
    ·rw [f2.off k hA,oa.fr k hA,xT,if_neg hB]
  cases σ2'; cases σ2; simp only at eb et; rw [eb,et]
 subst e
 exact ⟨_,e2,f1,hoff⟩
theorem zx1{o:COp}(hl:(zag o.k||zpj o.k)=true)(hr:∀ t∈zL o,σ'.t[t]?=σ.t[t]?):kOf nb σ' o=kOf nb σ o:=by
 unfold kOf
 rw [zaX (fun j w hg=>hr j (zbh hg))]
 have hrk:∀ t∈xt o.k,σ'.t[t]?=σ.t[t]?:=fun t ht=>hr t (zdR ht)
 cases hk:o.k with
 | load agg n x take=>
  rw [hk] at hrk
  simp only [zh (s:=x) hrk]
 | _=>simp [hk,zag,zpj] at hl
theorem zWQ{A B:COp}{qa qb:Fl}{σ σ1 σ2:St}(ha:xk cb nb σ A=some σ1)(hb:xk cb nb σ1 B=some σ2)(fa:zb7 nb σ A qa σ1=true)(fb:zb7 nb σ1 B qb σ2=true)(pk:zpI (A,qa) (B,qb)=true) :
  ∃ σ1',xk cb nb σ B=some σ1'∧xk cb nb σ1' A=some σ2∧zb7 nb σ B qb σ1'=true∧zb7 nb σ1' A qa σ2=true:=by
 by_cases hL:(qa.l&&qb.l)=false∨yy A.k=true∨yy B.k=true
 ·exact zWU ha hb fa fb pk hL
 simp only [not_or,Bool.not_eq_false,Bool.not_eq_true] at hL
 obtain ⟨hl,hpa,hpb⟩:=hL
 rw [Wh] at hl
 obtain ⟨hla,hlb⟩:=hl
 simp only [zpI,Wh] at pk
 obtain ⟨⟨hs,hroots⟩,hq⟩:=pk
 have hroots:=zbT hroots
 have rr:∀ t,t∈qa.roots∨t∈qb.roots→t ∉ Wo A∧t ∉ Wo B:=by
  intro t ht
  constructor
  ·intro hh
   exact hroots t (QD.2 (.inl hh)) (QD.2 ht)
  ·intro hh
   exact hroots t (QD.2 (.inr hh)) (QD.2 ht)
 have hs0:=hs
 simp only [zfA,Wh] at hs
 have s1:=zbT hs.1
 have s2:=zbT hs.2
 have wa:∀ k∈Wo A,k ∉ zL B∧k ∉ Wo B:=fun k hk=>by
  have:=s1 k hk
  simp only [QD,not_or] at this
  exact ⟨this.1.1,fun hh=>by simp only [Wo,Wk,QD] at hh; exact hh.elim this.1.2 this.2⟩
 have wb:∀ k∈Wo B,k ∉ zL A∧k ∉ Wo A:=fun k hk=>by
  have:=s2 k hk
  simp only [QD,not_or] at this
  exact ⟨this.1.1,fun hh=>by simp only [Wo,Wk,QD] at hh; exact hh.elim this.1.2 this.2⟩
 obtain ⟨_,_,oa⟩:=yR A rfl rfl (fun _ _=>rfl) ha
 have fa':zov nb σ A qa=true:=by simpa only [zb7,hla,cond_true] using fa
 have fb':zov nb σ1 B qb=true:=by simpa only [zb7,hlb,cond_true] using fb
 obtain ⟨KA,LA⟩:=zvO fa'
 obtain ⟨KB,LB⟩:=zvO fb'
 have rt:∀ t,t∈qa.roots∨t∈qb.roots→σ1.t[t]?=σ.t[t]?:=fun t ht=>oa.fr t (rr t ht).1
 have dis:((zag A.k=true∧zpj B.k=true)∨(zpj A.k=true∧zag B.k=true))∨(zH7 A.k=true∧zH7 B.k=true)∨∀ j∈KA,j ∉ KB:=by
  simp only [Xb,hpa,hpb,hla,hlb,Xh,Xk,WP,false_or,Wh,true_and] at hq
  rcases hq with (((((((h | h) | h) | h) | h) | h) | h) | h) | h
  ·exact .inr (.inl h)
  ·exact .inl (.inl h)
  ·exact .inl (.inr h)
  ·exact .inr (.inr fun j hj=>by rw [zPQ h LA.k] at hj; cases hj)
  ·exact .inr (.inr fun j hj=>by rw [zPQ h LB.k]; exact List.not_mem_nil)
  ·obtain ⟨x,hx,hm⟩:=zp6 h
   refine .inr (.inr fun j hj=>?_)
   have hp:=LA.root x hx j hj
   exact LB.w x hm j (by rw [rt x (.inl (by simp [Fl.roots,hx])),hp])
  ·obtain ⟨x,hx,hm⟩:=zp6 h
   refine .inr (.inr fun j hj hj2=>?_)
   have hp:=LB.root x hx j hj2
   exact LA.w x hm j (by rw [← rt x (.inr (by simp [Fl.roots,hx])),hp]) hj
  ·obtain ⟨d,hd,hn⟩:=LA.nw h.1
   obtain ⟨x,hx,hm⟩:=zp6 h.2
   rw [hd] at hx; cases hx
   exact .inr (.inr fun j hj=>by rw [hn j hj]; exact LB.wn _ hm)
  ·obtain ⟨d,hd,hn⟩:=LB.nw h.1
   obtain ⟨x,hx,hm⟩:=zp6 h.2
   rw [hd] at hx; cases hx
   exact .inr (.inr fun j hj hj2=>by rw [hn j hj2] at hj; exact LA.wn _ hm hj)
 have fin:(zag A.k||zpj A.k)=true→(zag B.k||zpj B.k)=true→(∃ σ1',xk cb nb σ B=some σ1'∧xk cb nb σ1' A=some σ2∧(∀ k,k ∉ Wo B→σ1'.t[k]?=σ.t[k]?))→∃ σ1',xk cb nb σ B=some σ1'∧xk cb nb σ1' A=some σ2∧zb7 nb σ B qb σ1'=true∧zb7 nb σ1' A qa σ2=true:=by
  rintro lA lB ⟨σ1',k1,k2,hoff⟩
  refine ⟨σ1',k1,k2,?_,?_⟩
  ·simp only [zb7,hlb,cond_true]
   rw [← fb']
   exact zf4 (zx1 lB (fun t ht=>(oa.fr t (fun hh=>(wa t hh).1 ht)).symm)) (fun t ht=>(rt t (.inr ht)).symm)
  ·simp only [zb7,hla,cond_true]
   rw [← fa']
   exact zf4 (zx1 lA (fun t ht=>hoff t (fun hh=>(wb t hh).1 ht))) (fun t ht=>hoff t (rr t (.inl ht)).2)
 rcases dis with (⟨l1,l2⟩ | ⟨l1,l2⟩) | ⟨l1,l2⟩ | dis
 ·exact fin (by rw [l1]; rfl) (by rw [l2]; simp) (zWC ha hb l1 l2 wa wb)
 ·exact fin (by rw [l1]; simp) (by rw [l2]; rfl) (zV7 ha hb l1 l2 wa wb)
 ·obtain ⟨σ1',k1,k2,S⟩:=zWc ha hb hs0 (.inr (.inr ⟨zDo l1 fa',zDo l2 fb'⟩))
  have S:=S (qa.s&&!qa.l) (qb.s&&!qb.l)
  refine ⟨σ1',k1,k2,?_,?_⟩
  ·rw [← fb]
   exact zkW S.bB (fun t ht=>(oa.fr t (fun hh=>(wa t hh).1 ht)).symm) (fun t ht=>(rt t (.inr ht)).symm) S.dB
  ·rw [← fa]
   exact zkW S.bA (fun t ht=>S.fB t (fun hh=>(wb t hh).1 ht)) (fun t ht=>S.fB t (rr t (.inl ht)).2) S.dA
 ·obtain ⟨σ1',k1,k2,kB,kA,hoff⟩:=zXg ha hb LA.k LB.k dis wa wb
  refine ⟨σ1',k1,k2,?_,?_⟩
  ·simp only [zb7,hlb,cond_true]
   rw [← fb']
   exact zf4 (by rw [kB,LB.k]) (fun t ht=>(rt t (.inr ht)).symm)
  ·simp only [zb7,hla,cond_true]
   rw [← fa']
   exact zf4 (by rw [kA,LA.k]) (fun t ht=>hoff t (rr t (.inl ht)).2)
theorem zr2{A B:COp}{qa qb:Fl}(h:zwM (A,qa) (B,qb)=true):∃ da db x,A=⟨some da,false,none,.move (.tmp x) true⟩∧B=⟨some db,false,none,.move (.tmp x) false⟩∧da≠x∧db≠x∧da≠db∧(∀ t∈qa.roots,t≠db)∧qb.l=false∧qb.s=false∧qb.q=false∧qb.root=none∧qb.w=[]∧qa.tk=false∧qb.tk=false:=by
 unfold zwM at h
 split at h
 ·rename_i da x db y hA hB
  simp only at hA hB
  simp only [Wh,Xc,Option.isNone_iff_eq_none,Xg] at h
  obtain ⟨⟨⟨⟨⟨⟨⟨⟨⟨⟨⟨h1,h2⟩,h3⟩,h4⟩,h5⟩,h6⟩,h7⟩,h8⟩,h9⟩,h10⟩,h11⟩,h12⟩:=h
  have e:=Wd h1
  subst e
  have ne:∀ {a b:Nat},Nat.beq a b=false→a≠b:=fun h e=>by rw [e] at h; simp at h
  refine ⟨da,db,x,hA,hB,ne h2,ne h3,ne h4,fun t ht e=>?_,h6,h7,h8,h9,h10,h11,h12⟩
  exact zbT h5 db (by simp) (e ▸ ht)
 ·cases h
theorem zNm{o:COp}{q:Fl}(h1:q.l=false)(h2:q.s=false)(h3:q.q=false)(h4:q.root=none)(h5:q.w=[])(σ τ:St):zb7 nb σ o q τ=true:=by
 simp [zb7,h1,h2,h3,h4,h5,zlO]
theorem zMT{t:List V}{x a b:Nat}{m d:V}(ha:a≠x)(hb:b≠x)(hab:a≠b):((t.modify x V.dem).set a m).set b d=((t.set b d).modify x V.dem).set a m:=by
 apply Xd
 intro k
 simp only [Xa,WN,QI,Xt]
 by_cases h1:b=k
 ·subst h1
  have h2:¬ x=b:=fun h=>hb h.symm
  simp only [if_true,hab,h2,if_false]
  by_cases hl:b<t.length <;> simp [hl]
 ·simp only [h1,if_false]
theorem zNd{σ:St}{x a:Nat}{m:V}{b:List B}(ha:a≠x):Src.get ⟨(σ.t.modify x V.dem).set a m,b⟩ (.tmp x)=(Src.get σ (.tmp x)).dem:=by
 simp only [Src.get,Ws,Xa,WN,if_neg ha,if_true]
 cases σ.t[x]? <;> rfl
theorem zNx{σ:St}{x a:Nat}{m:V}(ha:a≠x):Src.get (σ.put (some a) m) (.tmp x)=Src.get σ (.tmp x):=by
 simp only [Src.get,St.put,Ws,Xa,if_neg ha]
theorem zOX{A B:COp}{qa qb:Fl}{σ σ1 σ2:St}(ha:xk cb nb σ A=some σ1)(hb:xk cb nb σ1 B=some σ2)(fa:zb7 nb σ A qa σ1=true)(fb:zb7 nb σ1 B qb σ2=true)(pk:zwM (A,qa) (B,qb)=true∨zwM (B,qb) (A,qa)=true∨zpI (A,qa) (B,qb)=true) :
  ∃ σ1',xk cb nb σ B=some σ1'∧xk cb nb σ1' A=some σ2∧zb7 nb σ B qb σ1'=true∧zb7 nb σ1' A qa σ2=true:=by
 rcases pk with h | h | h
 ·obtain ⟨da,db,x,rfl,rfl,n1,n2,n3,hr,g1,g2,g3,g4,g5,_,_⟩:=zr2 h
  simp only [xk,zad,yd,if_true,WP,if_false,Wg] at ha hb
  subst ha
  have e1:Src.get ((σ.demote (.tmp x)).put (some da) (Src.get σ (.tmp x)).mv) (.tmp x)=(Src.get σ (.tmp x)).dem:=zNd n1
  rw [e1,zIf] at hb
  subst hb
  have e2:((σ.put (some db) (Src.get σ (.tmp x)).dem).demote (.tmp x)).put (some da) (Src.get σ (.tmp x)).mv=((σ.demote (.tmp x)).put (some da) (Src.get σ (.tmp x)).mv).put (some db) (Src.get σ (.tmp x)).dem:=by
   simp only [St.put,St.demote,zMT n1 n2 n3]
  refine ⟨σ.put (some db) (Src.get σ (.tmp x)).dem,by simp [xk,zad,yd],?_,zNm g1 g2 g3 g4 g5 _ _,?_⟩
  ·simp only [xk,zad,yd,if_true,WP,if_false,zNx n2,e2]
  ·refine Eq.trans ?_ fa
   refine zkW (.inl rfl) (fun t ht=>?_) (fun t ht=>?_) (fun d hd=>?_)
   ·have:t=x:=by simpa [zL,xt,Src.tmps] using ht
    subst this
    simp only [St.put,Xa,if_neg n2]
   ·simp only [St.put,Xa,if_neg (fun (e:db=t)=>hr t ht e.symm)]
   ·cases hd
    simp only [St.put,Xa,if_neg (fun (e:db=da)=>n3 e.symm)]
 ·obtain ⟨db,da,x,rfl,rfl,n1,n2,n3,hr,g1,g2,g3,g4,g5,_,_⟩:=zr2 h
  simp only [xk,zad,yd,if_true,WP,if_false,Wg] at ha hb
  subst ha
  rw [zNx n2] at hb
  subst hb
  refine ⟨(σ.demote (.tmp x)).put (some db) (Src.get σ (.tmp x)).mv,by simp [xk,zad,yd],?_,?_,zNm g1 g2 g3 g4 g5 _ _⟩
  ·have e1:Src.get ((σ.demote (.tmp x)).put (some db) (Src.get σ (.tmp x)).mv) (.tmp x)=(Src.get σ (.tmp x)).dem:=zNd n1
   simp only [xk,zad,yd,if_true,WP,if_false,e1,zIf]
   simp only [St.put,St.demote,zMT n1 n2 n3]
  ·refine Eq.trans ?_ fb
   refine zkW (.inl rfl) (fun t ht=>?_) (fun t ht=>?_) (fun d hd=>?_)
   ·have:t=x:=by simpa [zL,xt,Src.tmps] using ht
    subst this
    simp only [St.put,Xa,if_neg n2]
   ·simp only [St.put,Xa,if_neg (fun (e:da=t)=>hr t ht e.symm)]
   ·cases hd
    simp only [St.put,St.demote,Xa,WN,QI,Xt]
    simp
 ·exact zWQ ha hb fa fb h
def zgx(p:V)(b:List B):Option (V × List B):=match p with
 | .ptr id off=>match b[id]? with
  | some (.live false cs)=>(cs[off]?).map fun v=>(v.tk,b.set id (.live false (cs.set off v.dem)))
  | some (.fz cs)=>(cs[off]?).map fun v=>(v,b)
  | _=>none
 | .fp _ cs=>(cs[0]?).map fun v=>(v,b)
 | _=>none
theorem zJ8{d n:Nat}{a:Src}(σ:St):xk cb nb σ ⟨some d,false,none,.load false n a true⟩=(zgx (a.get σ) σ.b).map fun x=>⟨σ.t.set d x.1,x.2⟩:=by
 simp only [xk,zad,yd,zgx]
 cases a.get σ with
 | ptr id off=>
  simp only
  cases σ.b[id]? with
  | none=>rfl
  | some x=>
   cases x with
   | live p cs=>cases p <;> (simp only [WP,if_false,if_true]; cases cs[off]? <;> rfl)
   | fz cs=>simp only [WP,if_false]; cases cs[off]? <;> rfl
   | _=>rfl
 | fp m cs=>simp only [WP,if_false]; cases cs[0]? <;> rfl
 | _=>rfl
theorem zVx(v:V):zOl (v.dem).tk=false:=by
 cases v <;> try rfl
 rename_i vs
 cases vs <;> rfl
theorem zLv{m:Nat}{cs:List V}(b b':List B){v:V}(h:zgx (.fp m cs) b=some (v,b')):b'=b∧∀ c,zgx (.fp m cs) c=some (v,c):=by
 simp only [zgx,Wj,Prod.mk.injEq] at h
 obtain ⟨x,hx,rfl,rfl⟩:=h
 exact ⟨rfl,fun c=>by simp only [zgx,hx]; rfl⟩
theorem zzO{id off:Nat}{b b':List B}{v:V}(h:zgx (.ptr id off) b=some (v,b')):(∃ cs v0,b[id]?=some (.live false cs)∧cs[off]?=some v0∧v=v0.tk∧b'=b.set id (.live false (cs.set off v0.dem)))∨(∃ cs,b[id]?=some (.fz cs)∧cs[off]?=some v∧b'=b):=by
 simp only [zgx] at h
 split at h
 ·rename_i cs hb
  rw [Wj] at h
  obtain ⟨x,hx,e⟩:=h
  cases e
  exact .inl ⟨cs,x,hb,hx,rfl,rfl⟩
 ·rename_i cs hb
  rw [Wj] at h
  obtain ⟨x,hx,e⟩:=h
  cases e
  exact .inr ⟨cs,hb,hx,rfl⟩
 ·cases h
theorem zot{id off:Nat}{b:List B}{cs:List V}{v0:V}(hb:b[id]?=some (.live false cs))(hv:cs[off]?=some v0):zgx (.ptr id off) b=some (v0.tk,b.set id (.live false (cs.set off v0.dem))):=by
 simp only [zgx,hb,hv]; rfl
theorem zyg{id off:Nat}{b:List B}{cs:List V}{v0:V}(hb:b[id]?=some (.fz cs))(hv:cs[off]?=some v0):zgx (.ptr id off) b=some (v0,b):=by
 simp only [zgx,hb,hv]; rfl
theorem zOk{p q v w:V}{b b1 b2:List B}(h1:zgx p b=some (v,b1))(h2:zgx q b1=some (w,b2))(gw:zOl w=true):∃ b1',zgx q b=some (w,b1')∧zgx p b1'=some (v,b2):=by
 have hp:(∃ m cs,p=.fp m cs)∨(∃ id off,p=.ptr id off):=by
  cases p <;> first | exact .inl ⟨_,_,rfl⟩ | exact .inr ⟨_,_,rfl⟩ | (simp [zgx] at h1; done)
 have hq:(∃ m cs,q=.fp m cs)∨(∃ id off,q=.ptr id off):=by
  cases q <;> first | exact .inl ⟨_,_,rfl⟩ | exact .inr ⟨_,_,rfl⟩ | (simp [zgx] at h2; done)
 rcases hp with ⟨m,cs,rfl⟩ | ⟨id,off,rfl⟩
 ·obtain ⟨rfl,k⟩:=zLv _ _ h1
  exact ⟨b2,h2,k b2⟩
 rcases hq with ⟨m,cs,rfl⟩ | ⟨id',off',rfl⟩
 ·obtain ⟨rfl,k⟩:=zLv _ _ h2
  exact ⟨b,k b,h1⟩
 rcases zzO h1 with ⟨cs,v0,e1,e2,rfl,rfl⟩ | ⟨cs,e1,e2,rfl⟩
 ·have hlt:id<b.length:=(Wi.1 e1).1
  rcases zzO h2 with ⟨ds,w0,f1,f2,rfl,rfl⟩ | ⟨ds,f1,f2,rfl⟩
  ·by_cases hid:id=id'
   ·subst hid
    rw [WF hlt] at f1
    cases f1
    have hoff:off≠off':=by
     rintro rfl
     have hl:off<cs.length:=(Wi.1 e2).1
     rw [WF hl] at f2
     cases f2
     rw [zVx] at gw; cases gw
    rw [WE hoff] at f2
    refine ⟨_,zot e1 f2,?_⟩
    rw [zot (b:=b.set id (.live false (cs.set off' w0.dem))) (WF hlt) (by rw [WE (Ne.symm hoff)]; exact e2)]
    rw [List.set_set,List.set_set,Xs _ _ hoff]
   ·rw [WE hid] at f1
    refine ⟨_,zot f1 f2,?_⟩
    rw [zot (b:=b.set id' (.live false (ds.set off' w0.dem))) (by rw [WE (Ne.symm hid)]; exact e1) e2,Xs _ _ hid]
  ·have hid:id≠id':=by
    rintro rfl
    rw [WF hlt] at f1
    cases f1
   rw [WE hid] at f1
   exact ⟨_,zyg f1 f2,h1⟩
 ·rcases zzO h2 with ⟨ds,w0,f1,f2,rfl,rfl⟩ | ⟨ds,f1,f2,rfl⟩
  ·have hid:id'≠id:=by
    rintro rfl
    rw [e1] at f1; cases f1
   exact ⟨_,zot f1 f2,zyg (by rw [WE hid]; exact e1) e2⟩
  ·exact ⟨_,zyg f1 f2,zyg e1 e2⟩
theorem zTN{fl:Fl}{o:COp}{d:Nat}{σ:St}{v:V}{t:List V}{b:List B}(hd:o.dst=some d)(ht:fl.tk=true)(h:zo7 fl o ⟨t.set d v,b⟩=true):zOl v=true:=by
 simp only [zo7,ht,hd,Xh,Bool.false_or,List.getElem?_set_self'] at h
 split at h
 ·rename_i u hu
  cases hx:t[d]? with
  | none=>rw [hx] at hu; cases hu
  | some y=>rw [hx] at hu; cases hu; exact h
 ·cases h
theorem zMQ{A B:COp}{qa qb:Fl}{σ σ1 σ2:St}(ha:xk cb nb σ A=some σ1)(hb:xk cb nb σ1 B=some σ2)(fa:flT nb σ A qa σ1=true)(fb:flT nb σ1 B qb σ2=true)(pk:zGI (A,qa) (B,qb)=true) :
  ∃ σ1',xk cb nb σ B=some σ1'∧xk cb nb σ1' A=some σ2∧zb7 nb σ B qb σ1'=true∧zb7 nb σ1' A qa σ2=true:=by
 unfold zGI at pk
 split at pk
 ·rename_i da na a db n' b' hA hB
  simp only at hA hB
  subst hA; subst hB
  simp only [Wh] at pk
  obtain ⟨⟨⟨⟨⟨hs,hroots⟩,hla⟩,hlb⟩,hta⟩,htb⟩:=pk
  simp only [flT,Wh] at fa fb
  have hroots:=zbT hroots
  simp only [zfA,Wh] at hs
  have s1:=zbT hs.1
  have s2:=zbT hs.2
  have nd:da≠db:=fun e=>by have:=s1 da (by simp); simp [e] at this
  have rb:∀ t∈b'.tmps,t≠da:=fun t ht e=>by have:=s1 da (by simp); simp [zL,xt,← e,ht] at this
  have ra:∀ t∈a.tmps,t≠db:=fun t ht e=>by have:=s2 db (by simp); simp [zL,xt,← e,ht] at this
  have rr:∀ t,t∈qa.roots∨t∈qb.roots→t≠da∧t≠db:=by
   intro t ht
   constructor
   ·intro e; exact hroots da (by simp [zpL]) (QD.2 (e ▸ ht))
   ·intro e; exact hroots db (by simp [zpL]) (QD.2 (e ▸ ht))
  rw [zJ8,Wj] at ha
  obtain ⟨⟨v,b1⟩,h1,rfl⟩:=ha
  rw [zJ8,Wj] at hb
  obtain ⟨⟨w,b2⟩,h2,rfl⟩:=hb
  have gb:Src.get (⟨σ.t.set da v,b1⟩:St) b'=Src.get σ b':=zh fun t ht=>by
   show (σ.t.set da v)[t]?=_
   rw [WE (Ne.symm (rb t ht))]
  rw [gb] at h2
  obtain ⟨b1',k1,k2⟩:=zOk h1 h2 (zTN (σ:=σ) rfl htb fb.2)
  have ga:Src.get (⟨σ.t.set db w,b1'⟩:St) a=Src.get σ a:=zh fun t ht=>by
   show (σ.t.set db w)[t]?=_
   rw [WE (Ne.symm (ra t ht))]
  have fa1:=fa.1
  have fb1:=fb.1
  simp only [zb7,hla,hlb,cond_true] at fa1 fb1
  refine ⟨⟨σ.t.set db w,b1'⟩,?_,?_,?_,?_⟩
  ·rw [zJ8,k1]; rfl
  ·rw [zJ8,ga,k2,Xs _ _ nd]; rfl
  ·simp only [zb7,hlb,cond_true]
   refine Eq.trans ?_ fb1
   refine zf4 (zx1 rfl fun t ht=>?_) fun t ht=>?_
   ·show σ.t[t]?=(σ.t.set da v)[t]?
    rw [WE (Ne.symm (rb t (by simpa [zL,xt] using ht)))]
   ·show σ.t[t]?=(σ.t.set da v)[t]?
    rw [WE (Ne.symm (rr t (.inr ht)).1)]
  ·simp only [zb7,hla,cond_true]
   refine Eq.trans ?_ fa1
   refine zf4 (zx1 rfl fun t ht=>?_) fun t ht=>?_
   ·show (σ.t.set db w)[t]?=σ.t[t]?
    rw [WE (Ne.symm (ra t (by simpa [zL,xt] using ht)))]
   ·show (σ.t.set db w)[t]?=σ.t[t]?
    rw [WE (Ne.symm (rr t (.inl ht)).2)]
 ·cases pk
theorem zGa{fl:Fl}{o:COp}{σ σ':St}(h:∀ d,o.dst=some d→σ'.t[d]?=σ.t[d]?):zo7 fl o σ'=zo7 fl o σ:=by
 unfold zo7
 cases hd:o.dst with
 | none=>rfl
 | some d=>simp only [h d hd]
theorem zSM{A B:COp}{qa qb:Fl}{σ1 σ2 σ1':St}(hb:xk cb nb σ1 B=some σ2)(hb':xk cb nb σ1' A=some σ2)(na:∀ d,A.dst=some d→d ∉ Wo B)(nb':∀ d,B.dst=some d→d ∉ Wo A)(fa:zo7 qa A σ1=true)(fb:zo7 qb B σ2=true):zo7 qb B σ1'=true∧zo7 qa A σ2=true:=by
 obtain ⟨_,_,ob⟩:=yR B rfl rfl (fun _ _=>rfl) hb
 obtain ⟨_,_,oa⟩:=yR A rfl rfl (fun _ _=>rfl) hb'
 exact ⟨by rw [← fb]; exact (zGa fun d hd=>oa.fr d (nb' d hd)).symm,by rw [← fa]; exact zGa fun d hd=>ob.fr d (na d hd)⟩
theorem zW7{A B:COp}{qa qb:Fl}{σ σ1 σ2:St}(ha:xk cb nb σ A=some σ1)(hb:xk cb nb σ1 B=some σ2)(fa:flT nb σ A qa σ1=true)(fb:flT nb σ1 B qb σ2=true)(pk:zzA (A,qa) (B,qb)=true) :
  ∃ σ1',xk cb nb σ B=some σ1'∧xk cb nb σ1' A=some σ2∧flT nb σ B qb σ1'=true∧flT nb σ1' A qa σ2=true:=by
 have fa0:=fa
 have fb0:=fb
 simp only [flT,Wh] at fa fb ⊢
 have dsts:(∀ d,A.dst=some d→d ∉ Wo B)∧(∀ d,B.dst=some d→d ∉ Wo A)∨(qa.tk=false∧qb.tk=false):=by
  have ap:zfA A B=true→(∀ d,A.dst=some d→d ∉ Wo B)∧(∀ d,B.dst=some d→d ∉ Wo A):=by
   intro hs
   simp only [zfA,Wh] at hs
   have s1:=zbT hs.1
   have s2:=zbT hs.2
   constructor
   ·intro d hd hh
    have:=s1 d (by simp [hd])
    simp only [QD,not_or] at this
    simp only [Wo,Wk,QD] at hh
    exact hh.elim this.1.2 this.2
   ·intro d hd hh
    have:=s2 d (by simp [hd])
    simp only [QD,not_or] at this
    simp only [Wo,Wk,QD] at hh
    exact hh.elim this.1.2 this.2
  simp only [zzA,Xb] at pk
  rcases pk with ((h | h) | h) | h
  ·obtain ⟨_,_,_,_,_,_,_,_,_,_,_,_,_,_,t1,t2⟩:=zr2 h
   exact .inr ⟨t1,t2⟩
  ·obtain ⟨_,_,_,_,_,_,_,_,_,_,_,_,_,_,t1,t2⟩:=zr2 h
   exact .inr ⟨t2,t1⟩
  ·unfold zGI at h
   split at h
   ·simp only [Wh] at h
    exact .inl (ap h.1.1.1.1.1)
   ·cases h
  ·simp only [zpI,Wh] at h
   exact .inl (ap h.1.1)
 have main:∃ σ1',xk cb nb σ B=some σ1'∧xk cb nb σ1' A=some σ2∧zb7 nb σ B qb σ1'=true∧zb7 nb σ1' A qa σ2=true:=by
  simp only [zzA,Xb] at pk
  rcases pk with ((h | h) | h) | h
  ·exact zOX ha hb fa.1 fb.1 (.inl h)
  ·exact zOX ha hb fa.1 fb.1 (.inr (.inl h))
  ·exact zMQ ha hb fa0 fb0 h
  ·exact zOX ha hb fa.1 fb.1 (.inr (.inr h))
 obtain ⟨σ1',k1,k2,k3,k4⟩:=main
 have tk:zo7 qb B σ1'=true∧zo7 qa A σ2=true:=by
  rcases dsts with ⟨na,nb'⟩ | ⟨t1,t2⟩
  ·exact zSM hb k2 na nb' fa.2 fb.2
  ·simp [zo7,t1,t2]
 exact ⟨σ1',k1,k2,⟨k3,tk.1⟩,⟨k4,tk.2⟩⟩
end
section
def zpZ(cb:CB)(nb:Nat)(ks:List (COp × Fl)):List Nat→St→Option St
 | [],σ=>some σ
 | i::l,σ=>match ks[i]? with
  | some (o,q)=>match xk cb nb σ o with
   | some σ'=>if flT nb σ o q σ' then zpZ cb nb ks l σ' else none
   | none=>none
  | none=>none
theorem znz{cb:CB}{nb:Nat}{ks:List (COp × Fl)}{i:Nat}{l:List Nat}{σ σ':St}:zpZ cb nb ks (i::l) σ=some σ'↔∃ o q σ1,ks[i]?=some (o,q)∧xk cb nb σ o=some σ1∧flT nb σ o q σ1=true∧zpZ cb nb ks l σ1=some σ':=by
 constructor
 ·intro h
  simp only [zpZ] at h
  split at h
  ·rename_i o q hk
   split at h
   ·rename_i σ1 h1
    split at h
    ·rename_i hc
     exact ⟨o,q,σ1,hk,h1,hc,h⟩
    ·cases h
   ·cases h
  ·cases h
 ·rintro ⟨o,q,σ1,h1,h2,h3,h4⟩
  simp only [zpZ,h1,h2]
  rw [if_pos h3]
  exact h4
theorem zDs{cb:CB}{nb:Nat}(ks:List (COp × Fl)):∀ (l:List (COp × Fl)) (k:Nat) (σ:St),(∀ i,l[i]?=ks[k+i]?)→zmx cb nb l σ=zpZ cb nb ks (List.range' k l.length) σ
 | [],k,σ,h=>rfl
 | (o,q)::l,k,σ,h=>by
  have h0:ks[k]?=some (o,q):=by simpa using (h 0).symm
  have ih:=fun σ=>zDs (cb:=cb) (nb:=nb) ks l (k+1) σ (fun i=>by have:=h (i+1); simpa [Nat.add_assoc,Nat.add_comm 1 i] using this)
  simp only [zmx,List.length_cons,List.range'_succ,zpZ,h0,ih]
  cases xk cb nb σ o <;> rfl
theorem zP9{cb:CB}{nb:Nat}{ks:List (COp × Fl)}{i:Nat}{l2:List Nat}{σ':St}:∀ (l1:List Nat) (σ:St),(∀ j∈l1,∀ a b,ks[j]?=some a→ks[i]?=some b→zzA a b=true)→zpZ cb nb ks (l1++i::l2) σ=some σ'→zpZ cb nb ks (i::(l1++l2)) σ=some σ'
 | [],σ,_,h=>h
 | j::l1,σ,hp,h=>by
  rw [List.cons_append,znz] at h
  obtain ⟨oj,qj,σ1,h1,h2,h3,h4⟩:=h
  have ih:=zP9 l1 σ1 (fun j' hj'=>hp j' (by simp [hj'])) h4
  rw [znz] at ih
  obtain ⟨oi,qi,σ2,g1,g2,g3,g4⟩:=ih
  have pk:=hp j (by simp) _ _ h1 g1
  obtain ⟨σ1',e1,e2,e3,e4⟩:=zW7 h2 g2 h3 g3 pk
  rw [znz]
  refine ⟨oi,qi,σ1',g1,e1,e3,?_⟩
  rw [List.cons_append,znz]
  exact ⟨oj,qj,σ2,h1,e2,e4,g4⟩
theorem zI1(acc:Array Nat)(j:Nat):∀ (l:List Edge) (s:Nat),(l.foldl (fun s e=>if Region.binds .any e=true then s ||| 2 ^ e.on ||| acc.getD e.on 0 else s) s).testBit j=true→s.testBit j=true∨∃ e∈l,Region.binds .any e=true∧(j=e.on∨(acc.getD e.on 0).testBit j=true)
 | [],s,h=>.inl h
 | e::l,s,h=>by
  rw [List.foldl_cons] at h
  rcases zI1 acc j l _ h with h | ⟨e',he',h⟩
  ·split at h
   ·rename_i hb
    simp only [Nat.testBit_or,Nat.testBit_two_pow,Xb,decide_eq_true_eq] at h
    rcases h with (h | h) | h
    ·exact .inl h
    ·exact .inr ⟨e,by simp,hb,.inl h.symm⟩
    ·exact .inr ⟨e,by simp,hb,.inr h⟩
   ·exact .inl h
  ·exact .inr ⟨e',by simp [he'],h⟩
def zV2(acc:Array Nat)(pre:List Oper):Prop:=acc.size=pre.length∧∀ i j,(acc.getD i 0).testBit j=true→∃ o,pre[i]?=some o∧∃ e∈o.after,Region.binds .any e=true∧(j=e.on∨(acc.getD e.on 0).testBit j=true)
theorem zIT{acc:Array Nat}{b:Nat}(i:Nat)(h:i<acc.size):(acc.push b).getD i 0=acc.getD i 0:=by
 rw [QQ,QQ,Array.getElem?_push_lt h,QS h]
theorem zK2{acc:Array Nat}{i j:Nat}(h:(acc.getD i 0).testBit j=true):i<acc.size:=by
 rcases Xn i acc.size with h' | h'
 ·exact h'
 ·rw [QQ,WT h'] at h; simp at h
theorem zFX:∀ (l pre:List Oper) (acc:Array Nat),zV2 acc pre→zV2 (l.foldl (fun acc o=>acc.push (o.after.foldl (fun s e=>if Region.binds .any e=true then s ||| 2 ^ e.on ||| acc.getD e.on 0 else s) 0)) acc) (pre++l)
 | [],pre,acc,h=>by simpa using h
 | o::l,pre,acc,h=>by
  rw [List.foldl_cons]
  have:=zFX l (pre++[o]) (acc.push (o.after.foldl (fun s e=>if Region.binds .any e=true then s ||| 2 ^ e.on ||| acc.getD e.on 0 else s) 0)) ⟨by simp [h.1],fun i j hb=>by
   have hi:=zK2 hb
   have up:∀ e:Nat,(acc.getD e 0).testBit j=true→∀ b,((acc.push b).getD e 0).testBit j=true:=fun e he b=>by rw [zIT e (zK2 he)]; exact he
   by_cases hlt:i<acc.size
   ·rw [zIT i hlt] at hb
    obtain ⟨o',h1,e,h2,h3,h4⟩:=h.2 i j hb
    exact ⟨o',by rw [List.getElem?_append_left (by rw [← h.1]; exact hlt)]; exact h1,e,h2,h3,h4.imp id (fun hh=>up _ hh _)⟩
   ·have hie:i=acc.size:=by simp at hi; omega
    subst hie
    refine ⟨o,by rw [h.1]; simp,?_⟩
    rw [QQ,Array.getElem?_push_size,Xl,← WA] at hb
    rcases zI1 acc j _ _ hb with hb | ⟨e,h2,h3,h4⟩
    ·simp at hb
    ·exact ⟨e,by simpa using h2,h3,h4.imp id (fun hh=>up _ hh _)⟩⟩
  simpa using this
theorem zMt(ops:Array Oper)(i j:Nat)(h:((Region.before ops).getD i 0).testBit j=true):∃ o,ops[i]?=some o∧∃ e∈o.after,Region.binds .any e=true∧(j=e.on∨((Region.before ops).getD e.on 0).testBit j=true):=by
 have:=zFX ops.toList [] #[] ⟨rfl,fun i j h=>by simp at h⟩
 have e:Region.before ops=ops.toList.foldl (fun acc o=>acc.push (o.after.foldl (fun s e=>if Region.binds .any e=true then s ||| 2 ^ e.on ||| acc.getD e.on 0 else s) 0)) #[]:=by
  unfold Region.before
  rw [← WA]
 rw [← e] at this
 obtain ⟨o,h1,h2⟩:=this.2 i j h
 exact ⟨o,by simpa using h1,h2⟩
section
variable {ren:Rn} {we:World} {ωe:Nat→Ow} {U:Nat→Nat→Prop} {O:Nat→Prop} {P:Program} {nb:Nat} {cb:CB}
def unl(ops:Array Oper)(listed:Array Bool):List Nat:=(Wy ops.size).filter (fun i=>!listed.getD i true)
theorem zwV{ops:Array Oper}{listed:Array Bool}{i:Nat}:i∈unl ops listed↔i<ops.size∧listed.getD i true=false:=by
 simp [unl,List.mem_filter]
theorem zyc(ops:Array Oper)(listed:Array Bool):(unl ops listed).Pairwise (·<·):=List.pairwise_lt_range.filter _
theorem zTO{ops:Array Oper}{listed:Array Bool}{i:Nat}{l1 l2:List Nat}(hi:i<listed.size)(h:unl ops listed=l1++i::l2):unl ops (listed.setIfInBounds i true)=l1++l2:=by
 have hs:=zyc ops listed
 rw [h,Xr] at hs
 obtain ⟨_,h2,h3⟩:=hs
 rw [Xu] at h2
 have e:unl ops (listed.setIfInBounds i true)=(unl ops listed).filter (fun x=>x != i):=by
  unfold unl
  rw [List.filter_filter]
  apply List.filter_congr
  intro x _
  by_cases hx:i=x
  ·subst hx
   simp [QQ,hi]
  ·rw [getD_set_ne true hx]
   have:(x != i)=true:=by simpa using fun e=>hx e.symm
   rw [this]; simp
 rw [e,h,List.filter_append,List.filter_cons]
 simp only [bne_self_eq_false,WP,if_false]
 rw [Xj.2 (fun x hx=>by have:=h3 x hx i (by simp); simp; omega),Xj.2 (fun x hx=>by have:=h2.1 x hx; simp; omega)]
theorem zD2{h:Hint}{rid:Nat}{ops:Array Oper}:∀ (l:List Oper) (k:Nat) (cs:List COp),zAA P ren h rid ops l k=some cs→cs.length=l.length∧∀ i o,l[i]?=some o→∃ c,cs[i]?=some c∧cOp P ren h rid ops (k+i) o=some c
 | [],k,cs,hc=>by cases hc; exact ⟨rfl,by simp⟩
 | o::l,k,cs,hc=>by
  simp only [zAA,Wb,Wa,Option.pure_def,Wg] at hc
  obtain ⟨c,h1,rest,h2,rfl⟩:=hc
  obtain ⟨q1,q2⟩:=zD2 l (k+1) rest h2
  refine ⟨by simp [q1],fun i o' ho'=>?_⟩
  cases i with
  | zero=>simp at ho'; subst ho'; exact ⟨c,rfl,h1⟩
  | succ i=>
   obtain ⟨c',g1,g2⟩:=q2 i o' (by simpa using ho')
   exact ⟨c',by simpa using g1,by rw [show k+(i+1)=k+1+i by omega]; exact g2⟩
theorem zHl{rt:Option Nat}(before:Array Nat)(cs:List COp)(b:Bool)(i:Nat)(x:COp × Fl)(h:(zg5 rt before cs b)[i]?=some x):cs[i]?=some x.1:=by
 unfold zg5 at h
 rw [List.getElem?_map,List.getElem?_zipIdx] at h
 cases hc:cs[i]? with
 | none=>simp [hc] at h
 | some c=>simp [hc] at h; rw [← h]
theorem zIK{rt:Option Nat}(before:Array Nat)(cs:List COp)(b:Bool):(zg5 rt before cs b).length=cs.length:=by simp [zg5]
theorem zAM{rt:Option Nat}(before:Array Nat)(cs:List COp):∃ b,zdQ rt before cs=zg5 rt before cs b:=by
 unfold zdQ
 simp only
 split
 ·exact ⟨true,rfl⟩
 ·exact ⟨false,rfl⟩
theorem zJD{rt:Option Nat}(before:Array Nat)(cs:List COp)(i:Nat)(x:COp × Fl)(h:(zdQ rt before cs)[i]?=some x):cs[i]?=some x.1:=by
 obtain ⟨b,e⟩:=zAM before cs
 rw [e] at h
 exact zHl before cs b i x h
theorem zJO{rt:Option Nat}(before:Array Nat)(cs:List COp):(zdQ rt before cs).length=cs.length:=by
 obtain ⟨b,e⟩:=zAM before cs
 rw [e,zIK]
theorem zVu(hcb:zhB P ren cb){h:Hint}{rid:Nat}{ops:Array Oper}{cs:List COp}(hc:zAA P ren h rid ops ops.toList 0=some cs)(he:zAc ops=true)(hp:zB0 (Region.before ops) (zdQ (h.rt.lookup rid) (Region.before ops) cs)=true){Q:Exit→Act→World→Prop}{σ':St} :
  ∀ (fuel:Nat) (listed:Array Bool) {σ:St} {a:Act} {w:World} {ω:Nat→Ow} {μ:Nat→Nat},listed.size=ops.size→(∀ i j,listed.getD i false=true→((Region.before ops).getD i 0).testBit j=true→listed.getD j false=true)→(unl ops listed).length=fuel →
   Rel ren we ωe U O σ a w ω μ→zpZ cb nb (zdQ (h.rt.lookup rid) (Region.before ops) cs) (unl ops listed) σ=some σ'→Post ren we ωe U O nb μ σ' (Q .normal)→wpAny P .any ops Q fuel listed a w:=by
 obtain ⟨hlen,hget⟩:=zD2 _ _ _ hc
 intro fuel
 induction fuel with
 | zero=>
  intro listed σ a w ω μ hsz hdown hl R hs hQ
  have hnil:unl ops listed=[]:=List.length_eq_zero_iff.1 hl
  rw [hnil] at hs
  cases hs
  refine ⟨?_,hQ _ _ _ _ R (fun _ _=>rfl)⟩
  rw [List.eq_nil_iff_forall_not_mem]
  intro j hj
  obtain ⟨h1,o,h2,_⟩:=mem_ready.1 hj
  have:j∈unl ops listed:=zwV.2 ⟨(QA.1 h2).1,h1⟩
  rw [hnil] at this; cases this
 | succ fuel ih=>
  intro listed σ a w ω μ hsz hdown hl R hs hQ
  have lst:∀ j,j<ops.size→listed.getD j true=true→listed.getD j false=true:=fun j hj h=>by
   rw [QQ,QS (by omega)] at h ⊢; exact h
  have unlst:∀ j,listed.getD j true=false→listed.getD j false=true→False:=fun j h1 h2=>by
   rcases Xn j listed.size with h' | h'
   ·rw [QQ,QS h'] at h1 h2; simp at h1 h2; rw [h1] at h2; cases h2
   ·rw [QQ,WT h'] at h2; cases h2
  refine ⟨fun hr=>?_,fun i hi=>?_⟩
  ·exfalso
   cases hu:unl ops listed with
   | nil=>rw [hu] at hl; cases hl
   | cons i rest=>
    have hm:i∈unl ops listed:=by rw [hu]; simp
    obtain ⟨m1,m2⟩:=zwV.1 hm
    have:i∈Region.ready .any ops listed:=by
     refine mem_ready.2 ⟨m2,ops[i],QS m1,fun e hee hb=>?_⟩
     have hback:e.on<i:=by
      have:=QO.1 he (ops[i],i) (by rw [List.mem_zipIdx_iff_getElem?]; simp [m1])
      have:=Array.all_eq_true_iff_forall_mem.1 this e hee
      simpa [hb] using this
     refine lst _ (by omega) ?_
     cases hx:listed.getD e.on true with
     | true=>rfl
     | false=>
      exfalso
      have hm2:e.on∈unl ops listed:=zwV.2 ⟨by omega,hx⟩
      have hso:=zyc ops listed
      rw [hu] at hm2 hso
      rw [Xu] at hso
      rcases List.mem_cons.1 hm2 with h | h
      ·omega
      ·have:=hso.1 _ h; omega
    rw [hr] at this; cases this
  ·obtain ⟨m2,o,ho,hall⟩:=mem_ready.1 hi
   have m1:i<ops.size:=(QA.1 ho).1
   obtain ⟨l1,l2,hu⟩:=List.append_of_mem (zwV.2 ⟨m1,m2⟩)
   have hbefore:∀ j,((Region.before ops).getD i 0).testBit j=true→listed.getD j false=true:=by
    intro j hj
    obtain ⟨o',ho',e,h1,h2,h3⟩:=zMt ops i j hj
    rw [ho] at ho'; cases ho'
    rcases h3 with rfl | h3
    ·exact hall e h1 h2
    ·exact hdown _ _ (hall e h1 h2) h3
   have hso:=zyc ops listed
   rw [hu,Xr] at hso
   rw [hu] at hs
   have hs':=zP9 l1 σ (fun j hj a b hja hib=>by
    have hji:j<i:=hso.2.2 j hj i (by simp)
    have hil:i<(zdQ (h.rt.lookup rid) (Region.before ops) cs).length:=(Wi.1 hib).1
    have:=QO.1 hp i (Xp.2 hil)
    have:=QO.1 this j (Xp.2 hji)
    rw [Xb] at this
    rcases this with h | h
    ·exfalso
     have hm:j∈unl ops listed:=by rw [hu]; simp [hj]
     exact unlst j (zwV.1 hm).2 (hbefore j h)
    ·rw [hja,hib] at h; exact h) hs
   rw [znz] at hs'
   obtain ⟨c,q,σ1,g1,g2,g3,g4⟩:=hs'
   have hci:=zJD _ _ _ _ g1
   obtain ⟨c',hc1,hc2⟩:=hget i o (by simpa using ho)
   rw [hci] at hc1
   cases hc1
   rw [Nat.zero_add] at hc2
   unfold wpOp
   simp only [ho]
   refine zI2 R hcb hc2 g2 (fun a' w' ω' μ' R' hm=>?_)
   have hset:=zTO (ops:=ops) (listed:=listed) (by omega) hu
   refine ih (listed.setIfInBounds i true) (by simpa using hsz) (fun i' j hi' hj=>?_) ?_ R' (by rw [hset]; exact g4) (hQ.at hm)
   ·by_cases hii:i=i'
    ·subst hii; exact getD_set_true (hbefore j hj)
    ·rw [getD_set_ne false hii] at hi'
     exact getD_set_true (hdown i' j hi' hj)
   ·rw [hset]
    rw [hu] at hl
    simp at hl ⊢
    omega
theorem zVs(hm:P.follows .mixedOrders=true)(cb:CB)(hcb:zhB P ren cb):zF5 P ren cb:=by
 intro h id ops cs hc hp nb we ωe U O σ σ' a w ω μ R hs Q hQ
 rw [Wh] at hp
 refine wp_region_any hm ?_
 have R':=(R.sameHeap (w':={ w with drawn:=w.drawn+1 }) rfl rfl rfl rfl).2
 have e:unl ops (Array.replicate ops.size false)=Wy ops.size:=by
  unfold unl
  rw [Xj]
  intro i hi
  have hi:=Xp.1 hi
  simp [QQ,hi]
 have hlen:(zdQ (h.rt.lookup id) (Region.before ops) cs).length=ops.size:=by rw [zJO,(zD2 _ _ _ hc).1]; simp
 refine zVu hcb hc hp.1 hp.2 ops.size _ (by simp) (fun i j hi=>?_) (by rw [e]; simp) R' ?_ hQ
 ·exfalso
  rw [QQ,Array.getElem?_replicate] at hi
  split at hi <;> simp at hi
 ·rw [e,List.range_eq_range',← hlen,← zDs _ _ 0 σ (fun i=>by rw [Nat.zero_add])]
  exact hs
end
end
section
variable {ren:Rn} {P:Program} {w:World}
def zlz:Nat→Nat→Prop:=fun _ _=>False
theorem zNo:wr zlz (fun _=>Ow.no)=zlz:=by
 funext k o
 simp [wr,zlz]
theorem zQG(hgv:GV ren w zlz){args:List V}{us:List Value}(hl:args.length=us.length)(h:∀ (i:Nat) (v:V) (u:Value),args[i]?=some v→us[i]?=some u→RepP ren w zlz v u) :
  Rel ren w (fun _=>Ow.no) zlz No ⟨args,([]:Bor).map toB⟩ ⟨us.toArray,[]⟩ w (fun _=>Ow.no) (fun _=>0):=by
 refine ⟨rfl,by simp [hl],fun i v hv=>?_,fun id p cs hb=>by simp at hb,fun id cs hb=>by simp at hb,fun id es hb=>by simp at hb,Kept.refl _ _,fun k hk=>absurd rfl hk,fun k o h=>h.elim,fun k o u h1 h2=>⟨h1,h2⟩,fun k=>Nat.le_refl _,by rw [zNo]; exact hgv⟩
 have hlt:i<us.length:=by rw [← hl]; exact (Wi.1 hv).1
 have e:(us.toArray).getD i undef=us[i]:=by simp [hlt]
 show Rep ren _ _ _ ((us.toArray).getD i undef)
 rw [e]
 refine .pure ?_
 show RepP ren w (wr zlz (fun _=>Ow.no)) v us[i]
 rw [zNo]
 exact h i v _ hv (Wc hlt)
theorem zNR(hgv:GV ren w zlz){cb:CB}(hcb:zhB P ren cb){f:FuncId}{g:Nat}(hf:ren f=some g){args:List V}{us:List Value}(hl:args.length=us.length)(h:∀ (i:Nat) (v:V) (u:Value),args[i]?=some v→us[i]?=some u→RepP ren w zlz v u)
  {b:Bool} {bor':Bor} (hr:cb g args []=some (.sc (.bool b),bor')):Calls P f us.toArray w fun e w'=>e=.returned (.bool b)∧Kept No w w':=by
 obtain ⟨_,hp⟩:=hcb _ _ _ _ _ hr f hf
 refine (hp w us zlz No (fun _=>Ow.no) (fun _=>0) (zQG hgv hl h)).mono ?_
 rintro e w' ⟨u,ω',μ',rfl,R,_⟩
 have:=(R.ts 0 _ rfl).sc_eq.1
 refine ⟨?_,R.kp⟩
 have hu:u=.bool b:=by simpa using this
 rw [hu]
end
end Go.Proofs.YtgmhijonllockaaGreatDoor
