/- Part 7 of the proof of TxSpoilt: an abstract machine over plain values, its soundness, and the functions of the program on plain values. -/
import Derived.Test.YtoeobffjdbdpgaaMTxSpoilt6
namespace Go.Proofs.Ytoeobffjdbdpgaa
set_option linter.unusedVariables false
set_option linter.unusedSimpArgs false
open Bool renaming false_eq_true->WO,and_eq_true->Wg,not_eq_true'->Q9,or_eq_true->Xc,false_and->Xh,not_true->Xi,eq_iff_iff->Xo
open Option renaming bind_eq_some_iff->Wa,bind_eq_bind->Wb,map_eq_some_iff->Wj,bind_some->QS,getD_some->Xk
open List renaming mem_append->QC,all_eq_true->QN,getElem?_eq_none->Q2,getElem?_set_ne->WC,getElem?_eq_some_iff->Wh,contains_iff_mem->Xa,ext_getElem?->Xb,mem_flatMap->QZ,getElem?_eq_getElem->Wc,getElem?_set_self->WD,mem_filterMap->QO,mem_append_left->Xd,mem_of_find?_eq_some->Xe,getElem_mem->W1,mem_cons->Q8,filterMap_cons->Xf,filter_eq_self->Xg,getD_eq_getElem?_getD->Ws,isEmpty_iff->Xj,flatMap_eq_nil_iff->Xl,mem_map->Xn,find?_some->Xp,mem_append_right->Q6,mem_range->Xq,getElem?_of_mem->Xr,mem_of_mem_take->WU,pairwise_append->Xs,getElem?_take->Wn,getElem?_drop->Wp,pairwise_cons->Xt,map->Xu,range->Wy
open _root_.Array renaming getD_eq_getD_getElem?->QP,getElem?_eq_getElem->QR,getElem?_eq_some_iff->Qz,getElem?_eq_none->WS,foldl_toList->WA
open Option.some renaming injEq->Wf
open Nat renaming eq_of_beq_eq_true->Wd,lt_or_ge->Xm
section
variable {cb:CB} {nb:Nat} {σ σ' σ1:St}
def Wo(o:COp):List Nat:=Wk o.k o.dst
theorem zbb{g:Option (Nat × Bool)}(h:∀ j w,g=some (j,w)→σ'.t[j]?=σ.t[j]?):zbB σ' g=zbB σ g:=by
 cases g with
 | none=>rfl
 | some jw=>obtain ⟨j,w⟩:=jw; simp only [zbB,h j w rfl]
theorem zbz{o:COp}{j:Nat}{w:Bool}(h:o.guard=some (j,w)):j∈yY o:=by simp [yY,h]
theorem zdY{o:COp}{j:Nat}(h:j∈zF o.k):j∈yY o:=by simp [yY,h]
theorem z6(o:COp)(hl:σ'.t.length=σ.t.length)(hb:σ'.b=σ.b)(hr:∀ t∈yY o,σ'.t[t]?=σ.t[t]?)(h:yz cb nb σ o=some σ1) :
  ∃ σ1',yz cb nb σ' o=some σ1'∧Over (Wo o) σ σ1 σ' σ1':=by
 unfold yz at h ⊢
 rw [zbb (fun j w hg=>hr j (zbz hg))]
 split at h
 ·exact zIi o.k hl hb (fun t ht=>hr t (zdY ht)) h
 ·cases h
  exact ⟨_,rfl,zcl _ hl hb yJ (fun i hi hd=>hr i (zdY (zAc (ziO hi hd))))⟩
 ·cases h
def pv(σ:St)(pin:Bool):K→Option V
 | .move x _=>if pin then none else some (x.get σ).dem
 | k=>xt σ k
theorem zCD{k:K}(hp:yI k=true)(σ:St)(d:Option Nat)(pin:Bool):yj cb nb σ d pin k=(pv σ pin k).map (fun v=>σ.put d v):=by
 cases k <;> simp [yI] at hp <;> first | rfl | (subst hp; cases pin <;> rfl)
theorem zLb{k:K}(hp:yI k=true)(pin:Bool)(hr:∀ t∈zF k,σ'.t[t]?=σ.t[t]?):pv σ' pin k=pv σ pin k:=by
 cases k with
 | move x take=>simp only [pv,zm (s:=x) hr]
 | _=>exact zz7 _ hr (.inr hp)
theorem zp5(o:COp)(hp:yI o.k=true)(hr:∀ t∈yY o,σ'.t[t]?=σ.t[t]?)(h:yz cb nb σ o=some σ1):∃ v,σ1=σ.put o.dst v∧yz cb nb σ' o=some (σ'.put o.dst v):=by
 unfold yz at h ⊢
 rw [zbb (fun j w hg=>hr j (zbz hg))]
 split at h
 ·rw [zCD hp] at h ⊢
  rw [zLb hp _ (fun t ht=>hr t (zdY ht))]
  rw [Wj] at h
  obtain ⟨v,h1,rfl⟩:=h
  exact ⟨v,rfl,by rw [h1]; rfl⟩
 ·cases h; exact ⟨_,rfl,rfl⟩
 ·cases h
theorem zv9{k:K}(h:yI k=true):zaz k=[]:=by
 cases k <;> simp [yI] at h <;> first | rfl | (subst h; rfl)
theorem zBH{σ σ1:St}{d:Option Nat}{v:V}(h:σ.putR nb d false v=some σ1)(hv:∀ p cs,v≠.bx p cs):σ1.b=σ.b:=by
 cases v with
 | bx p cs=>exact absurd rfl (hv p cs)
 | fr sz es=>simp only [St.putR,St.putG,Xh,WO,if_false] at h; cases h; exact xW _ _ _
 | gs sz es=>simp only [St.putR] at h; cases h; exact xW _ _ _
 | _=>simp only [St.putR] at h; cases h; exact xW _ _ _
theorem zqV{σ:St}:∀ (ss:List (Src × Nat)) (b:List B),(∀ s∈ss,∀ id,zaE (s.1.get σ)=some id→z8 b id=b)→zx σ ss b=b
 | [],b,h=>rfl
 | s::ss,b,h=>by
  have ih:=zqV ss b (fun s' hs'=>h s' (by simp [hs']))
  unfold zx
  split
  ·exact ih
  ·cases ho:zaE (s.1.get σ) with
   | none=>exact ih
   | some id=>simp only [h s (by simp) id ho]; exact ih
theorem zJT{b:List B}{id:Nat}(h:zKE b[id]?=true):z8 b id=b:=by
 unfold z8
 cases hb:b[id]? with
 | none=>rfl
 | some x=>
  cases x with
  | fz cs=>rfl
  | gone=>rfl
  | live p cs=>rw [hb] at h; simp [zKE] at h
  | mp es=>rfl
  | dead n=>rfl
theorem zz3(b:List B)(n:Nat)(acc:List Nat):zeQ b n [] acc=acc:=by cases n <;> rfl
theorem zEj{s:Src × Nat}(hm:s.2<2):zsw s=none:=by
 unfold zsw
 split
 ·rw [if_neg (by omega)]
 ·rfl
theorem zz4{σ:St}{s:Src × Nat}(hm:s.2<2)(h:ziU σ.b (s.1.get σ)=true){v:V}(hv:zb1 σ s=some v):yO v=[]:=by
 have hl:znI s.2 (s.1.get σ)=none:=by unfold znI; rw [if_neg (by omega)]
 rw [zb1,zEj hm] at hv
 simp only [zvk,hl] at hv
 cases hx:s.1.get σ with
 | own id off len sz=>
  rw [hx] at hv
  simp only [zbs] at hv
  cases hc:((σ.b[id]?).getD .gone).cs? with
  | none=>rw [hc] at hv; cases hv
  | some cs=>rw [hc] at hv; cases hv; rfl
 | ptr id off=>rw [hx] at h; simp [ziU] at h
 | st cs=>rw [hx] at h; simp [ziU] at h
 | mp id=>rw [hx] at h; simp [ziU] at h
 | fn f caps=>
  rw [hx] at h hv
  simp only [ziU,Xj] at h
  subst h
  simp [zbs] at hv
  subst hv; rfl
 | _=>
  rw [hx] at hv
  simp only [zbs] at hv
  first
   | (cases hv; rfl)
   | (simp [V.plain] at hv; subst hv; rfl)
   | (simp [V.plain] at hv)
theorem zAU{dst:Option Nat}{agg:Bool}{n:Nat}{a:Src}{take pin:Bool}(hl:(agg||!take)=true)(hg:a.get σ'=a.get σ)(hb:∀ id off,a.get σ=.ptr id off→σ'.b[id]?=σ.b[id]?)(h:yj cb nb σ dst pin (.load agg n a take)=some σ1):∃ v,σ1=σ.put dst v∧yj cb nb σ' dst pin (.load agg n a take)=some (σ'.put dst v):=by
 simp only [yj,hg] at h ⊢
 cases hx:a.get σ with
 | ptr id off=>
  rw [hx] at h
  have hb:=hb id off hx
  simp only [hb]
  simp only at h
  cases hbb:σ.b[id]? with
  | none=>rw [hbb] at h; cases h
  | some x=>
   rw [hbb] at h
   cases x with
   | live p cs=>
    simp only at h ⊢
    cases agg with
    | true=>
     simp only [if_true] at h ⊢
     split at h
     ·rename_i hle
      simp only [hle,if_true]
      cases p with
      | true=>simp only [if_true] at h ⊢; cases h; exact ⟨_,rfl,rfl⟩
      | false=>
       cases take with
       | true=>
        simp only [WO,if_false,if_true,Wb,Wa,Wf] at h ⊢
        obtain ⟨vs,h1,rfl⟩:=h
        exact ⟨_,rfl,⟨vs,h1,rfl⟩⟩
       | false=>
        simp only [WO,if_false,Wb,Wa,Wf] at h ⊢
        obtain ⟨vs,h1,rfl⟩:=h
        exact ⟨_,rfl,⟨vs,h1,rfl⟩⟩
     ·cases h
    | false=>
     have ht:take=false:=by simpa using hl
     subst ht
     simp only [WO,if_false] at h ⊢
     cases hv:cs[off]? with
     | none=>rw [hv] at h; cases h
     | some v=>rw [hv] at h; simp only at h ⊢; cases h; exact ⟨_,rfl,rfl⟩
   | fz cs=>
    simp only at h ⊢
    cases agg with
    | true=>
     simp only [if_true] at h ⊢
     split at h
     ·rename_i hle
      simp only [hle,if_true]
      cases h; exact ⟨_,rfl,rfl⟩
     ·cases h
    | false=>
     simp only [WO,if_false] at h ⊢
     cases hv:cs[off]? with
     | none=>rw [hv] at h; cases h
     | some v=>rw [hv] at h; simp only at h ⊢; cases h; exact ⟨_,rfl,rfl⟩
   | _=>cases h
 | fp m cs=>
  rw [hx] at h
  simp only at h ⊢
  cases agg with
  | true=>
   simp only [if_true] at h ⊢
   split at h
   ·rename_i hle
    simp only [hle,if_true]
    cases h; exact ⟨_,rfl,rfl⟩
   ·cases h
  | false=>
   simp only [WO,if_false] at h ⊢
   cases hv:cs[0]? with
   | none=>rw [hv] at h; cases h
   | some v=>rw [hv] at h; simp only at h ⊢; cases h; exact ⟨_,rfl,rfl⟩
 | _=>rw [hx] at h; cases h
theorem zKi{dst:Option Nat}{agg:Bool}{n:Nat}{a:Src}{take pin:Bool}(hl:(agg||!take)=true)(h:yj cb nb σ dst pin (.load agg n a take)=some σ1):∃ v,σ1=σ.put dst v:=by
 obtain ⟨v,h,_⟩:=zAU (σ':=σ) hl rfl (fun _ _ _=>rfl) h
 exact ⟨v,h⟩
theorem zCV{o:COp}(h:yz cb nb σ o=some σ1)(hq:zcX σ o σ1=true):σ1.b=σ.b:=by
 unfold yz at h
 unfold zcX at hq
 cases hg:zbB σ o.guard with
 | none=>rw [hg] at h; cases h
 | some g=>
  rw [hg] at h hq
  cases g with
  | false=>simp only at h; cases h; exact xW _ _ _
  | true=>
   simp only at h hq
   have sp:yI o.k=true→σ1.b=σ.b:=by
    intro hp
    rw [zCD hp,Wj] at h
    obtain ⟨v,_,rfl⟩:=h
    exact xW _ _ _
   cases hk:o.k with
   | load agg n x take=>
    rw [hk] at h hq
    obtain ⟨v,rfl⟩:=zKi hq h
    exact xW _ _ _
   | toStr x=>
    rw [hk] at h
    simp only [yj,Wj] at h
    obtain ⟨v,_,rfl⟩:=h
    exact xW _ _ _
   | loadS n x=>
    rw [hk] at h
    simp only [yj,Wb] at h
    repeat' (split at h)
    ·rw [Wa] at h
     obtain ⟨v,_,h⟩:=h
     cases h
     exact xW _ _ _
    all_goals cases h
   | see x=>
    rw [hk] at h
    simp only [yj,Wj] at h
    obtain ⟨v,_,rfl⟩:=h
    exact xW _ _ _
   | cmpB x y=>
    rw [hk] at h
    simp only [yj,Wj] at h
    obtain ⟨v,_,rfl⟩:=h
    exact xW _ _ _
   | sliceA n sz x l hh m=>
    rw [hk] at h
    simp only [yj,Wj] at h
    obtain ⟨v,_,rfl⟩:=h
    exact xW _ _ _
   | move x take=>
    rw [hk] at h
    simp only [yj] at h
    repeat' (split at h)
    ·cases h
    ·cases h; rw [xW,zhM]
    ·cases h; exact xW _ _ _
   | append sz bytes s x=>
    rw [hk] at h hq
    simp only [Wg,Q9] at hq
    obtain ⟨⟨hq,hown⟩,hcut⟩:=hq
    simp only [yj,hq,Xh,WO,if_false,St.putG] at h
    split at h
    ·split at h
     ·cases h; rw [xW,zhM]
     ·cases h
    ·split at h
     ·cases h; rw [xW,zhM]
     ·cases h
    ·rename_i hs _
     rw [hs] at hown
     simp [zaE] at hown
    ·rename_i hs _
     rw [hs] at hcut
     simp [zLd] at hcut
    ·cases h
   | buildSlice sz n z ps=>
    rw [hk] at h hq
    simp only [Q9] at hq
    simp only [yj,hq,Wb,Wa,St.putG,WO,and_false,if_false,Wf] at h
    obtain ⟨_,_,rfl⟩:=h
    exact xW _ _ _
   | makeSlice sz bytes z l c=>
    rw [hk] at h hq
    simp only [Q9] at hq
    simp only [yj,hq,St.putG,WO,if_false] at h
    repeat' (split at h)
    all_goals first
     | (cases h; done)
     | (cases h; exact xW _ _ _)
   | call f xs ys=>
    rw [hk] at h hq
    simp only [Wg,Q9,QN,decide_eq_true_eq,Xj] at hq
    obtain ⟨⟨⟨hpin,hys⟩,hargs⟩,hd⟩:=hq
    subst hys
    simp only [yj,Wb,Wa] at h
    obtain ⟨vs,h1,h2⟩:=h
    unfold zeg at h2
    have hfz:zx σ xs σ.b=σ.b:=zqV xs _ (fun s hs id hid=>by
     have:=(hargs s hs).2
     cases hx:s.1.get σ <;> rw [hx] at this hid <;> simp only [zaE] at hid <;> cases hid
     exact zJT this)
    have hids:zaQ σ.b vs=[]:=by
     unfold zaQ
     have:vs.flatMap yO=[]:=by
      rw [Xl]
      intro v hv
      obtain ⟨i,hi⟩:=Xr hv
      have hlt:i<xs.length:=by rw [← zx9 h1]; exact (Wh.1 hi).1
      obtain ⟨v',g1,g2⟩:=zAI h1 i _ (Wc hlt)
      rw [hi] at g1; cases g1
      exact zz4 (hargs _ (W1 hlt)).1 (hargs _ (W1 hlt)).2 g2
     rw [this,zz3]
    simp only [hfz,hids,zeP,Wb,QS] at h2
    simp only [Wa] at h2
    obtain ⟨⟨r,bor'⟩,_,h3⟩:=h2
    simp only at h3
    split at h3
    ·have e:zaR (fun k=>(([]:List Nat)++(Xu (nb+·) []).take (bor'.length-([]:List Nat).length)).getD k 0) (([]:List Nat)++(Xu (nb+·) []).take (bor'.length-([]:List Nat).length)) bor' σ.b=σ.b:=by simp [zaR]
     rw [e,hpin] at h3
     generalize zoW _ r=r' at h3
     cases hdd:o.dst with
     | none=>rw [hdd] at hd; cases hd
     | some d=>
      rw [hdd] at hd h3
      have:=zBH h3 (fun p cs hbx=>by
       subst hbx
       simp only [St.putR,St.newB] at h3
       split at h3
       ·cases h3
        simp only [St.put,St.setB] at hd
        split at hd
        ·rename_i v hv
         rw [List.getElem?_set] at hv
         simp only [if_true] at hv
         split at hv
         ·cases hv; simp [ztX] at hd
         ·cases hv
        ·cases hd
       ·cases h3)
      exact this
    ·cases h3
   | extract x i=>
    rw [hk] at h hq
    simp only [Wg,Q9] at hq
    obtain ⟨hpin,hq⟩:=hq
    simp only [yj,hpin] at h
    split at h
    ·rename_i vs hvs
     rw [hvs] at hq
     simp only at hq
     split at h
     ·rename_i _ v t hvi
      rw [hvi] at hq
      split at h
      ·split at h
       ·have:=zBH h (fun p cs hbx=>by subst hbx; simp at hq)
        exact this
       ·first
         | (cases h; exact xW _ _ _)
         | (simp only [Xh,WO,if_false] at h; cases h; exact xW _ _ _)
      ·cases h
     ·cases h
    ·cases h
   | mlook kd ok z x y=>
    rw [hk] at h hq
    simp only [yj] at h
    split at h
    ·split at h
     ·split at h
      ·simp only [Wb,Wa,Option.pure_def,Wf] at h
       obtain ⟨r,_,rfl⟩:=h
       exact xW _ _ _
      ·cases h
     ·cases h
    ·cases h
   | lenM x=>
    rw [hk] at h hq
    simp only [yj] at h
    split at h
    ·split at h
     ·cases h; exact xW _ _ _
     ·cases h
    ·cases h
   | _=>
    rw [hk] at hq
    exact sp (by rw [hk]; exact hq)
theorem zz5{o:COp}{σ1 σ1':St}(hb:σ'.b=σ.b∨yI o.k=true)(hr:∀ t∈yY o,σ'.t[t]?=σ.t[t]?)(hd:∀ d,o.dst=some d→σ1'.t[d]?=σ1.t[d]?):zcX σ' o σ1'=zcX σ o σ1:=by
 unfold zcX
 rw [zbb (fun j w hg=>hr j (zbz hg))]
 have hrk:∀ t∈zF o.k,σ'.t[t]?=σ.t[t]?:=fun t ht=>hr t (zdY ht)
 cases hk:o.k with
 | call f xs ys=>
  rw [hk] at hrk hb
  have hb:σ'.b=σ.b:=hb.resolve_right (by simp [yI])
  rw [hb]
  have e:(xs.all fun s=>decide (s.2<2)&&ziU σ.b (s.1.get σ'))=(xs.all fun s=>decide (s.2<2)&&ziU σ.b (s.1.get σ)):=by
   have hc:∀ s∈xs,s.1.get σ'=s.1.get σ:=fun s hs=>zm (fun t ht=>hrk t (QZ.2 ⟨s,hs,ht⟩))
   rw [Xo,QN,QN]
   constructor
   ·intro hh c hcc; rw [← hc c hcc]; exact hh c hcc
   ·intro hh c hcc; rw [hc c hcc]; exact hh c hcc
  simp only [e]
  cases hds:o.dst with
  | none=>rfl
  | some d=>simp only [hd d hds]
 | extract x i=>
  rw [hk] at hrk
  simp only [zm (s:=x) hrk]
 | append sz bytes s x=>
  rw [hk] at hrk
  simp only [zF] at hrk
  simp only [zm (s:=s) (fun t ht=>hrk t (by simp [ht]))]
 | _=>rfl
theorem zg2{a b:List Nat}(h:zgE a b=true):∀ x∈a,x ∉ b:=by
 intro x hx hb
 have:=QN.1 h x hx
 simp [hb] at this
structure Side (A B:COp) (sa sb:Bool) (σ σ1 σ2 σ1':St):Prop where
 fA:∀ k,k ∉ Wo A→σ1.t[k]?=σ.t[k]?
 fB:∀ k,k ∉ Wo B→σ1'.t[k]?=σ.t[k]?
 dB:∀ d,B.dst=some d→σ1'.t[d]?=σ2.t[d]?
 dA:∀ d,A.dst=some d→σ2.t[d]?=σ1.t[d]?
 bB:σ.b=σ1.b∨yI B.k=true∨zaB B.k=true∨sb=true
 bA:σ1'.b=σ.b∨yI A.k=true∨zaB A.k=true∨sa=true
theorem zMY{A B:COp}{σ σ1 σ2:St}(ha:yz cb nb σ A=some σ1)(hb:yz cb nb σ1 B=some σ2)(hs:zoA A B=true)(hq:yI A.k=true∨yI B.k=true∨(zcX σ A σ1=true∧zcX σ1 B σ2=true)) :
  ∃ σ1',yz cb nb σ B=some σ1'∧yz cb nb σ1' A=some σ2∧∀ sa sb,Side A B sa sb σ σ1 σ2 σ1':=by
 simp only [zoA,Wg] at hs
 have s1:=zg2 hs.1
 have s2:=zg2 hs.2
 have wa:∀ k∈Wo A,k ∉ yY B∧k ∉ Wo B:=fun k hk=>by
  have:=s1 k hk
  simp only [QC,not_or] at this
  exact ⟨this.1.1,fun hh=>by simp only [Wo,Wk,QC] at hh; exact hh.elim this.1.2 this.2⟩
 have wb:∀ k∈Wo B,k ∉ yY A∧k ∉ Wo A:=fun k hk=>by
  have:=s2 k hk
  simp only [QC,not_or] at this
  exact ⟨this.1.1,fun hh=>by simp only [Wo,Wk,QC] at hh; exact hh.elim this.1.2 this.2⟩
 obtain ⟨_,_,oa⟩:=z6 A rfl rfl (fun _ _=>rfl) ha
 obtain ⟨_,_,ob⟩:=z6 B rfl rfl (fun _ _=>rfl) hb
 have rB:∀ t∈yY B,σ.t[t]?=σ1.t[t]?:=fun t ht=>(oa.fr t (fun hh=>(wa t hh).1 ht)).symm
 have key:∃ σ1',yz cb nb σ B=some σ1'∧(∀ k∈Wo B,σ1'.t[k]?=σ2.t[k]?)∧(∀ k,k ∉ Wo B→σ1'.t[k]?=σ.t[k]?)∧σ1'.t.length=σ.t.length ∧
   ∃ σ2',yz cb nb σ1' A=some σ2'∧(∀ k∈Wo A,σ2'.t[k]?=σ1.t[k]?)∧(∀ k,k ∉ Wo A→σ2'.t[k]?=σ1'.t[k]?)∧σ2'.b=σ2.b∧(σ.b=σ1.b∨yI B.k=true)∧(σ1'.b=σ.b∨yI A.k=true):=by
  have viaB:∀ σ1',yz cb nb σ B=some σ1'→(∀ k,k ∉ Wo B→σ1'.t[k]?=σ.t[k]?)→∀ t∈yY A,σ1'.t[t]?=σ.t[t]?:=fun σ1' _ h t ht=>h t (fun hh=>(wb t hh).1 ht)
  by_cases hbp:yI B.k=true
  ·obtain ⟨v,e1,e2⟩:=zp5 B hbp rB hb
   have hWB:∀ k,B.dst=some k→k∈Wo B:=fun k hk=>yJ k hk
   have hl:(σ.put B.dst v).t.length=σ.t.length:=zjp _ _ _
   have off:∀ k,k ∉ Wo B→(σ.put B.dst v).t[k]?=σ.t[k]?:=fun k hk=>by rw [y4,if_neg (fun h=>hk (hWB k h.1))]
   refine ⟨_,e2,fun k hk=>?_,off,hl,?_⟩
   ·have hkd:B.dst=some k:=by
     simp only [Wo,Wk,zv9 hbp,List.nil_append] at hk
     cases hd:B.dst with
     | none=>rw [hd] at hk; simp at hk
     | some d=>rw [hd] at hk; simp at hk; rw [hk]
    rw [e1,y4,y4,oa.len]
    by_cases hlt:k<σ.t.length
    ·rw [if_pos ⟨hkd,hlt⟩,if_pos ⟨hkd,hlt⟩]
    ·rw [if_neg (fun h=>hlt h.2),if_neg (fun h=>hlt h.2),Q2 (by omega),Q2 (by rw [oa.len]; omega)]
   ·obtain ⟨σ2',f1,f2⟩:=z6 A (σ':=σ.put B.dst v) hl (xW _ _ _) (viaB _ e2 off) ha
    exact ⟨σ2',f1,f2.on,f2.off,by rw [f2.b,e1,xW],.inr hbp,.inl (xW _ _ _)⟩
  ·by_cases hap:yI A.k=true
   ·obtain ⟨v,e1,_⟩:=zp5 A hap (fun _ _=>rfl) ha
    have hb1:σ.b=σ1.b:=by rw [e1,xW]
    obtain ⟨σ1',f1,f2⟩:=z6 B (σ':=σ) oa.len.symm hb1 rB hb
    have hl:σ1'.t.length=σ.t.length:=f2.len'
    refine ⟨σ1',f1,f2.on,f2.off,hl,?_⟩
    obtain ⟨v',e3,e4⟩:=zp5 A (σ':=σ1') hap (viaB _ f1 f2.off) ha
    refine ⟨_,e4,fun k hk=>?_,fun k hk=>?_,by rw [xW,f2.b],.inl hb1,.inr hap⟩
    ·have hkd:A.dst=some k:=by
      simp only [Wo,Wk,zv9 hap,List.nil_append] at hk
      cases hd:A.dst with
      | none=>rw [hd] at hk; simp at hk
      | some d=>rw [hd] at hk; simp at hk; rw [hk]
     rw [e3,y4,y4,hl]
     by_cases hlt:k<σ.t.length
     ·rw [if_pos ⟨hkd,hlt⟩,if_pos ⟨hkd,hlt⟩]
     ·rw [if_neg (fun h=>hlt h.2),if_neg (fun h=>hlt h.2),Q2 (by omega),Q2 (by omega)]
    ·rw [y4,if_neg (fun h=>hk (yJ k h.1))]
   ·have hq:zcX σ A σ1=true∧zcX σ1 B σ2=true:=by
     rcases hq with h | h | h
     ·exact absurd h hap
     ·exact absurd h hbp
     ·exact h
    have hb1:=zCV ha hq.1
    have hb2:=zCV hb hq.2
    obtain ⟨σ1',f1,f2⟩:=z6 B (σ':=σ) oa.len.symm hb1.symm rB hb
    refine ⟨σ1',f1,f2.on,f2.off,f2.len',?_⟩
    obtain ⟨σ2',g1,g2⟩:=z6 A (σ':=σ1') f2.len' (by rw [f2.b,hb2,hb1]) (viaB _ f1 f2.off) ha
    exact ⟨σ2',g1,g2.on,g2.off,by rw [g2.b,hb2],.inl hb1.symm,.inl (by rw [f2.b,hb2,hb1])⟩
 obtain ⟨σ1',k1,k2,k3,k4,σ2',k5,k6,k7,k8,k9,k10⟩:=key
 have e:σ2'=σ2:=by
  have et:σ2'.t=σ2.t:=by
   apply Xb
   intro k
   by_cases hA:k∈Wo A
   ·rw [k6 k hA,ob.fr k (wa k hA).2]
   ·rw [k7 k hA]
    by_cases hB:k∈Wo B
    ·rw [k2 k hB]
    ·rw [k3 k hB,ob.fr k hB,oa.fr k hA]
  cases σ2'; cases σ2; simp only at et k8; rw [et,k8]
 subst e
 exact ⟨σ1',k1,k5,fun sa sb=>⟨oa.fr,k3,fun d hd=>k2 d (yJ d hd),fun d hd=>k6 d (yJ d hd),k9.imp_right .inl,k10.imp_right .inl⟩⟩
theorem zF8{o:COp}{σ1 σ1':St}(hb:σ'.b=σ.b∨yI o.k=true∨zaB o.k=true)(hr:∀ t∈yY o,σ'.t[t]?=σ.t[t]?)(hd:∀ d,o.dst=some d→σ1'.t[d]?=σ1.t[d]?):zcX σ' o σ1'=zcX σ o σ1:=by
 rcases hb with h | h | h
 ·exact zz5 (.inl h) hr hd
 ·exact zz5 (.inr h) hr hd
 ·unfold zcX
  rw [zbb (fun j w hg=>hr j (zbz hg))]
  cases hk:o.k <;> rw [hk] at h <;> simp [zaB] at h <;> rfl
theorem zGM{o:COp}{id:Nat}(hb:σ'.b=σ.b∨yI o.k=true∨zaB o.k=true)(hr:∀ t∈yY o,σ'.t[t]?=σ.t[t]?):zss nb σ' o id=zss nb σ o id:=by
 unfold zss
 rcases hb with hb | h | h
 rotate_left
 ·simp [h]
 ·simp [h]
 congr 1
 rw [zbb (fun j w hg=>hr j (zbz hg))]
 cases hk:o.k with
 | call f xs ys=>
  have hrk:∀ t∈zF o.k,σ'.t[t]?=σ.t[t]?:=fun t ht=>hr t (zdY ht)
  rw [hk] at hrk
  simp only [zF] at hrk
  have e1:xs.mapM (zb1 σ')=xs.mapM (zb1 σ):=zep xs (fun s hs=>zmf hb (fun t ht=>hrk t (QZ.2 ⟨s,hs,ht⟩)))
  have e2:∀ vs,zbo nb σ' o.dst vs xs ys=zbo nb σ o.dst vs xs ys:=by
   intro vs
   unfold zbo
   rw [zk9 xs _ hrk,hb]
   congr 3
   have hcc:∀ s∈xs,zaE (s.1.get σ')=zaE (s.1.get σ):=fun s hs=>by rw [zm (fun t ht=>hrk t (QZ.2 ⟨s,hs,ht⟩))]
   clear hrk e1 hk
   induction xs with
   | nil=>rfl
   | cons s xs ih=>
    simp only [Xf,hcc s (by simp)]
    rw [ih (fun s hs=>hcc s (by simp [hs]))]
  simp only [e1,e2]
 | _=>rfl
theorem zsL{o:COp}(hb:σ'.b=σ.b∨yI o.k=true∨zaB o.k=true)(hr:∀ t∈yY o,σ'.t[t]?=σ.t[t]?):∀ (w:List Nat),(∀ r∈w,σ'.t[r]?=σ.t[r]?)→znH nb σ' o w=znH nb σ o w
 | [],_=>rfl
 | r::w,h=>by
  simp only [znH,h r (by simp),zsL hb hr w (fun r hr=>h r (by simp [hr]))]
  congr 1
  cases σ.t[r]? with
  | none=>rfl
  | some v=>cases v <;> first | rfl | exact zGM hb hr
theorem zEJ{o:COp}{r:Nat}(hr:∀ t∈yY o,σ'.t[t]?=σ.t[t]?)(h:σ'.t[r]?=σ.t[r]?):znp σ' o r=znp σ o r:=by
 unfold znp
 congr 1
 cases hk:o.k with
 | load agg n x take=>
  cases x with
  | const v=>rfl
  | tmp p=>
   have hp:σ'.t[p]?=σ.t[p]?:=hr p (zdY (by rw [hk]; simp [zF,Src.tmps]))
   simp only [hp,h]
 | _=>rfl
theorem zEy{o:COp}{σ1 σ1':St}(hr:∀ t∈yY o,σ'.t[t]?=σ.t[t]?)(hd:∀ d,o.dst=some d→σ1'.t[d]?=σ1.t[d]?):zsb σ' o σ1'=zsb σ o σ1:=by
 unfold zsb
 rw [zbb (fun j w hg=>hr j (zbz hg))]
 have hrk:∀ t∈zF o.k,σ'.t[t]?=σ.t[t]?:=fun t ht=>hr t (zdY ht)
 cases hk:o.k with
 | call f xs ys=>
  rw [hk] at hrk
  have e:(xs.all fun s=>decide (s.2<2)&&zvq (s.1.get σ'))=(xs.all fun s=>decide (s.2<2)&&zvq (s.1.get σ)):=by
   have hc:∀ s∈xs,s.1.get σ'=s.1.get σ:=fun s hs=>zm (fun t ht=>hrk t (QZ.2 ⟨s,hs,ht⟩))
   rw [Xo,QN,QN]
   constructor
   ·intro hh c hcc; rw [← hc c hcc]; exact hh c hcc
   ·intro hh c hcc; rw [hc c hcc]; exact hh c hcc
  cases hds:o.dst with
  | none=>rfl
  | some d=>simp only [e,hd d hds]
 | _=>rfl
theorem zxI{dst:Option Nat}{vs:List V}{xs:List (Src × Nat)}{ys:List Nat}(hb:σ'.b=σ.b)(hrk:∀ t∈xs.flatMap (fun p=>p.1.tmps),σ'.t[t]?=σ.t[t]?):zbo nb σ' dst vs xs ys=zbo nb σ dst vs xs ys:=by
 unfold zbo
 rw [zk9 xs _ hrk,hb]
 congr 3
 have hcc:∀ s∈xs,zaE (s.1.get σ')=zaE (s.1.get σ):=fun s hs=>by rw [zm (fun t ht=>hrk t (QZ.2 ⟨s,hs,ht⟩))]
 clear hrk
 induction xs with
 | nil=>rfl
 | cons s xs ih=>
  simp only [Xf,hcc s (by simp)]
  rw [ih (fun s hs=>hcc s (by simp [hs]))]
theorem zx6{o:COp}(hb:σ'.b=σ.b∨yI o.k=true∨zaB o.k=true)(hr:∀ t∈yY o,σ'.t[t]?=σ.t[t]?):kOf nb σ' o=kOf nb σ o:=by
 unfold kOf
 rw [zbb (fun j w hg=>hr j (zbz hg))]
 have hrk:∀ t∈zF o.k,σ'.t[t]?=σ.t[t]?:=fun t ht=>hr t (zdY ht)
 cases hk:o.k with
 | call f xs ys=>
  rw [hk] at hrk hb
  simp only [zF] at hrk
  have hb:σ'.b=σ.b:=hb.resolve_right (by simp [yI,zaB])
  have e1:xs.mapM (zb1 σ')=xs.mapM (zb1 σ):=zep xs (fun s hs=>zmf hb (fun t ht=>hrk t (QZ.2 ⟨s,hs,ht⟩)))
  simp only [e1,zxI hb hrk]
 | callv f xs ys=>
  rw [hk] at hrk hb
  simp only [zF] at hrk
  have hb:σ'.b=σ.b:=hb.resolve_right (by simp [yI,zaB])
  have hrk2:∀ t∈xs.flatMap (fun p=>p.1.tmps),σ'.t[t]?=σ.t[t]?:=fun t ht=>hrk t (Q6 _ ht)
  have e1:xs.mapM (zb1 σ')=xs.mapM (zb1 σ):=zep xs (fun s hs=>zmf hb (fun t ht=>hrk2 t (QZ.2 ⟨s,hs,ht⟩)))
  simp only [e1,zxI hb hrk2,zm (s:=f) (fun t ht=>hrk t (Xd _ ht))]
 | loadS n x=>
  rw [hk] at hrk hb
  have hb:σ'.b=σ.b:=hb.resolve_right (by simp [yI,zaB])
  simp only [zm (s:=x) hrk,hb]
 | load agg n x take=>
  rw [hk] at hrk
  simp only [zm (s:=x) hrk]
 | store n x y=>
  rw [hk] at hrk
  simp only [zF] at hrk
  simp only [zm (s:=x) (fun t ht=>hrk t (Xd _ ht))]
 | append sz bytes x y=>
  rw [hk] at hrk
  simp only [zF] at hrk
  simp only [zm (s:=x) (fun t ht=>hrk t (Xd _ ht)),zm (s:=y) (fun t ht=>hrk t (Q6 _ ht))]
 | _=>rfl
theorem zkt{o:COp}{fl:Fl}(hk:kOf nb σ' o=kOf nb σ o)(hw:∀ t∈fl.roots,σ'.t[t]?=σ.t[t]?):zoc nb σ' o fl=zoc nb σ o fl:=by
 unfold zoc
 rw [hk]
 cases kOf nb σ o with
 | none=>rfl
 | some K=>
  simp only
  have e2:fl.w.all (zqo σ' K)=fl.w.all (zqo σ K):=by
   have hc:∀ r∈fl.w,zqo σ' K r=zqo σ K r:=fun r hr=>by
    unfold zqo
    rw [hw r (by simp [Fl.roots,hr])]
   rw [Xo,QN,QN]
   constructor
   ·intro hh c hcc; rw [← hc c hcc]; exact hh c hcc
   ·intro hh c hcc; rw [hc c hcc]; exact hh c hcc
  cases hf:fl.root with
  | none=>simp only [e2]
  | some r=>
   have:zCN σ' r=zCN σ r:=by
    funext id
    unfold zCN
    rw [hw r (by simp [Fl.roots,hf])]
   simp only [this,e2]
theorem zrU{o:COp}{fl:Fl}{σ1 σ1':St}(hb:σ'.b=σ.b∨yI o.k=true∨zaB o.k=true∨(fl.s&&!fl.l)=true)(hr:∀ t∈yY o,σ'.t[t]?=σ.t[t]?)(hw:∀ t∈fl.roots,σ'.t[t]?=σ.t[t]?)(hd:∀ d,o.dst=some d→σ1'.t[d]?=σ1.t[d]?):ze5 nb σ' o fl σ1'=ze5 nb σ o fl σ1:=by
 unfold ze5
 rw [zEy hr hd]
 cases hl:fl.l with
 | true=>
  rw [hl] at hb
  simp only [Xi,Bool.and_false,WO,or_false] at hb
  exact zkt (zx6 hb hr) hw
 | false=>
 simp only [cond_false]
 cases hs:fl.s with
 | true=>rfl
 | false=>
  rw [hs] at hb
  have hb:σ'.b=σ.b∨yI o.k=true∨zaB o.k=true:=by
   rcases hb with h | h | h | h
   ·exact .inl h
   ·exact .inr (.inl h)
   ·exact .inr (.inr h)
   ·cases h
  simp only [cond_false]
  rw [zF8 hb hr hd,zsL hb hr fl.w (fun r h=>hw r (by simp [Fl.roots,h]))]
  congr 2
  cases hf:fl.root with
  | none=>rfl
  | some r=>exact zEJ hr (hw r (by simp [Fl.roots,hf]))
theorem zyz{b:List B}{id k:Nat}(h:k≠id):(z8 b id)[k]?=b[k]?:=by
 unfold z8
 split
 ·rw [WC (fun e=>h e.symm)]
 ·rfl
theorem zvR{σ:St}{k:Nat}:∀ (ss:List (Src × Nat)) (b:List B),k ∉ ss.filterMap (fun s=>zaE (s.1.get σ))→(zx σ ss b)[k]?=b[k]?
 | [],b,h=>rfl
 | s::ss,b,h=>by
  unfold zx
  have h1:k ∉ ss.filterMap (fun s=>zaE (s.1.get σ)):=by
   intro hh; apply h
   rw [QO] at hh ⊢
   obtain ⟨a,q1,q2⟩:=hh
   exact ⟨a,by simp [q1],q2⟩
  rw [zvR ss _ h1]
  split
  ·rfl
  ·cases ho:zaE (s.1.get σ) with
   | none=>rfl
   | some id=>
    refine zyz (fun e=>h ?_)
    rw [QO]
    exact ⟨s,by simp,by rw [ho,e]⟩
theorem zoY{σ σ1:St}{d:Option Nat}{x:B}{f:Nat→V}{k:Nat}(h:σ.newB nb d x f=some σ1)(hk:k ∉ d.toList.map (nb+·)):σ1.b[k]?=σ.b[k]?:=by
 cases d with
 | none=>cases h
 | some d=>
  simp only [St.newB] at h
  split at h
  ·cases h
   simp at hk
   simp only [xW,St.setB]
   rw [WC (fun e=>hk e.symm)]
  ·cases h
theorem zIE{σ σ1:St}{d:Option Nat}{pin:Bool}{sz:Nat}{es:List (List V)}{k:Nat}(h:σ.putG nb d pin sz es=some σ1)(hk:k ∉ d.toList.map (nb+·)):σ1.b[k]?=σ.b[k]?:=by
 unfold St.putG at h
 split at h
 ·exact zoY h hk
 ·cases h; rw [xW]
theorem zH9{σ σ1:St}{d:Option Nat}{pin:Bool}{v:V}{k:Nat}(h:σ.putR nb d pin v=some σ1)(hk:k ∉ d.toList.map (nb+·)):σ1.b[k]?=σ.b[k]?:=by
 unfold St.putR at h
 split at h
 ·split at h
  ·cases h
  ·cases h; rw [xW]
 ·exact zIE h hk
 ·exact zoY h hk
 ·cases h; rw [xW]
theorem zxx(g:Nat→Nat):∀ (ids:List Nat) (bor:Bor) (b:List B) (id:Nat),id ∉ ids→(zaR g ids bor b)[id]?=b[id]?
 | [],bor,b,id,h=>by cases bor <;> rfl
 | i::ids,[],b,id,h=>rfl
 | i::ids,x::bor,b,id,h=>by
  simp only [zaR]
  rw [zxx g ids bor _ id (fun hh=>h (by simp [hh])),WC (fun e=>h (by simp [e]))]
theorem zJD{o:COp}{id:Nat}(h:yz cb nb σ o=some σ1)(ha:zss nb σ o id=true):σ1.b[id]?=σ.b[id]?:=by
 unfold zss at ha
 rw [Xc,Xc] at ha
 rcases ha with (ha | ha) | ha
 ·obtain ⟨v,rfl,_⟩:=zp5 o ha (fun _ _=>rfl) h
  rw [xW]
 ·have:σ1.b=σ.b:=by
   refine zCV h ?_
   unfold yz at h
   unfold zcX
   cases hg:zbB σ o.guard with
   | none=>rw [hg] at h; cases h
   | some g=>
    cases g with
    | false=>rfl
    | true=>cases hk:o.k <;> rw [hk] at ha <;> simp [zaB] at ha <;> simp [ha]
  rw [this]
 ·unfold yz at h
  cases hg:zbB σ o.guard with
  | none=>rw [hg] at h; cases h
  | some g=>
   rw [hg] at h ha
   cases g with
   | false=>simp only at h; cases h; rw [xW]
   | true=>
    simp only at h ha
    cases hk:o.k with
    | call f xs ys=>
     rw [hk] at h ha
     simp only [yj,Wb,Wa] at h
     obtain ⟨vs,h1,h2⟩:=h
     simp only [h1] at ha
     have ha:id ∉ zbo nb σ o.dst vs xs ys:=by
      intro hh
      have:(zbo nb σ o.dst vs xs ys).contains id=true:=Xa.2 hh
      rw [this] at ha; cases ha
     simp only [zbo,QC,not_or] at ha
     obtain ⟨⟨⟨a1,a2⟩,a3⟩,a4⟩:=ha
     unfold zeg at h2
     simp only [Wb,Wa,Prod.exists] at h2
     obtain ⟨bor,_,r,bor',_,h2⟩:=h2
     split at h2
     ·have:=zH9 h2 a4
      rw [this]
      simp only
      rw [zxx _ _ _ _ _ ?_,zvR _ _ a2]
      intro hh
      rw [QC] at hh
      rcases hh with hh | hh
      ·exact a1 hh
      ·exact a3 (WU hh)
     ·cases h2
    | alloc p cs=>
     rw [hk] at h ha
     simp only [yj] at h
     refine zoY h (fun hh=>?_)
     have:(o.dst.toList.map (nb+·)).contains id=true:=Xa.2 hh
     simp only [this] at ha; cases ha
    | box p x=>
     rw [hk] at h ha
     have hn:id ∉ o.dst.toList.map (nb+·):=fun hh=>by
      have:(o.dst.toList.map (nb+·)).contains id=true:=Xa.2 hh
      simp only [this] at ha; cases ha
     simp only [yj] at h
     split at h
     ·split at h
      ·cases h
      ·exact zoY h hn
     ·split at h
      ·exact zoY h hn
      ·cases h
    | _=>rw [hk] at ha; cases ha
theorem zBs{o:COp}(h:yz cb nb σ o=some σ1)(hs:zsb σ o σ1=true):∃ v,σ1=σ.put o.dst v∧∀ σ':St,(∀ t∈yY o,σ'.t[t]?=σ.t[t]?)→yz cb nb σ' o=some (σ'.put o.dst v):=by
 unfold yz at h
 unfold zsb at hs
 cases hg:zbB σ o.guard with
 | none=>rw [hg] at h; cases h
 | some g=>
  rw [hg] at h hs
  cases g with
  | false=>
   simp only at h; cases h
   refine ⟨_,rfl,fun σ' hr=>?_⟩
   unfold yz
   rw [zbb (fun j w hg=>hr j (zbz hg)),hg]
  | true=>
   simp only at h hs
   cases hk:o.k with
   | call f xs ys=>
    cases hds:o.dst with
    | none=>rw [hk,hds] at hs; cases hs
    | some d=>
     rw [hk,hds] at hs
     rw [hk,hds] at h
     simp only [Wg,Q9,QN,decide_eq_true_eq,Xj] at hs
     obtain ⟨⟨⟨hpin,hys⟩,hargs⟩,hd⟩:=hs
     subst hys
     rw [hpin] at h
     simp only [yj,Wb,Wa] at h
     obtain ⟨vs,h1,h2⟩:=h
     have hown:∀ s∈xs,zaE (s.1.get σ)=none:=fun s hs=>by
      have:=(hargs s hs).2
      cases hx:s.1.get σ <;> rw [hx] at this <;> simp [zvq] at this <;> rfl
     have hrefs:vs.flatMap yO=[]:=by
      rw [Xl]
      intro v hv
      obtain ⟨i,hi⟩:=Xr hv
      have hlt:i<xs.length:=by rw [← zx9 h1]; exact (Wh.1 hi).1
      obtain ⟨v',g1,g2⟩:=zAI h1 i _ (Wc hlt)
      rw [hi] at g1; cases g1
      refine zz4 (hargs _ (W1 hlt)).1 ?_ g2
      have:=(hargs _ (W1 hlt)).2
      cases hx:(xs[i]).1.get σ <;> rw [hx] at this <;> simp [zvq] at this <;> simp [ziU,this]
     have gen:∀ (τ:St),(∀ s∈xs,zaE (s.1.get τ)=none)→zeg cb nb τ (some d) false f vs xs []=(cb f (vs.map (zd1 (zW []))) []).bind fun p=>
       if ((p.2.take ([]:List Nat).length).map B.len=([]:Bor).map B.len∧p.2.length=(([]:List Nat)++(([]:List Nat).map (nb+·)).take (p.2.length-([]:List Nat).length)).length∧vs.all (fun a=>(yO a).all ([]:List Nat).contains)∧zBV p.1∧(zj2 p.1).all (fun k=>decide (k<(([]:List Nat)++(([]:List Nat).map (nb+·)).take (p.2.length-([]:List Nat).length)).length))∧p.2.all (B.lend (Wy (([]:List Nat)++(([]:List Nat).map (nb+·)).take (p.2.length-([]:List Nat).length)).length))∧zi6 (p.2.take ([]:List Nat).length) ([]:Bor)∧(p.2.drop ([]:List Nat).length).all B.isRow∧zlf τ.b nb []) then
        St.putR nb τ (some d) false (zoW (fun k=>(([]:List Nat)++(([]:List Nat).map (nb+·)).take (p.2.length-([]:List Nat).length)).getD k 0) p.1)
       else none:=by
      intro τ hτ
      have hfz:zx τ xs τ.b=τ.b:=zqV xs _ (fun s hs id hid=>by rw [hτ s hs] at hid; cases hid)
      have hids:zaQ τ.b vs=[]:=by unfold zaQ; rw [hrefs,zz3]
      unfold zeg
      simp only [hfz,hids,zeP,Wb,QS]
      congr 1
      funext p
      have e:zaR (fun k=>(([]:List Nat)++(Xu (nb+·) []).take (p.2.length-([]:List Nat).length)).getD k 0) (([]:List Nat)++(Xu (nb+·) []).take (p.2.length-([]:List Nat).length)) p.2 τ.b=τ.b:=by simp [zaR]
      rw [e]
     rw [gen σ hown,Wa] at h2
     obtain ⟨⟨r,bor'⟩,hcb,h3⟩:=h2
     simp only at h3
     split at h3
     ·rename_i hcond
      generalize hr':zoW _ r=r' at h3
      have hnb:∀ p cs,r'≠.bx p cs:=fun p cs hbx=>by
       subst hbx
       simp only [St.putR,St.newB] at h3
       split at h3
       ·cases h3
        simp only [St.put,St.setB] at hd
        split at hd
        ·rename_i v hv
         rw [List.getElem?_set] at hv
         simp only [if_true] at hv
         split at hv
         ·cases hv; simp [ztX] at hd
         ·cases hv
        ·cases hd
       ·cases h3
      have putc:∃ v,∀ τ:St,τ.putR nb (some d) false r'=some (τ.put (some d) v):=by
       cases r' with
       | bx p cs=>exact absurd rfl (hnb p cs)
       | fr sz es=>exact ⟨.gs sz es,fun τ=>rfl⟩
       | gs sz es=>exact ⟨.gs sz es,fun τ=>rfl⟩
       | _=>exact ⟨_,fun τ=>rfl⟩
      obtain ⟨v,hv⟩:=putc
      rw [hv σ] at h3
      refine ⟨v,(Option.some.inj h3).symm,fun σ' hr=>?_⟩
      have hrk:∀ t∈zF o.k,σ'.t[t]?=σ.t[t]?:=fun t ht=>hr t (zdY ht)
      rw [hk] at hrk
      have hc:∀ s∈xs,s.1.get σ'=s.1.get σ:=fun s hs=>zm (fun t ht=>hrk t (QZ.2 ⟨s,hs,ht⟩))
      have hargs':∀ s∈xs,zb1 σ' s=zb1 σ s:=fun s hs=>by
       have h2:=(hargs s hs).2
       have h3:=(hargs s hs).1
       have hl:∀ v,znI s.2 v=none:=fun v=>by unfold znI; rw [if_neg (by omega)]
       simp only [zb1,zEj h3,zvk,hl,hc s hs]
       cases hx:s.1.get σ <;> rw [hx] at h2 <;> simp [zvq] at h2 <;> rfl
      unfold yz
      rw [zbb (fun j w hg=>hr j (zbz hg)),hg]
      simp only [hk,hds,hpin,yj]
      rw [zep xs hargs',h1]
      simp only [Wb,QS]
      rw [gen σ' (fun s hs=>by rw [hc s hs]; exact hown s hs),hcb]
      simp only [QS]
      rw [if_pos (by exact hcond),hr',hv σ']
     ·cases h3
   | _=>rw [hk] at hs; cases hs
theorem zxg{o:COp}(hl:zaB o.k=true)(hr:∀ t∈yY o,σ'.t[t]?=σ.t[t]?)(hb:∀ agg n a take id off,o.k=.load agg n a take→a.get σ=.ptr id off→σ'.b[id]?=σ.b[id]?)(h:yz cb nb σ o=some σ1):∃ v,σ1=σ.put o.dst v∧yz cb nb σ' o=some (σ'.put o.dst v):=by
 unfold yz at h ⊢
 rw [zbb (fun j w hg=>hr j (zbz hg))]
 split at h
 ·cases hk:o.k with
  | load agg n a take=>
   rw [hk] at h hl
   exact zAU hl (zm (fun t ht=>hr t (zdY (by rw [hk]; exact ht)))) (fun id off=>hb _ _ _ _ id off hk) h
  | _=>rw [hk] at hl; cases hl
 ·cases h; exact ⟨_,rfl,rfl⟩
 ·cases h
theorem zCj{A B:COp}{r:Nat}{w:List Nat}(hra:znp σ A r=true)(hm:zkw (some r) w=true)(hB:yz cb nb σ' B=some σ1)(hw:znH nb σ' B w=true)(ht:σ'.t[r]?=σ.t[r]?) :
  ∀ agg n a take id off,A.k=.load agg n a take→a.get σ=.ptr id off→σ1.b[id]?=σ'.b[id]?:=by
 intro agg n a take id off hk hg
 unfold znp at hra
 rw [Wg] at hra
 have hra:=hra.2
 rw [hk] at hra
 cases a with
 | const v=>cases hra
 | tmp p=>
  simp only at hra
  split at hra
  ·rename_i id1 o1 id2 o2 h1 h2
   have e:=Wd hra
   have:id=id1:=by
    simp only [Src.get,Ws,h1,Xk] at hg
    cases hg; rfl
   subst this; subst e
   have hm:r∈w:=Xa.1 hm
   have key:∀ (w:List Nat),r∈w→znH nb σ' B w=true→zss nb σ' B id=true:=by
    intro w
    induction w with
    | nil=>intro h; cases h
    | cons x w ih=>
     intro h hh
     simp only [znH,Wg] at hh
     rcases Q8.1 h with rfl | h
     ·have:=hh.1
      rw [ht,h2] at this
      exact this
     ·exact ih h hh.2
   exact zJD hB (key w hm hw)
  ·rename_i h1
   simp only [Src.get,Ws,h1,Xk] at hg
   cases hg
  ·cases hra
theorem zIT{σ σ1 σ2:St}{d:Nat}{dst:Option Nat}{v:V}(e:σ2=σ1.put dst v)(hd:dst=some d)(hl:σ1.t.length=σ.t.length):(σ.put dst v).t[d]?=σ2.t[d]?:=by
 subst e; rw [y4,y4,hl]
 by_cases h:d<σ.t.length
 ·rw [if_pos ⟨hd,h⟩,if_pos ⟨hd,h⟩]
 ·rw [if_neg (fun q=>h q.2),if_neg (fun q=>h q.2),Q2 (by omega),Q2 (by omega)]
theorem zNn{A B:COp}{qa qb:Fl}{σ σ1 σ2:St}(ha:yz cb nb σ A=some σ1)(hb:yz cb nb σ1 B=some σ2)(fa:ze5 nb σ A qa σ1=true)(fb:ze5 nb σ1 B qb σ2=true)(pk:zwf (A,qa) (B,qb)=true)(hL:(qa.l&&qb.l)=false∨yI A.k=true∨yI B.k=true) :
  ∃ σ1',yz cb nb σ B=some σ1'∧yz cb nb σ1' A=some σ2∧ze5 nb σ B qb σ1'=true∧ze5 nb σ1' A qa σ2=true:=by
 simp only [zwf,Wg] at pk
 obtain ⟨⟨hs,hroots⟩,hq0⟩:=pk
 have hq:yI A.k=true∨yI B.k=true∨((!qa.l)=true∧(!qb.l)=true∧(((((((yI A.k=true∨yI B.k=true)∨(((qa.q=true∧qb.q=true)∧(!qa.s)=true)∧(!qb.s)=true))∨((zkw qa.root qb.w=true∧(!qa.s)=true)∧(!qb.s)=true))∨((zkw qb.root qa.w=true∧(!qa.s)=true)∧(!qb.s)=true))∨qa.s=true)∨qb.s=true))):=by
  simp only [Xc] at hq0
  rcases hq0 with ((h | h) | h) | h
  ·simp only [Wg,Xc] at h
   exact .inr (.inr ⟨h.1.1,h.1.2,h.2⟩)
  ·exact .inl h
  ·exact .inr (.inl h)
  ·simp only [Wg] at h
   rcases hL with h' | h' | h'
   ·rw [h.1.1,h.1.2] at h'; cases h'
   ·exact .inl h'
   ·exact .inr (.inl h')
 have hroots:=zg2 hroots
 have rr:∀ t,t∈qa.roots∨t∈qb.roots→t ∉ Wo A∧t ∉ Wo B:=by
  intro t ht
  constructor
  ·intro hh
   exact hroots t (QC.2 (.inl hh)) (QC.2 ht)
  ·intro hh
   exact hroots t (QC.2 (.inr hh)) (QC.2 ht)
 have hs0:=hs
 simp only [zoA,Wg] at hs
 have s1:=zg2 hs.1
 have s2:=zg2 hs.2
 have wa:∀ k∈Wo A,k ∉ yY B∧k ∉ Wo B:=fun k hk=>by
  have:=s1 k hk
  simp only [QC,not_or] at this
  exact ⟨this.1.1,fun hh=>by simp only [Wo,Wk,QC] at hh; exact hh.elim this.1.2 this.2⟩
 have wb:∀ k∈Wo B,k ∉ yY A∧k ∉ Wo A:=fun k hk=>by
  have:=s2 k hk
  simp only [QC,not_or] at this
  exact ⟨this.1.1,fun hh=>by simp only [Wo,Wk,QC] at hh; exact hh.elim this.1.2 this.2⟩
 obtain ⟨_,_,oa⟩:=z6 A rfl rfl (fun _ _=>rfl) ha
 obtain ⟨_,_,ob⟩:=z6 B rfl rfl (fun _ _=>rfl) hb
 have rB:∀ t∈yY B,σ.t[t]?=σ1.t[t]?:=fun t ht=>(oa.fr t (fun hh=>(wa t hh).1 ht)).symm
 have main:∃ σ1',yz cb nb σ B=some σ1'∧yz cb nb σ1' A=some σ2∧Side A B (qa.s&&!qa.l) (qb.s&&!qb.l) σ σ1 σ2 σ1':=by
  have fa':=fa
  have fb':=fb
  have swp:∀ hq,∃ σ1',yz cb nb σ B=some σ1'∧yz cb nb σ1' A=some σ2∧Side A B (qa.s&&!qa.l) (qb.s&&!qb.l) σ σ1 σ2 σ1':=fun hq=>by
   obtain ⟨σ1',q1,q2,q3⟩:=zMY ha hb hs0 hq
   exact ⟨σ1',q1,q2,q3 _ _⟩
  have nos:∀ {s:Bool},(!s)=true→s=false:=fun {s} h=>by cases s <;> first | rfl | cases h
  rcases hq with h | h | ⟨hla,hlb,hq⟩
  ·exact swp (.inl h)
  ·exact swp (.inr (.inl h))
  have hla:=nos hla
  have hlb:=nos hlb
  simp only [ze5,hla,cond_false] at fa'
  simp only [ze5,hlb,cond_false] at fb'
  rcases hq with (((((h | h) | h) | h) | h) | h) | h
  ·exact swp (.inl h)
  ·exact swp (.inr (.inl h))
  ·obtain ⟨⟨⟨hqa,hqb⟩,hsa⟩,hsb⟩:=h
   have h:qa.q=true∧qb.q=true:=⟨hqa,hqb⟩
   simp only [nos hsa,nos hsb,cond_false,Wg,Xc,Q9] at fa' fb'
   obtain ⟨⟨fa1,fa2⟩,fa3⟩:=fa'
   obtain ⟨⟨fb1,fb2⟩,fb3⟩:=fb'
   refine swp (.inr (.inr ⟨?_,?_⟩))
   ·rcases fa1 with e | e
    ·rw [h.1] at e; cases e
    ·exact e
   ·rcases fb1 with e | e
    ·rw [h.2] at e; cases e
    ·exact e
  ·
   obtain ⟨⟨h,hsa⟩,hsb⟩:=h
   simp only [nos hsa,nos hsb,cond_false,Wg,Xc,Q9] at fa' fb'
   obtain ⟨⟨fa1,fa2⟩,fa3⟩:=fa'
   obtain ⟨⟨fb1,fb2⟩,fb3⟩:=fb'
   cases hr:qa.root with
   | none=>rw [hr] at h; cases h
   | some r=>
    rw [hr] at h fa2
    simp only [zkw] at h
    simp only at fa2
    have hrm:r∈qb.w:=Xa.1 h
    have hrA:r ∉ Wo A:=(rr r (.inl (by simp [Fl.roots,hr]))).1
    have hlA:zaB A.k=true:=by
     have:=fa2; unfold znp at this; rw [Wg] at this; exact this.1
    obtain ⟨v,e1,_⟩:=zxg (σ':=σ) hlA (fun _ _=>rfl) (fun _ _ _ _ _ _ _ _=>rfl) ha
    have hb1:σ1.b=σ.b:=by rw [e1,xW]
    obtain ⟨σ1',f1,f2⟩:=z6 B (σ':=σ) oa.len.symm hb1.symm rB hb
    have hw:znH nb σ B qb.w=true:=by
     rw [← zsL (σ:=σ) (σ':=σ1) (.inl hb1) (fun t ht=>(rB t ht).symm) qb.w (fun t ht=>oa.fr t (rr t (.inr (by simp [Fl.roots,ht]))).1)]
     exact fb3
    have hblk:=zCj fa2 h f1 hw rfl
    obtain ⟨v',e3,e4⟩:=zxg (σ':=σ1') hlA (fun t ht=>f2.off t (fun hh=>(wb t hh).1 ht)) hblk ha
    have e:σ1'.put A.dst v'=σ2:=by
     have eb:(σ1'.put A.dst v').b=σ2.b:=by rw [xW,f2.b]
     have et:(σ1'.put A.dst v').t=σ2.t:=by
      apply Xb
      intro k
      rw [y4,f2.len']
      by_cases hA:A.dst=some k∧k<σ.t.length
      ·rw [if_pos hA]
       have hkA:k∈Wo A:=yJ k hA.1
       rw [ob.fr k (wa k hkA).2,e3,y4,if_pos hA]
      ·rw [if_neg hA]
       by_cases hB:k∈Wo B
       ·exact f2.on k hB
       ·rw [f2.off k hB,ob.fr k hB,e3,y4,if_neg hA]
     cases hz:σ1'.put A.dst v'; rw [hz] at eb et; cases σ2; simp only at eb et; rw [eb,et]
    refine ⟨σ1',f1,by rw [e4,e],oa.fr,f2.off,fun d hd=>f2.on d (yJ d hd),fun d hd=>ob.fr d (wa d (yJ d hd)).2,.inl hb1.symm,.inr (.inr (.inl hlA))⟩
  ·
   obtain ⟨⟨h,hsa⟩,hsb⟩:=h
   simp only [nos hsa,nos hsb,cond_false,Wg,Xc,Q9] at fa' fb'
   obtain ⟨⟨fa1,fa2⟩,fa3⟩:=fa'
   obtain ⟨⟨fb1,fb2⟩,fb3⟩:=fb'
   cases hr:qb.root with
   | none=>rw [hr] at h; cases h
   | some r=>
    rw [hr] at h fb2
    simp only at fb2
    have hlB:zaB B.k=true:=by
     have:=fb2; unfold znp at this; rw [Wg] at this; exact this.1
    have hrA:r ∉ Wo A:=(rr r (.inr (by simp [Fl.roots,hr]))).1
    have hblk:=zCj fb2 h ha fa3 (oa.fr r hrA).symm
    obtain ⟨v,e1,e2⟩:=zxg (σ':=σ) hlB (fun t ht=>rB t ht) (fun agg n a take id off hk hg=>(hblk agg n a take id off hk hg).symm) hb
    have hoff:∀ k,k ∉ Wo B→(σ.put B.dst v).t[k]?=σ.t[k]?:=fun k hk=>by rw [y4,if_neg (fun h=>hk (yJ k h.1))]
    have hl:(σ.put B.dst v).t.length=σ.t.length:=zjp _ _ _
    obtain ⟨σ2',f1,f2⟩:=z6 A (σ':=σ.put B.dst v) hl (xW _ _ _) (fun t ht=>hoff t (fun hh=>(wb t hh).1 ht)) ha
    have e:σ2'=σ2:=by
     have eb:σ2'.b=σ2.b:=by rw [f2.b,e1,xW]
     have et:σ2'.t=σ2.t:=by
      apply Xb
      intro k
      rw [e1,y4,oa.len]
      by_cases hB:B.dst=some k∧k<σ.t.length
      ·rw [if_pos hB]
       have hkB:k∈Wo B:=yJ k hB.1
       rw [f2.off k (wb k hkB).2,y4,if_pos hB]
      ·rw [if_neg hB]
       by_cases hA:k∈Wo A
       ·exact f2.on k hA
       ·rw [f2.off k hA,oa.fr k hA,y4,if_neg hB]
     cases σ2'; cases σ2; simp only at eb et; rw [eb,et]
    subst e
    refine ⟨_,e2,f1,oa.fr,hoff,fun d hd=>?_,fun d hd=>f2.on d (yJ d hd),.inr (.inr (.inl hlB)),.inl (xW _ _ _)⟩
    rw [zIT e1 hd oa.len]
  ·
   have hsa:qa.s=true:=h
   simp only [hsa,cond_true] at fa'
   obtain ⟨v,e3,e4⟩:=zBs ha fa'
   have hb1:σ1.b=σ.b:=by rw [e3,xW]
   obtain ⟨σ1',f1,f2⟩:=z6 B (σ':=σ) oa.len.symm hb1.symm rB hb
   have e4:=e4 σ1' (fun t ht=>f2.off t (fun hh=>(wb t hh).1 ht))
   have e:σ1'.put A.dst v=σ2:=by
    have eb:(σ1'.put A.dst v).b=σ2.b:=by rw [xW,f2.b]
    have et:(σ1'.put A.dst v).t=σ2.t:=by
     apply Xb
     intro k
     rw [y4,f2.len']
     by_cases hA:A.dst=some k∧k<σ.t.length
     ·rw [if_pos hA]
      have hkA:k∈Wo A:=yJ k hA.1
      rw [ob.fr k (wa k hkA).2,e3,y4,if_pos hA]
     ·rw [if_neg hA]
      by_cases hB:k∈Wo B
      ·exact f2.on k hB
      ·rw [f2.off k hB,ob.fr k hB,e3,y4,if_neg hA]
    cases hz:σ1'.put A.dst v; rw [hz] at eb et; cases σ2; simp only at eb et; rw [eb,et]
   exact ⟨σ1',f1,by rw [e4,e],oa.fr,f2.off,fun d hd=>f2.on d (yJ d hd),fun d hd=>ob.fr d (wa d (yJ d hd)).2,.inl hb1.symm,.inr (.inr (.inr (by rw [hsa,hla]; rfl)))⟩
  ·
   have hsb:qb.s=true:=h
   simp only [hsb,cond_true] at fb'
   obtain ⟨v,e1,e2⟩:=zBs hb fb'
   have e2:=e2 σ rB
   have hoff:∀ k,k ∉ Wo B→(σ.put B.dst v).t[k]?=σ.t[k]?:=fun k hk=>by rw [y4,if_neg (fun h=>hk (yJ k h.1))]
   have hl:(σ.put B.dst v).t.length=σ.t.length:=zjp _ _ _
   obtain ⟨σ2',f1,f2⟩:=z6 A (σ':=σ.put B.dst v) hl (xW _ _ _) (fun t ht=>hoff t (fun hh=>(wb t hh).1 ht)) ha
   have e:σ2'=σ2:=by
    have eb:σ2'.b=σ2.b:=by rw [f2.b,e1,xW]
    have et:σ2'.t=σ2.t:=by
     apply Xb
     intro k
     rw [e1,y4,oa.len]
     by_cases hB:B.dst=some k∧k<σ.t.length
     ·rw [if_pos hB]
      have hkB:k∈Wo B:=yJ k hB.1
      rw [f2.off k (wb k hkB).2,y4,if_pos hB]
     ·rw [if_neg hB]
      by_cases hA:k∈Wo A
      ·exact f2.on k hA
      ·rw [f2.off k hA,oa.fr k hA,y4,if_neg hB]
    cases σ2'; cases σ2; simp only at eb et; rw [eb,et]
   subst e
   refine ⟨_,e2,f1,oa.fr,hoff,fun d hd=>?_,fun d hd=>f2.on d (yJ d hd),.inr (.inr (.inr (by rw [hsb,hlb]; rfl))),.inl (xW _ _ _)⟩
   rw [zIT e1 hd oa.len]
 obtain ⟨σ1',k1,k2,S⟩:=main
 refine ⟨σ1',k1,k2,?_,?_⟩
 ·rw [← fb]
  exact zrU S.bB rB (fun t ht=>(oa.fr t (rr t (.inr ht)).1).symm) S.dB
 ·rw [← fa]
  exact zrU S.bA (fun t ht=>S.fB t (fun hh=>(wb t hh).1 ht)) (fun t ht=>S.fB t (rr t (.inl ht)).2) S.dA
end
section
variable {cb:CB} {nb:Nat} {σ σ' σ1:St} {b':List B} {K:List Nat}
structure FB (K:List Nat) (σ1:St) (b':List B) (σ1':St):Prop where
 t:σ1'.t=σ1.t
 on:∀ j∈K,σ1'.b[j]?=σ1.b[j]?
 off:∀ j,j ∉ K→σ1'.b[j]?=b'[j]?
theorem zFK{b b':List B}{i j:Nat}(x:B)(h:b'[j]?=b[j]?):(b'.set i x)[j]?=(b.set i x)[j]?:=by
 by_cases e:i=j
 ·subst e
  by_cases h1:i<b.length
  ·have h2:i<b'.length:=by
    rcases Xm i b'.length with h3 | h3
    ·exact h3
    ·rw [Q2 h3,Wc h1] at h; cases h
   rw [WD h1,WD h2]
  ·have h2:b'.length≤i:=by
    rcases Xm i b'.length with h3 | h3
    ·rw [Q2 (by omega:b.length≤i),Wc h3] at h; cases h
    ·exact h3
   rw [Q2 (by simp; omega),Q2 (by simp; omega)]
 ·rw [WC e,WC e]; exact h
theorem zjd(s:Src)(σ:St)(b':List B):s.get { σ with b:=b' }=s.get σ:=by cases s <;> rfl
theorem zNp(σ τ:St)(h:τ.t=σ.t)(d:Option Nat)(v:V):(τ.put d v).t=(σ.put d v).t:=by cases d <;> simp [St.put,h]
theorem FB.putS{σ τ:St}(h:FB K σ b' τ)(d:Option Nat)(v:V):FB K (σ.put d v) b' (τ.put d v):=
 ⟨zNp _ _ h.t d v,fun j hj=>by rw [xW,xW]; exact h.on j hj,fun j hj=>by rw [xW]; exact h.off j hj⟩
theorem FB.base(hb:∀ j∈K,b'[j]?=σ.b[j]?):FB K σ b' { σ with b:=b' }:=⟨rfl,hb,fun _ _=>rfl⟩
theorem FB.set{σ τ:St}(h:FB K σ b' τ){id:Nat}(hid:id∈K)(x:B):FB K (σ.setB id x) b' (τ.setB id x):=by
 refine ⟨h.t,fun j hj=>zFK x (h.on j hj),fun j hj=>?_⟩
 ·simp only [St.setB]
  rw [WC (fun e=>hj (by rw [← e]; exact hid))]
  exact h.off j hj
theorem FB.dem{σ τ:St}(h:FB K σ b' τ)(s:Src):FB K (σ.demote s) b' (τ.demote s):=by
 cases s with
 | const v=>exact h
 | tmp t=>exact ⟨by simp [St.demote,h.t],h.on,h.off⟩
theorem zoj{τ:St}(F:FB K σ b' τ){d:Option Nat}{x:B}{f:Nat→V}(hd:∀ k,d=some k→nb+k∈K)(h:σ.newB nb d x f=some σ1):∃ σ1',τ.newB nb d x f=some σ1'∧FB K σ1 b' σ1':=by
 cases d with
 | none=>cases h
 | some d=>
  simp only [St.newB] at h ⊢
  rw [F.on _ (hd d rfl)]
  split at h
  ·rename_i hg
   cases h
   exact ⟨_,rfl,(F.set (hd d rfl) x).putS _ _⟩
  ·cases h
theorem zob{τ:St}(F:FB K σ b' τ){d:Option Nat}{pin:Bool}{sz:Nat}{es:List (List V)}(hd:∀ k,d=some k→nb+k∈K)(h:σ.putG nb d pin sz es=some σ1):∃ σ1',τ.putG nb d pin sz es=some σ1'∧FB K σ1 b' σ1':=by
 unfold St.putG at h ⊢
 split at h
 ·rename_i hp; rw [if_pos hp]; exact zoj F hd h
 ·rename_i hp; rw [if_neg hp]; cases h; exact ⟨_,rfl,F.putS _ _⟩
theorem zCr{τ:St}(F:FB K σ b' τ){d:Option Nat}{pin:Bool}{v:V}(hd:∀ k,d=some k→nb+k∈K)(h:σ.putR nb d pin v=some σ1):∃ σ1',τ.putR nb d pin v=some σ1'∧FB K σ1 b' σ1':=by
 cases v with
 | gs sz es=>
  simp only [St.putR] at h ⊢
  split at h
  ·cases h
  ·rename_i hp; rw [if_neg hp]; cases h; exact ⟨_,rfl,F.putS _ _⟩
 | fr sz es=>simp only [St.putR] at h ⊢; exact zob F hd h
 | bx p cs=>simp only [St.putR] at h ⊢; exact zoj F hd h
 | _=>simp only [St.putR] at h ⊢; cases h; exact ⟨_,rfl,F.putS _ _⟩
theorem zFl{b b':List B}{id:Nat}(h:b'[id]?=b[id]?):zA1 b' id=zA1 b id:=by unfold zA1; rw [h]
theorem zuX(b:List B):∀ (n:Nat) (todo acc:List Nat) (x:Nat),x∈acc→x∈zeQ b n todo acc
 | 0,todo,acc,x,h=>by cases todo <;> exact h
 | n+1,[],acc,x,h=>h
 | n+1,id::todo,acc,x,h=>by
  simp only [zeQ]
  split
  ·exact zuX b n todo acc x h
  ·exact zuX b n _ _ x (Xd _ h)
theorem zrk{b b':List B}(hb:∀ j∈K,b'[j]?=b[j]?):∀ (n:Nat) (todo acc:List Nat),(∀ x∈zeQ b n todo acc,x∈K)→zeQ b' n todo acc=zeQ b n todo acc
 | 0,todo,acc,h=>by cases todo <;> rfl
 | n+1,[],acc,h=>rfl
 | n+1,id::todo,acc,h=>by
  simp only [zeQ] at h ⊢
  split
  ·rename_i hc
   rw [if_pos hc] at h
   exact zrk hb n todo acc h
  ·rename_i hc
   rw [if_neg hc] at h
   have hid:id∈K:=h id (zuX b n _ _ id (by simp))
   rw [zFl (hb id hid)]
   exact zrk hb n _ _ h
theorem zI4{b b':List B}{id j:Nat}(h:b'[id]?=b[id]?)(hj:b'[j]?=b[j]?):(z8 b' id)[j]?=(z8 b id)[j]?:=by
 unfold z8
 rw [h]
 split
 ·exact zFK _ hj
 ·exact hj
theorem zlk{σ τ:St}(ht:τ.t=σ.t):∀ (ss:List (Src × Nat)) (b b':List B),(∀ j∈K,b'[j]?=b[j]?)→(∀ s∈ss,∀ id,zaE (s.1.get σ)=some id→id∈K) →
  (∀ j∈K,(zx τ ss b')[j]?=(zx σ ss b)[j]?)∧(∀ j,j ∉ K→(zx τ ss b')[j]?=b'[j]?)
 | [],b,b',hb,hs=>⟨hb,fun _ _=>rfl⟩
 | s::ss,b,b',hb,hs=>by
  have hg:s.1.get τ=s.1.get σ:=by cases hh:s.1 <;> simp [Src.get,ht]
  unfold zx
  rw [hg]
  by_cases h2:2≤s.2
  ·rw [if_pos h2,if_pos h2]
   exact zlk ht ss b b' hb (fun s' h'=>hs s' (by simp [h']))
  ·rw [if_neg h2,if_neg h2]
   cases ho:zaE (s.1.get σ) with
   | none=>exact zlk ht ss b b' hb (fun s' h'=>hs s' (by simp [h']))
   | some id=>
    have hid:=hs s (by simp) id ho
    simp only
    obtain ⟨q2,q3⟩:=zlk ht ss (z8 b id) (z8 b' id) (fun j hj=>zI4 (hb id hid) (hb j hj)) (fun s' h'=>hs s' (by simp [h']))
    refine ⟨q2,fun j hj=>?_⟩
    rw [q3 j hj,zyz (fun e=>hj (by rw [e]; exact hid))]
theorem zxF{b b':List B}(ids:List Nat):∀ (l:List Nat),(∀ x∈l,b'[x]?=b[x]?)→zeP b' ids l=zeP b ids l
 | [],h=>rfl
 | id::l,h=>by
  simp only [zeP,h id (by simp),zxF ids l (fun x hx=>h x (by simp [hx]))]
theorem zxA{b b':List B}:∀ (xs:List Nat),(∀ x∈xs,b'[nb+x]?=b[nb+x]?)→zlf b' nb xs=zlf b nb xs
 | [],h=>rfl
 | x::xs,h=>by
  simp only [zlf,h x (by simp),zxA xs (fun y hy=>h y (by simp [hy]))]
theorem zv6(g:Nat→Nat):∀ (ids:List Nat) (bor:Bor) (b b':List B),(∀ x∈ids,x∈K)→(∀ j∈K,b'[j]?=b[j]?) →
  (∀ j∈K,(zaR g ids bor b')[j]?=(zaR g ids bor b)[j]?)∧(∀ j,j ∉ K→(zaR g ids bor b')[j]?=b'[j]?)
 | [],bor,b,b',hi,hb=>by cases bor <;> exact ⟨hb,fun _ _=>rfl⟩
 | id::ids,[],b,b',hi,hb=>⟨hb,fun _ _=>rfl⟩
 | id::ids,x::bor,b,b',hi,hb=>by
  simp only [zaR]
  obtain ⟨q2,q3⟩:=zv6 g ids bor (b.set id (x.ren g)) (b'.set id (x.ren g)) (fun y hy=>hi y (by simp [hy])) (fun j hj=>zFK _ (hb j hj))
  refine ⟨q2,fun j hj=>?_⟩
  rw [q3 j hj,WC (fun e=>hj (by rw [← e]; exact hi id (by simp)))]
theorem zGY{σ τ:St}(ht:τ.t=σ.t){s:Src × Nat}(hb:∀ id,zaE (s.1.get σ)=some id→τ.b[id]?=σ.b[id]?):zb1 τ s=zb1 σ s:=by
 have hg:s.1.get τ=s.1.get σ:=by cases hh:s.1 <;> simp [Src.get,ht]
 unfold zb1
 cases zsw s with
 | some v=>rfl
 | none=>
 simp only
 unfold zvk
 rw [hg]
 cases hl:znI s.2 (s.1.get σ) with
 | some v=>rfl
 | none=>
  simp only
  have:zbs τ.b (s.1.get σ)=zbs σ.b (s.1.get σ):=by
   cases hx:s.1.get σ with
   | own id off len sz=>
    rw [hx] at hb
    simp only [zbs,hb id rfl]
   | _=>rfl
  rw [this]
theorem zy5{τ:St}(F:FB K σ b' τ){d:Option Nat}{pin:Bool}{f:Nat}{args:List V}{ss:List (Src × Nat)}{xs:List Nat}(hK:∀ x∈zbo nb σ d args ss xs,x∈K)
  (h:zeg cb nb σ d pin f args ss xs=some σ1):∃ σ1',zeg cb nb τ d pin f args ss xs=some σ1'∧FB K σ1 b' σ1'∧zbo nb τ d args ss xs=zbo nb σ d args ss xs:=by
 have h1:∀ x∈zaQ (zx σ ss σ.b) args,x∈K:=fun x hx=>hK x (by simp [zbo,hx])
 have h2:∀ s∈ss,∀ id,zaE (s.1.get σ)=some id→id∈K:=fun s hs id hid=>hK id (by simp only [zbo,QC,QO]; exact .inl (.inl (.inr ⟨s,hs,hid⟩)))
 have h3:∀ x∈xs,nb+x∈K:=fun x hx=>hK _ (by simp only [zbo,QC,Xn]; exact .inl (.inr ⟨x,hx,rfl⟩))
 have h4:∀ k,d=some k→nb+k∈K:=fun k hk=>hK _ (by subst hk; simp [zbo])
 obtain ⟨z2,z3⟩:=zlk (K:=K) F.t ss σ.b τ.b F.on h2
 have hids:zaQ (zx τ ss τ.b) args=zaQ (zx σ ss σ.b) args:=by
  unfold zaQ
  exact zrk z2 40 _ _ (fun x hx=>h1 x hx)
 have hget:∀ s:Src × Nat,zaE (s.1.get τ)=zaE (s.1.get σ):=fun s=>by
  have hg:s.1.get τ=s.1.get σ:=by cases hh:s.1 <;> simp [Src.get,F.t]
  rw [hg]
 have hc:zbo nb τ d args ss xs=zbo nb σ d args ss xs:=by
  unfold zbo
  rw [hids]
  congr 3
  clear hids z2 z3 hK h1 h2 h
  induction ss with
  | nil=>rfl
  | cons s ss ih=>simp only [Xf,hget s,ih]
 unfold zeg at h ⊢
 simp only [hids]
 simp only [Wb,Wa] at h
 obtain ⟨bor,hbor,⟨r,bor'⟩,hcb,h⟩:=h
 simp only at h hcb
 rw [zxF _ _ (fun x hx=>z2 x (h1 x hx)),hbor]
 simp only [Wb,QS,hcb]
 rw [zxA (nb:=nb) (b:=zx σ ss σ.b) (b':=zx τ ss τ.b) xs (fun x hx=>z2 _ (h3 x hx))]
 split at h
 ·rename_i hcond
  rw [if_pos hcond]
  have hids':∀ x∈zaQ (zx σ ss σ.b) args++(xs.map (nb+·)).take (bor'.length-(zaQ (zx σ ss σ.b) args).length),x∈K:=by
   intro x hx
   rcases QC.1 hx with hx | hx
   ·exact h1 x hx
   ·obtain ⟨y,hy,rfl⟩:=Xn.1 (WU hx)
    exact h3 y hy
  generalize hG:(fun k=>(zaQ (zx σ ss σ.b) args++(xs.map (nb+·)).take (bor'.length-(zaQ (zx σ ss σ.b) args).length)).getD k 0)=G at h ⊢
  obtain ⟨y2,y3⟩:=zv6 (K:=K) G _ bor' (zx σ ss σ.b) (zx τ ss τ.b) hids' z2
  have F':FB K { σ with b:=zaR G (zaQ (zx σ ss σ.b) args++(xs.map (nb+·)).take (bor'.length-(zaQ (zx σ ss σ.b) args).length)) bor' (zx σ ss σ.b) } b' { τ with b:=zaR G (zaQ (zx σ ss σ.b) args++(xs.map (nb+·)).take (bor'.length-(zaQ (zx σ ss σ.b) args).length)) bor' (zx τ ss τ.b) }:=
   ⟨F.t,y2,fun j hj=>by rw [y3 j hj,z3 j hj]; exact F.off j hj⟩
  obtain ⟨σ1',e1,e2⟩:=zCr F' h4 h
  exact ⟨σ1',e1,e2,hc⟩
 ·cases h
theorem zIv{b b':List B}{v:V}(hv:∀ id,zaE v=some id→b'[id]?=b[id]?):zbs b' v=zbs b v:=by
 cases v with
 | own id off len sz=>simp only [zbs,hv id rfl]
 | _=>rfl
theorem zH5{d:Option Nat}{pin agg take:Bool}{n:Nat}{a:Src}(hK:∀ id off,a.get σ=.ptr id off→id∈K)(hb:∀ j∈K,b'[j]?=σ.b[j]?)(h:yj cb nb σ d pin (.load agg n a take)=some σ1) :
  ∃ σ1',yj cb nb { σ with b:=b' } d pin (.load agg n a take)=some σ1'∧FB K σ1 b' σ1':=by
 have F:=FB.base (K:=K) hb
 by_cases hq:(agg||!take)=true
 ·obtain ⟨v,rfl,h2⟩:=zAU (σ':={ σ with b:=b' }) hq (zjd _ _ _) (fun id off hh=>hb id (hK id off hh)) h
  exact ⟨_,h2,F.putS _ _⟩
 ·have e1:agg=false:=by cases agg <;> simp_all
  have e2:take=true:=by cases take <;> simp_all
  subst e1; subst e2
  simp only [yj,zjd] at h ⊢
  cases hx:a.get σ with
  | ptr id off=>
   rw [hx] at h
   have hid:=hK id off hx
   simp only [hb id hid] at h ⊢
   cases hbb:σ.b[id]? with
   | none=>rw [hbb] at h; cases h
   | some x=>
    rw [hbb] at h
    cases x with
    | live p cs=>
     simp only [WO,if_false,if_true] at h ⊢
     cases hv:cs[off]? with
     | none=>rw [hv] at h; cases h
     | some v=>
      rw [hv] at h
      simp only at h ⊢
      split at h
      ·cases h
      ·rename_i hp
       rw [if_neg hp]
       cases h
       exact ⟨_,rfl,(F.set hid _).putS _ _⟩
    | fz cs=>
     simp only [WO,if_false] at h ⊢
     cases hv:cs[off]? with
     | none=>rw [hv] at h; cases h
     | some v=>rw [hv] at h; simp only at h ⊢; cases h; exact ⟨_,rfl,F.putS _ _⟩
    | _=>cases h
  | fp m cs=>
   rw [hx] at h
   simp only [WO,if_false] at h ⊢
   cases hv:cs[0]? with
   | none=>rw [hv] at h; cases h
   | some v=>rw [hv] at h; simp only at h ⊢; cases h; exact ⟨_,rfl,F.putS _ _⟩
  | _=>rw [hx] at h; cases h
theorem zG2{d:Option Nat}{pin:Bool}{n:Nat}{a x:Src}(hK:∀ id off,a.get σ=.ptr id off→id∈K)(hb:∀ j∈K,b'[j]?=σ.b[j]?)(h:yj cb nb σ d pin (.store n a x)=some σ1) :
  ∃ σ1',yj cb nb { σ with b:=b' } d pin (.store n a x)=some σ1'∧FB K σ1 b' σ1':=by
 have F:=FB.base (K:=K) hb
 simp only [yj,zjd] at h ⊢
 split at h
 ·cases h
 ·rename_i hd
  rw [if_neg hd]
  cases hx:a.get σ with
  | ptr id off=>
   rw [hx] at h
   have hid:=hK id off hx
   simp only [hb id hid] at h ⊢
   cases hbb:σ.b[id]? with
   | none=>rw [hbb] at h; cases h
   | some y=>
    rw [hbb] at h
    cases y with
    | live p cs=>
     cases p with
     | true=>
      simp only [Wb,Wa] at h ⊢
      obtain ⟨v,h1,h2⟩:=h
      split at h2
      ·rename_i hc
       cases h2
       exact ⟨_,⟨v,h1,by rw [if_pos hc]⟩,F.set hid _⟩
      ·cases h2
     | false=>
      simp only at h ⊢
      cases hv:x.get σ with
      | agg us=>
       rw [hv] at h
       simp only at h ⊢
       split at h
       ·rename_i hc; rw [if_pos hc]; cases h; exact ⟨_,rfl,F.set hid _⟩
       ·cases h
      | st us=>
       rw [hv] at h
       simp only at h ⊢
       split at h
       ·rename_i hc; rw [if_pos hc]; cases h; exact ⟨_,rfl,F.set hid _⟩
       ·cases h
      | tup vs=>rw [hv] at h; cases h
      | bx p cs=>rw [hv] at h; cases h
      | junk=>rw [hv] at h; cases h
      | _=>
       rw [hv] at h
       simp only at h ⊢
       split at h
       ·rename_i hc; rw [if_pos hc]; cases h; exact ⟨_,rfl,(F.dem x).set hid _⟩
       ·cases h
    | _=>cases h
  | _=>rw [hx] at h; cases h
theorem zIe{b b':List B}{v:V}(hv:∀ id,zaE v=some id→b'[id]?=b[id]?):zps b' v=zps b v:=by
 cases v with
 | own id off len sz=>simp only [zps,hv id rfl]
 | _=>rfl
theorem zGZ{d:Option Nat}{pin:Bool}{n:Nat}{a:Src}(hK:∀ id off,a.get σ=.ptr id off→id∈K∧∀ j∈zvP σ.b id off n,j∈K)(hb:∀ j∈K,b'[j]?=σ.b[j]?)(h:yj cb nb σ d pin (.loadS n a)=some σ1) :
  ∃ σ1',yj cb nb { σ with b:=b' } d pin (.loadS n a)=some σ1'∧FB K σ1 b' σ1':=by
 have F:=FB.base (K:=K) hb
 simp only [yj,zjd] at h ⊢
 cases hx:a.get σ with
 | ptr id off=>
  rw [hx] at h
  obtain ⟨h1,h2⟩:=hK id off hx
  simp only [hb id h1] at h ⊢
  cases hbl:σ.b[id]? with
  | none=>rw [hbl] at h; cases h
  | some B=>
   rw [hbl] at h
   cases B with
   | live p cs=>
    cases p with
    | true=>cases h
    | false=>
     simp only at h ⊢
     split at h
     ·rename_i hc
      rw [if_pos hc]
      have e:((cs.drop off).take n).mapM (zps b')=((cs.drop off).take n).mapM (zps σ.b):=zep _ (fun v hv=>zIe fun j hj=>hb j (h2 j (by simp only [zvP,hbl]; exact QO.2 ⟨v,hv,hj⟩)))
      rw [e]
      cases hm:((cs.drop off).take n).mapM (zps σ.b) with
      | none=>rw [hm] at h; cases h
      | some vs=>rw [hm] at h; cases h; exact ⟨_,rfl,F.putS _ _⟩
     ·cases h
   | _=>cases h
 | _=>rw [hx] at h; cases h
theorem zBR{xs:List (Src × Nat)}(hb:∀ j∈K,b'[j]?=σ.b[j]?)(hK:∀ s∈xs,∀ id,zaE (s.1.get σ)=some id→id∈K):xs.mapM (zb1 { σ with b:=b' })=xs.mapM (zb1 σ):=
 zep xs (fun s hs=>zGY (σ:=σ) (τ:={ σ with b:=b' }) rfl (fun id hid=>hb id (hK s hs id hid)))
theorem zz8{d:Option Nat}{vs:List V}{xs:List (Src × Nat)}{ys:List Nat}:∀ s∈xs,∀ id,zaE (s.1.get σ)=some id→id∈zbo nb σ d vs xs ys:=fun s hs id hid=>by
 simp only [zbo,QC,QO]; exact .inl (.inl (.inr ⟨s,hs,hid⟩))
theorem zAY{d:Option Nat}(hk:(d.map fun d=>[nb+d])=some K):∀ k,d=some k→nb+k∈K:=fun k hd=>by
 subst hd; simp at hk; simp [← hk]
theorem ztp{o:COp}(hk:kOf nb σ o=some K)(hb:∀ j∈K,b'[j]?=σ.b[j]?)(h:yz cb nb σ o=some σ1) :
  ∃ σ1',yz cb nb { σ with b:=b' } o=some σ1'∧FB K σ1 b' σ1'∧kOf nb { σ with b:=b' } o=some K:=by
 have F:=FB.base (K:=K) hb
 unfold yz at h ⊢
 unfold kOf at hk ⊢
 rw [zbb (σ':={ σ with b:=b' }) (σ:=σ) (fun _ _ _=>rfl)]
 cases hg:zbB σ o.guard with
 | none=>rw [hg] at h; cases h
 | some g=>
  rw [hg] at h hk
  cases g with
  | false=>simp only at h hk ⊢; cases h; exact ⟨_,rfl,F.putS _ _,hk⟩
  | true=>
   simp only at h hk ⊢
   cases hkk:o.k with
   | load agg n a take=>
    rw [hkk] at h hk
    simp only [zjd] at hk ⊢
    obtain ⟨σ1',e1,e2⟩:=zH5 (K:=K) (fun id off hx=>by rw [hx] at hk; simp at hk; simp [← hk]) hb h
    exact ⟨σ1',e1,e2,hk⟩
   | loadS n a=>
    rw [hkk] at h hk
    simp only [zjd] at hk ⊢
    obtain ⟨σ1',e1,e2⟩:=zGZ (K:=K) (fun id off hx=>by rw [hx] at hk; simp only [Wf] at hk; rw [← hk]; exact ⟨by simp,fun j hj=>by simp [hj]⟩) hb h
    refine ⟨σ1',e1,e2,?_⟩
    cases hx:a.get σ with
    | ptr id off=>
     rw [hx] at hk
     simp only [Wf] at hk ⊢
     have:zvP b' id off n=zvP σ.b id off n:=by unfold zvP; rw [hb id (by rw [← hk]; simp)]
     rw [this,hk]
    | _=>rw [hx] at hk; cases hk
   | store n a x=>
    rw [hkk] at h hk
    simp only [zjd] at hk ⊢
    obtain ⟨σ1',e1,e2⟩:=zG2 (K:=K) (fun id off hx=>by rw [hx] at hk; simp at hk; simp [← hk]) hb h
    exact ⟨σ1',e1,e2,hk⟩
   | alloc p cs=>
    rw [hkk] at h hk
    simp only at hk ⊢
    simp only [yj] at h ⊢
    obtain ⟨σ1',e1,e2⟩:=zoj F (zAY hk) h
    exact ⟨σ1',e1,e2,hk⟩
   | box p x=>
    rw [hkk] at h hk
    simp only at hk ⊢
    simp only [yj,zjd] at h ⊢
    have gen:∀ y,σ.newB nb o.dst y (fun id=>.ptr id 0)=some σ1→∃ σ1',({ σ with b:=b' }:St).newB nb o.dst y (fun id=>.ptr id 0)=some σ1'∧FB K σ1 b' σ1'∧(o.dst.map fun d=>[nb+d])=some K:=fun y hy=>by
     obtain ⟨σ1',e1,e2⟩:=zoj F (zAY hk) hy
     exact ⟨σ1',e1,e2,hk⟩
    cases hx:x.get σ with
    | st cs=>
     rw [hx] at h
     simp only at h ⊢
     split at h
     ·cases h
     ·rename_i hp; rw [if_neg hp]; exact gen _ h
    | _=>
     rw [hx] at h
     simp only at h ⊢
     split at h
     ·exact gen _ h
     ·cases h
   | buildSlice sz n z ps=>
    rw [hkk] at h hk
    simp only at hk ⊢
    simp only [yj,zj8 (σ:=σ) (σ':={ σ with b:=b' }) ps _ (fun _ _=>rfl),Wb,Wa] at h ⊢
    obtain ⟨cs,h1,h2⟩:=h
    split at h2
    ·rename_i hc
     cases h2
     exact ⟨_,⟨cs,h1,by rw [if_pos hc]⟩,F.putS _ _,hk⟩
    ·rename_i hc
     obtain ⟨σ1',e1,e2⟩:=zob F (zAY hk) h2
     exact ⟨σ1',⟨cs,h1,by rw [if_neg hc]; exact e1⟩,e2,hk⟩
   | makeSlice sz bytes z l c=>
    rw [hkk] at h hk
    simp only at hk ⊢
    simp only [yj,zjd] at h ⊢
    split at h
    ·rename_i lv cv hl1 hc1
     split at h
     ·rename_i hc
      rw [if_pos hc]
      split at h
      ·rename_i hp
       rw [if_pos hp]
       obtain ⟨σ1',e1,e2⟩:=zoj F (zAY hk) h
       exact ⟨σ1',e1,e2,hk⟩
      ·rename_i hp
       rw [if_neg hp]
       obtain ⟨σ1',e1,e2⟩:=zob F (zAY hk) h
       exact ⟨σ1',e1,e2,hk⟩
     ·cases h
    ·cases h
   | extract x i=>
    rw [hkk] at h hk
    simp only at hk ⊢
    simp only [yj,zjd] at h ⊢
    cases hx:x.get σ with
    | tup vs=>
     rw [hx] at h
     simp only at h ⊢
     split at h
     ·rename_i v t hvi
      split at h
      ·rename_i hc
       rw [if_pos hc]
       split at h
       ·rename_i hh
        rw [if_pos hh]
        have F':FB K { σ with t:=σ.t.set t (.tup (vs.set i .junk)) } b' { t:=σ.t.set t (.tup (vs.set i .junk)),b:=b' }:=⟨rfl,F.on,F.off⟩
        obtain ⟨σ1',e1,e2⟩:=zCr F' (zAY hk) h
        exact ⟨σ1',e1,e2,hk⟩
       ·rename_i hh
        rw [if_neg hh]
        split at h
        ·cases h
        ·rename_i hp
         rw [if_neg hp]
         cases h
         exact ⟨_,rfl,F.putS _ _,hk⟩
      ·cases h
     ·cases h
    | _=>rw [hx] at h; cases h
   | move x take=>
    rw [hkk] at h hk
    simp only at hk ⊢
    simp only [yj,zjd] at h ⊢
    split at h
    ·cases h
    ·rename_i hp
     rw [if_neg hp]
     split at h
     ·rename_i ht; rw [if_pos ht]; cases h; exact ⟨_,rfl,(F.dem x).putS _ _,hk⟩
     ·rename_i ht; rw [if_neg ht]; cases h; exact ⟨_,rfl,F.putS _ _,hk⟩
   | append sz bytes s x=>
    rw [hkk] at h hk
    simp only [zjd] at hk ⊢
    have hx:zaE (x.get σ)=none:=by
     cases hx:x.get σ with
     | own id off len sz=>rw [hx] at hk; cases hs:s.get σ <;> rw [hs] at hk <;> cases hk
     | _=>rfl
    have hv:zbs b' (x.get σ)=zbs σ.b (x.get σ):=zIv (fun id hid=>by rw [hx] at hid; cases hid)
    have hd:∀ k,o.dst=some k→nb+k∈K:=by
     refine zAY ?_
     split at hk <;> first | exact hk | cases hk
    simp only [yj,zjd,hv] at h ⊢
    split at h
    ·rename_i sz1 es sz2 es2 hs hvx
     split at h
     ·rename_i hc
      rw [if_pos hc]
      split at h
      ·rename_i hp
       rw [if_pos hp]
       split at h
       ·obtain ⟨σ1',e1,e2⟩:=zob F hd h
        exact ⟨σ1',e1,e2,hk⟩
       ·cases h
      ·rename_i hp
       rw [if_neg hp]
       cases h
       exact ⟨_,rfl,(F.dem s).putS _ _,hk⟩
     ·cases h
    ·rename_i sz1 sz2 es2 hs hvx
     split at h
     ·rename_i hc
      rw [if_pos hc]
      obtain ⟨σ1',e1,e2⟩:=zob (F.dem s) hd h
      exact ⟨σ1',e1,e2,hk⟩
     ·cases h
    ·rename_i hs hvx
     rw [hs] at hk
     exfalso
     split at hk <;> simp_all
    ·rename_i hs hvx
     rw [hs] at hk
     exfalso
     split at hk <;> simp_all
    ·cases h
   | call f xs ys=>
    rw [hkk] at h hk
    simp only at hk ⊢
    simp only [yj,Wb,Wa] at h ⊢
    obtain ⟨vs,h1,h2⟩:=h
    rw [h1] at hk
    simp only [Wf] at hk
    have hm:xs.mapM (zb1 { σ with b:=b' })=some vs:=by
     rw [zBR hb (fun s hs id hid=>by rw [← hk]; exact zz8 s hs id hid),h1]
    obtain ⟨σ1',e1,e2,e3⟩:=zy5 F (fun x hx=>by rw [← hk]; exact hx) h2
    refine ⟨σ1',⟨vs,hm,e1⟩,e2,?_⟩
    simp only [hm,e3,hk]
   | callv f xs ys=>
    rw [hkk] at h hk
    simp only [zjd] at hk ⊢
    simp only [yj,zjd] at h ⊢
    cases hf:f.get σ with
    | fn g caps=>
     rw [hf] at h hk
     simp only [Wb,Wa] at h hk ⊢
     obtain ⟨vs,h1,h2⟩:=h
     rw [h1] at hk
     simp only [Wf] at hk
     have hm:xs.mapM (zb1 { σ with b:=b' })=some vs:=by
      rw [zBR hb (fun s hs id hid=>by rw [← hk]; exact zz8 s hs id hid),h1]
     obtain ⟨σ1',e1,e2,e3⟩:=zy5 F (fun x hx=>by rw [← hk]; exact hx) h2
     refine ⟨σ1',⟨vs,hm,e1⟩,e2,?_⟩
     simp only [hm,e3,hk]
    | _=>rw [hf] at h; cases h
   | _=>rw [hkk] at hk; cases hk
theorem zBL{o:COp}(hk:kOf nb σ o=some K)(h:yz cb nb σ o=some σ1):∀ j,j ∉ K→σ1.b[j]?=σ.b[j]?:=by
 obtain ⟨σ1',e1,e2,_⟩:=ztp (b':=σ.b) hk (fun _ _=>rfl) h
 rw [h] at e1
 cases e1
 exact e2.off
theorem zJA{r id:Nat}(h:zCN σ r id=true):(σ.t[r]?).bind zwp=some id:=by
 unfold zCN at h
 split at h
 ·rename_i v hr
  split at h
  ·rename_i id' hv
   rw [hr,QS,hv,Wd h]
  ·cases h
 ·cases h
theorem zHe{r id:Nat}(h:zqo σ K r=true)(hr:(σ.t[r]?).bind zwp=some id):id ∉ K:=by
 unfold zqo at h
 rw [Wa] at hr
 obtain ⟨v,hv,hs⟩:=hr
 rw [hv] at h
 simp only [hs] at h
 intro hh
 simp only [Xa.2 hh,Xi,WO] at h
theorem zpZ{r:Option Nat}{w:List Nat}(h:zkw r w=true):∃ x,r=some x∧x∈w:=by
 cases r with
 | none=>cases h
 | some x=>exact ⟨x,rfl,Xa.1 h⟩
structure Loc1 (nb:Nat) (σ:St) (o:COp) (fl:Fl) (K:List Nat):Prop where
 k:kOf nb σ o=some K
 root:∀ r,fl.root=some r→∀ id∈K,(σ.t[r]?).bind zwp=some id
 nw:fl.nw=true→∃ d,zwR o=some d∧∀ id∈K,id=nb+d
 w:∀ r∈fl.w,∀ id,(σ.t[r]?).bind zwp=some id→id ∉ K
 wn:∀ n∈fl.wn,nb+n ∉ K
theorem zu5{o:COp}{fl:Fl}(h:zoc nb σ o fl=true):∃ K,Loc1 nb σ o fl K:=by
 unfold zoc at h
 split at h
 ·rename_i K hk
  simp only [Wg] at h
  obtain ⟨⟨⟨h1,h2⟩,h3⟩,h4⟩:=h
  refine ⟨K,hk,fun r hr id hid=>?_,fun hn=>?_,fun r hr id hs=>?_,fun n hn hh=>?_⟩
  ·rw [hr] at h1
   exact zJA (QN.1 h1 id hid)
  ·rw [hn] at h2
   simp only [Xi,Bool.false_or] at h2
   split at h2
   ·rename_i d hd
    exact ⟨d,hd,fun id hid=>Wd (QN.1 h2 id hid)⟩
   ·cases h2
  ·exact zHe (QN.1 h3 r hr) hs
  ·have:=QN.1 h4 n hn
   rw [Xa.2 hh] at this
   cases this
 ·cases h
theorem zJx{o:COp}(h:zIp o.k=true)(hk:kOf nb σ o=some K):K=[]:=by
 unfold kOf at hk
 split at hk
 ·cases hk
 ·cases hk; rfl
 ·cases hkk:o.k <;> rw [hkk] at h hk <;> first | (cases h; done) | (cases hk; rfl)
theorem zAi{o:COp}{fl:Fl}(hl:zDw o.k=true)(h:zoc nb σ o fl=true):zcX σ o σ1=true:=by
 obtain ⟨K,L⟩:=zu5 h
 have hk:=L.k
 unfold kOf at hk
 unfold zcX
 cases hg:zbB σ o.guard with
 | none=>rw [hg] at hk; cases hk
 | some g=>
  cases g with
  | false=>rfl
  | true=>cases hkk:o.k <;> rw [hkk] at hl <;> first | (cases hl; done) | exact hl | simpa [zDw,zK6,zaB] using hl
theorem zNg{A B:COp}{KA KB:List Nat}{σ σ1 σ2:St}(ha:yz cb nb σ A=some σ1)(hb:yz cb nb σ1 B=some σ2)(hA:kOf nb σ A=some KA)(hB:kOf nb σ1 B=some KB)(hd:∀ j∈KA,j ∉ KB)
  (wa:∀ k∈Wo A,k ∉ yY B∧k ∉ Wo B) (wb:∀ k∈Wo B,k ∉ yY A∧k ∉ Wo A) :
  ∃ σ1',yz cb nb σ B=some σ1'∧yz cb nb σ1' A=some σ2∧kOf nb σ B=some KB∧kOf nb σ1' A=some KA∧(∀ k,k ∉ Wo B→σ1'.t[k]?=σ.t[k]?):=by
 obtain ⟨_,_,oa⟩:=z6 A rfl rfl (fun _ _=>rfl) ha
 obtain ⟨_,_,ob⟩:=z6 B rfl rfl (fun _ _=>rfl) hb
 have fA:=zBL hA ha
 have fB:=zBL hB hb
 have rB:∀ t∈yY B,σ.t[t]?=σ1.t[t]?:=fun t ht=>(oa.fr t (fun hh=>(wa t hh).1 ht)).symm
 let τ:St:={ t:=σ.t,b:=σ1.b }
 obtain ⟨τ1,g1,o1⟩:=z6 B (σ':=τ) oa.len.symm rfl rB hb
 have kB:kOf nb τ B=some KB:=by rw [zx6 (σ:=σ1) (σ':=τ) (.inl rfl) rB,hB]
 obtain ⟨σ1',e1,F1,k1⟩:=ztp (b':=σ.b) kB (fun j hj=>(fA j (fun hh=>hd j hh hj)).symm) g1
 let τ2:St:={ t:=σ1'.t,b:=σ.b }
 have hoff:∀ k,k ∉ Wo B→σ1'.t[k]?=σ.t[k]?:=fun k hk=>by rw [F1.t]; exact o1.off k hk
 have rA:∀ t∈yY A,τ2.t[t]?=σ.t[t]?:=fun t ht=>hoff t (fun hh=>(wb t hh).1 ht)
 have hlen:τ2.t.length=σ.t.length:=by show σ1'.t.length=_; rw [F1.t]; exact o1.len'
 obtain ⟨σ3,g2,o2⟩:=z6 A (σ':=τ2) hlen rfl rA ha
 have kA:kOf nb τ2 A=some KA:=by rw [zx6 (σ:=σ) (σ':=τ2) (.inl rfl) rA,hA]
 obtain ⟨σ4,e2,F2,k2⟩:=ztp (b':=σ1'.b) kA (fun j hj=>F1.off j (hd j hj)) g2
 have e:σ4=σ2:=by
  have et:σ4.t=σ2.t:=by
   rw [F2.t]
   apply Xb
   intro k
   by_cases hA:k∈Wo A
   ·rw [o2.on k hA,ob.fr k (wa k hA).2]
   ·rw [o2.off k hA]
    show σ1'.t[k]?=_
    rw [F1.t]
    by_cases hB:k∈Wo B
    ·exact o1.on k hB
    ·rw [o1.off k hB,ob.fr k hB,oa.fr k hA]
  have eb:σ4.b=σ2.b:=by
   apply Xb
   intro j
   by_cases hj:j∈KA
   ·rw [F2.on j hj,o2.b,fB j (hd j hj)]
   ·rw [F2.off j hj]
    by_cases hk:j∈KB
    ·rw [F1.on j hk,o1.b]
    ·rw [F1.off j hk,fB j hk,fA j hj]
  cases σ4; cases σ2; simp only at et eb; rw [et,eb]
 rw [e] at e2
 exact ⟨σ1',e1,e2,k1,k2,hoff⟩
def ldV(agg:Bool)(n:Nat)(take:Bool)(a:V)(b:List B):Option V:=match a with
 | .ptr id off=>match b[id]? with
  | some (.live p cs)=>if agg then (if off+n≤cs.length then (if p then some (.agg ((cs.drop off).take n)) else if take then (((cs.drop off).take n).mapM V.refd).map .st else (((cs.drop off).take n).mapM V.plain).map .agg) else none) else (cs[off]?).map V.dem
  | some (.fz cs)=>if agg then (if off+n≤cs.length then some (.agg ((cs.drop off).take n)) else none) else cs[off]?
  | _=>none
 | .fp m cs=>if agg then (if n≤m then some (.agg (cs.take n)) else none) else cs[0]?
 | _=>none
theorem zGp{d:Option Nat}{pin agg take:Bool}{n:Nat}{s:Src}(hq:(agg||!take)=true):yj cb nb σ d pin (.load agg n s take)=(ldV agg n take (s.get σ) σ.b).map (fun v=>σ.put d v):=by
 simp only [yj,ldV]
 cases s.get σ with
 | ptr id off=>
  simp only
  cases σ.b[id]? with
  | none=>rfl
  | some x=>
   cases x with
   | live p cs=>
    simp only
    cases agg with
    | true=>
     simp only [if_true]
     split
     ·cases p with
      | true=>simp
      | false=>
       cases take with
       | true=>simp only [WO,if_false,if_true]; cases ((cs.drop off).take n).mapM V.refd <;> rfl
       | false=>simp only [WO,if_false]; cases ((cs.drop off).take n).mapM V.plain <;> rfl
     ·rfl
    | false=>
     have ht:take=false:=by simpa using hq
     subst ht
     simp only [WO,if_false]
     cases cs[off]? <;> rfl
   | fz cs=>
    simp only
    cases agg with
    | true=>simp only [if_true]; split <;> rfl
    | false=>simp only [WO,if_false]; cases cs[off]? <;> rfl
   | _=>rfl
 | fp m cs=>
  simp only
  cases agg with
  | true=>simp only [if_true]; split <;> rfl
  | false=>simp only [WO,if_false]; cases cs[0]? <;> rfl
 | _=>rfl
def Dm(b b1:List B):Prop:=∀ j:Nat,b1[j]?=b[j]?∨∃ (cs:List V) (off:Nat) (v:V),b[j]?=some (B.live false cs)∧cs[off]?=some v∧b1[j]?=some (B.live false (cs.set off v.dem))
theorem zLD(v:V):v.dem.dem=v.dem:=by
 cases v with
 | tup vs=>cases vs <;> rfl
 | _=>rfl
theorem zI5(v:V):v.dem.plain=v.plain:=by
 cases v with
 | tup vs=>cases vs <;> rfl
 | _=>rfl
theorem zKM(v:V):v.dem.refd=v.refd:=by
 cases v with
 | tup vs=>cases vs <;> rfl
 | _=>rfl
theorem zHs{f:V→Option V}:∀ (l1 l2:List V),(∀ i:Nat,(l1[i]?).map f=(l2[i]?).map f)→l1.mapM f=l2.mapM f
 | [],[],_=>rfl
 | [],b::l2,h=>by have:=h 0; simp at this
 | a::l1,[],h=>by have:=h 0; simp at this
 | a::l1,b::l2,h=>by
  have h0:f a=f b:=by have:=h 0; simpa using this
  have ih:=zHs l1 l2 (fun i=>by have:=h (i+1); simpa using this)
  rw [List.mapM_cons,List.mapM_cons,h0,ih]
theorem zMT{f:V→Option V}(hf:∀ v:V,f v.dem=f v){cs:List V}{k:Nat}{v:V}(hk:cs[k]?=some v)(i:Nat):((cs.set k v.dem)[i]?).map f=(cs[i]?).map f:=by
 by_cases e:k=i
 ·subst e
  have hlt:=(Wh.1 hk).1
  rw [WD hlt,hk]
  simp [hf]
 ·rw [WC e]
theorem zJ0{f:V→Option V}(hf:∀ v:V,f v.dem=f v){cs:List V}{k:Nat}{v:V}(hk:cs[k]?=some v)(off n:Nat):(((cs.set k v.dem).drop off).take n).mapM f=((cs.drop off).take n).mapM f:=by
 refine zHs _ _ (fun i=>?_)
 rw [Wn,Wn]
 split
 ·rw [Wp,Wp]; exact zMT hf hk _
 ·rfl
theorem zJQ{agg take:Bool}{n:Nat}{a:V}{b b1:List B}(hd:Dm b b1):ldV agg n take a b1=ldV agg n take a b:=by
 cases a with
 | ptr id off=>
  simp only [ldV]
  rcases hd id with e | ⟨cs,k,v,e1,e2,e3⟩
  ·rw [e]
  ·rw [e1,e3]
   simp only [List.length_set,WO,if_false,zJ0 zKM e2,zJ0 zI5 e2]
   congr 1
   by_cases e:k=off
   ·subst e
    have hlt:=(Wh.1 e2).1
    rw [WD hlt,e2]
    simp [zLD]
   ·rw [WC e]
 | _=>rfl
theorem zDg{o:COp}(hl:zaB o.k=true)(hr:∀ t∈yY o,σ'.t[t]?=σ.t[t]?)(hd:Dm σ.b σ'.b∨Dm σ'.b σ.b)(h:yz cb nb σ o=some σ1):∃ v,σ1=σ.put o.dst v∧yz cb nb σ' o=some (σ'.put o.dst v):=by
 unfold yz at h ⊢
 rw [zbb (fun j w hg=>hr j (zbz hg))]
 split at h
 ·cases hk:o.k with
  | load agg n a take=>
   rw [hk] at h hl
   have hg:a.get σ'=a.get σ:=zm (fun t ht=>hr t (zdY (by rw [hk]; exact ht)))
   rw [zGp hl] at h
   rw [zGp hl,hg]
   have e:ldV agg n take (a.get σ) σ'.b=ldV agg n take (a.get σ) σ.b:=by
    rcases hd with hd | hd
    ·exact zJQ hd
    ·exact (zJQ hd).symm
   rw [e]
   rw [Wj] at h
   obtain ⟨v,h1,rfl⟩:=h
   exact ⟨v,rfl,by rw [h1]; rfl⟩
  | _=>rw [hk] at hl; cases hl
 ·cases h; exact ⟨_,rfl,rfl⟩
 ·cases h
theorem Dm.rfl'{b:List B}:Dm b b:=fun _=>.inl rfl
theorem zHE{o:COp}(ht:zsR o.k=true)(h:yz cb nb σ o=some σ1):Dm σ.b σ1.b:=by
 unfold yz at h
 split at h
 ·cases hk:o.k with
  | load agg n a take=>
   rw [hk] at h ht
   cases agg with
   | true=>cases ht
   | false=>
    cases take with
    | false=>cases ht
    | true=>
     simp only [yj] at h
     cases hx:a.get σ with
     | ptr id off=>
      rw [hx] at h
      simp only at h
      cases hb:σ.b[id]? with
      | none=>rw [hb] at h; cases h
      | some x=>
       rw [hb] at h
       cases x with
       | live p cs=>
        simp only [WO,if_false,if_true] at h
        cases hv:cs[off]? with
        | none=>rw [hv] at h; cases h
        | some v=>
         rw [hv] at h
         simp only at h
         split at h
         ·cases h
         ·rename_i hp
          have hp:p=false:=by cases p <;> simp_all
          subst hp
          cases h
          rw [xW]
          intro j
          by_cases e:id=j
          ·subst e
           refine .inr ⟨cs,off,v,hb,hv,?_⟩
           simp only [St.setB]
           rw [WD (Wh.1 hb).1]
          ·refine .inl ?_
           simp only [St.setB]
           rw [WC e]
       | fz cs=>
        simp only [WO,if_false] at h
        cases hv:cs[off]? with
        | none=>rw [hv] at h; cases h
        | some v=>rw [hv] at h; cases h; rw [xW]; exact Dm.rfl'
       | _=>cases h
     | fp m cs=>
      rw [hx] at h
      simp only [WO,if_false] at h
      cases hv:cs[0]? with
      | none=>rw [hv] at h; cases h
      | some v=>rw [hv] at h; cases h; rw [xW]; exact Dm.rfl'
     | _=>rw [hx] at h; cases h
  | _=>rw [hk] at ht; cases ht
 ·cases h; rw [xW]; exact Dm.rfl'
 ·cases h
theorem zMM{A B:COp}{σ σ1 σ2:St}(ha:yz cb nb σ A=some σ1)(hb:yz cb nb σ1 B=some σ2)(hl:zaB A.k=true)(ht:zsR B.k=true)
  (wa:∀ k∈Wo A,k ∉ yY B∧k ∉ Wo B) (wb:∀ k∈Wo B,k ∉ yY A∧k ∉ Wo A) :
  ∃ σ1',yz cb nb σ B=some σ1'∧yz cb nb σ1' A=some σ2∧(∀ k,k ∉ Wo B→σ1'.t[k]?=σ.t[k]?):=by
 obtain ⟨_,_,oa⟩:=z6 A rfl rfl (fun _ _=>rfl) ha
 obtain ⟨_,_,ob⟩:=z6 B rfl rfl (fun _ _=>rfl) hb
 have rB:∀ t∈yY B,σ.t[t]?=σ1.t[t]?:=fun t ht=>(oa.fr t (fun hh=>(wa t hh).1 ht)).symm
 obtain ⟨v,e3,_⟩:=zDg (σ':=σ) hl (fun _ _=>rfl) (.inl Dm.rfl') ha
 have hb1:σ1.b=σ.b:=by rw [e3,xW]
 obtain ⟨σ1',f1,f2⟩:=z6 B (σ':=σ) oa.len.symm hb1.symm rB hb
 obtain ⟨v',e3',e4⟩:=zDg (σ':=σ1') hl (fun t ht=>f2.off t (fun hh=>(wb t hh).1 ht)) (.inl (zHE ht f1)) ha
 have e:σ1'.put A.dst v'=σ2:=by
  have eb:(σ1'.put A.dst v').b=σ2.b:=by rw [xW,f2.b]
  have et:(σ1'.put A.dst v').t=σ2.t:=by
   apply Xb
   intro k
   rw [y4,f2.len']
   by_cases hA:A.dst=some k∧k<σ.t.length
   ·rw [if_pos hA]
    have hkA:k∈Wo A:=yJ k hA.1
    rw [ob.fr k (wa k hkA).2,e3',y4,if_pos hA]
   ·rw [if_neg hA]
    by_cases hB:k∈Wo B
    ·exact f2.on k hB
    ·rw [f2.off k hB,ob.fr k hB,e3',y4,if_neg hA]
  cases hz:σ1'.put A.dst v'; rw [hz] at eb et; cases σ2; simp only at eb et; rw [eb,et]
 exact ⟨σ1',f1,by rw [e4,e],f2.off⟩
theorem zMx{A B:COp}{σ σ1 σ2:St}(ha:yz cb nb σ A=some σ1)(hb:yz cb nb σ1 B=some σ2)(ht:zsR A.k=true)(hl:zaB B.k=true)
  (wa:∀ k∈Wo A,k ∉ yY B∧k ∉ Wo B) (wb:∀ k∈Wo B,k ∉ yY A∧k ∉ Wo A) :
  ∃ σ1',yz cb nb σ B=some σ1'∧yz cb nb σ1' A=some σ2∧(∀ k,k ∉ Wo B→σ1'.t[k]?=σ.t[k]?):=by
 obtain ⟨_,_,oa⟩:=z6 A rfl rfl (fun _ _=>rfl) ha
 have rB:∀ t∈yY B,σ.t[t]?=σ1.t[t]?:=fun t ht=>(oa.fr t (fun hh=>(wa t hh).1 ht)).symm
 obtain ⟨v,e1,e2⟩:=zDg (σ':=σ) hl rB (.inr (zHE ht ha)) hb
 have hoff:∀ k,k ∉ Wo B→(σ.put B.dst v).t[k]?=σ.t[k]?:=fun k hk=>by rw [y4,if_neg (fun h=>hk (yJ k h.1))]
 have hlen:(σ.put B.dst v).t.length=σ.t.length:=zjp _ _ _
 obtain ⟨σ2',f1,f2⟩:=z6 A (σ':=σ.put B.dst v) hlen (xW _ _ _) (fun t ht=>hoff t (fun hh=>(wb t hh).1 ht)) ha
 have e:σ2'=σ2:=by
  have eb:σ2'.b=σ2.b:=by rw [f2.b,e1,xW]
  have et:σ2'.t=σ2.t:=by
   apply Xb
   intro k
   rw [e1,y4,oa.len]
   by_cases hB:B.dst=some k∧k<σ.t.length
   ·rw [if_pos hB]
    have hkB:k∈Wo B:=yJ k hB.1
    rw [f2.off k (wb k hkB).2,y4,if_pos hB]
   ·rw [if_neg hB]
    by_cases hA:k∈Wo A
    ·exact f2.on k hA
    ·rw [f2.off k hA,oa.fr k hA,y4,if_neg hB]
  cases σ2'; cases σ2; simp only at eb et; rw [eb,et]
 subst e
 exact ⟨_,e2,f1,hoff⟩
theorem zFZ{o:COp}(hl:(zaB o.k||zsR o.k)=true)(hr:∀ t∈yY o,σ'.t[t]?=σ.t[t]?):kOf nb σ' o=kOf nb σ o:=by
 unfold kOf
 rw [zbb (fun j w hg=>hr j (zbz hg))]
 have hrk:∀ t∈zF o.k,σ'.t[t]?=σ.t[t]?:=fun t ht=>hr t (zdY ht)
 cases hk:o.k with
 | load agg n x take=>
  rw [hk] at hrk
  simp only [zm (s:=x) hrk]
 | _=>simp [hk,zaB,zsR] at hl
theorem zNo{A B:COp}{qa qb:Fl}{σ σ1 σ2:St}(ha:yz cb nb σ A=some σ1)(hb:yz cb nb σ1 B=some σ2)(fa:ze5 nb σ A qa σ1=true)(fb:ze5 nb σ1 B qb σ2=true)(pk:zwf (A,qa) (B,qb)=true) :
  ∃ σ1',yz cb nb σ B=some σ1'∧yz cb nb σ1' A=some σ2∧ze5 nb σ B qb σ1'=true∧ze5 nb σ1' A qa σ2=true:=by
 by_cases hL:(qa.l&&qb.l)=false∨yI A.k=true∨yI B.k=true
 ·exact zNn ha hb fa fb pk hL
 simp only [not_or,Bool.not_eq_false,Bool.not_eq_true] at hL
 obtain ⟨hl,hpa,hpb⟩:=hL
 rw [Wg] at hl
 obtain ⟨hla,hlb⟩:=hl
 simp only [zwf,Wg] at pk
 obtain ⟨⟨hs,hroots⟩,hq⟩:=pk
 have hroots:=zg2 hroots
 have rr:∀ t,t∈qa.roots∨t∈qb.roots→t ∉ Wo A∧t ∉ Wo B:=by
  intro t ht
  constructor
  ·intro hh
   exact hroots t (QC.2 (.inl hh)) (QC.2 ht)
  ·intro hh
   exact hroots t (QC.2 (.inr hh)) (QC.2 ht)
 have hs0:=hs
 simp only [zoA,Wg] at hs
 have s1:=zg2 hs.1
 have s2:=zg2 hs.2
 have wa:∀ k∈Wo A,k ∉ yY B∧k ∉ Wo B:=fun k hk=>by
  have:=s1 k hk
  simp only [QC,not_or] at this
  exact ⟨this.1.1,fun hh=>by simp only [Wo,Wk,QC] at hh; exact hh.elim this.1.2 this.2⟩
 have wb:∀ k∈Wo B,k ∉ yY A∧k ∉ Wo A:=fun k hk=>by
  have:=s2 k hk
  simp only [QC,not_or] at this
  exact ⟨this.1.1,fun hh=>by simp only [Wo,Wk,QC] at hh; exact hh.elim this.1.2 this.2⟩
 obtain ⟨_,_,oa⟩:=z6 A rfl rfl (fun _ _=>rfl) ha
 have fa':zoc nb σ A qa=true:=by simpa only [ze5,hla,cond_true] using fa
 have fb':zoc nb σ1 B qb=true:=by simpa only [ze5,hlb,cond_true] using fb
 obtain ⟨KA,LA⟩:=zu5 fa'
 obtain ⟨KB,LB⟩:=zu5 fb'
 have rt:∀ t,t∈qa.roots∨t∈qb.roots→σ1.t[t]?=σ.t[t]?:=fun t ht=>oa.fr t (rr t ht).1
 have dis:((zaB A.k=true∧zsR B.k=true)∨(zsR A.k=true∧zaB B.k=true))∨(zDw A.k=true∧zDw B.k=true)∨∀ j∈KA,j ∉ KB:=by
  simp only [Xc,hpa,hpb,hla,hlb,Xi,Xh,WO,false_or,Wg,true_and] at hq
  rcases hq with (((((((h | h) | h) | h) | h) | h) | h) | h) | h
  ·exact .inr (.inl h)
  ·exact .inl (.inl h)
  ·exact .inl (.inr h)
  ·exact .inr (.inr fun j hj=>by rw [zJx h LA.k] at hj; cases hj)
  ·exact .inr (.inr fun j hj=>by rw [zJx h LB.k]; exact List.not_mem_nil)
  ·obtain ⟨x,hx,hm⟩:=zpZ h
   refine .inr (.inr fun j hj=>?_)
   have hp:=LA.root x hx j hj
   exact LB.w x hm j (by rw [rt x (.inl (by simp [Fl.roots,hx])),hp])
  ·obtain ⟨x,hx,hm⟩:=zpZ h
   refine .inr (.inr fun j hj hj2=>?_)
   have hp:=LB.root x hx j hj2
   exact LA.w x hm j (by rw [← rt x (.inr (by simp [Fl.roots,hx])),hp]) hj
  ·obtain ⟨d,hd,hn⟩:=LA.nw h.1
   obtain ⟨x,hx,hm⟩:=zpZ h.2
   rw [hd] at hx; cases hx
   exact .inr (.inr fun j hj=>by rw [hn j hj]; exact LB.wn _ hm)
  ·obtain ⟨d,hd,hn⟩:=LB.nw h.1
   obtain ⟨x,hx,hm⟩:=zpZ h.2
   rw [hd] at hx; cases hx
   exact .inr (.inr fun j hj hj2=>by rw [hn j hj2] at hj; exact LA.wn _ hm hj)
 have fin:(zaB A.k||zsR A.k)=true→(zaB B.k||zsR B.k)=true→(∃ σ1',yz cb nb σ B=some σ1'∧yz cb nb σ1' A=some σ2∧(∀ k,k ∉ Wo B→σ1'.t[k]?=σ.t[k]?))→∃ σ1',yz cb nb σ B=some σ1'∧yz cb nb σ1' A=some σ2∧ze5 nb σ B qb σ1'=true∧ze5 nb σ1' A qa σ2=true:=by
  rintro lA lB ⟨σ1',k1,k2,hoff⟩
  refine ⟨σ1',k1,k2,?_,?_⟩
  ·simp only [ze5,hlb,cond_true]
   rw [← fb']
   exact zkt (zFZ lB (fun t ht=>(oa.fr t (fun hh=>(wa t hh).1 ht)).symm)) (fun t ht=>(rt t (.inr ht)).symm)
  ·simp only [ze5,hla,cond_true]
   rw [← fa']
   exact zkt (zFZ lA (fun t ht=>hoff t (fun hh=>(wb t hh).1 ht))) (fun t ht=>hoff t (rr t (.inl ht)).2)
 rcases dis with (⟨l1,l2⟩ | ⟨l1,l2⟩) | ⟨l1,l2⟩ | dis
 ·exact fin (by rw [l1]; rfl) (by rw [l2]; simp) (zMM ha hb l1 l2 wa wb)
 ·exact fin (by rw [l1]; simp) (by rw [l2]; rfl) (zMx ha hb l1 l2 wa wb)
 ·obtain ⟨σ1',k1,k2,S⟩:=zMY ha hb hs0 (.inr (.inr ⟨zAi l1 fa',zAi l2 fb'⟩))
  have S:=S (qa.s&&!qa.l) (qb.s&&!qb.l)
  refine ⟨σ1',k1,k2,?_,?_⟩
  ·rw [← fb]
   exact zrU S.bB (fun t ht=>(oa.fr t (fun hh=>(wa t hh).1 ht)).symm) (fun t ht=>(rt t (.inr ht)).symm) S.dB
  ·rw [← fa]
   exact zrU S.bA (fun t ht=>S.fB t (fun hh=>(wb t hh).1 ht)) (fun t ht=>S.fB t (rr t (.inl ht)).2) S.dA
 ·obtain ⟨σ1',k1,k2,kB,kA,hoff⟩:=zNg ha hb LA.k LB.k dis wa wb
  refine ⟨σ1',k1,k2,?_,?_⟩
  ·simp only [ze5,hlb,cond_true]
   rw [← fb']
   exact zkt (by rw [kB,LB.k]) (fun t ht=>(rt t (.inr ht)).symm)
  ·simp only [ze5,hla,cond_true]
   rw [← fa']
   exact zkt (by rw [kA,LA.k]) (fun t ht=>hoff t (rr t (.inl ht)).2)
end
section
def zp1(cb:CB)(nb:Nat)(ks:List (COp × Fl)):List Nat→St→Option St
 | [],σ=>some σ
 | i::l,σ=>match ks[i]? with
  | some (o,q)=>match yz cb nb σ o with
   | some σ'=>if ze5 nb σ o q σ' then zp1 cb nb ks l σ' else none
   | none=>none
  | none=>none
theorem zoo{cb:CB}{nb:Nat}{ks:List (COp × Fl)}{i:Nat}{l:List Nat}{σ σ':St}:zp1 cb nb ks (i::l) σ=some σ'↔∃ o q σ1,ks[i]?=some (o,q)∧yz cb nb σ o=some σ1∧ze5 nb σ o q σ1=true∧zp1 cb nb ks l σ1=some σ':=by
 constructor
 ·intro h
  simp only [zp1] at h
  split at h
  ·rename_i o q hk
   split at h
   ·rename_i σ1 h1
    split at h
    ·rename_i hc
     exact ⟨o,q,σ1,hk,h1,hc,h⟩
    ·cases h
   ·cases h
  ·cases h
 ·rintro ⟨o,q,σ1,h1,h2,h3,h4⟩
  simp only [zp1,h1,h2]
  rw [if_pos h3]
  exact h4
theorem zz9{cb:CB}{nb:Nat}(ks:List (COp × Fl)):∀ (l:List (COp × Fl)) (k:Nat) (σ:St),(∀ i,l[i]?=ks[k+i]?)→zmW cb nb l σ=zp1 cb nb ks (List.range' k l.length) σ
 | [],k,σ,h=>rfl
 | (o,q)::l,k,σ,h=>by
  have h0:ks[k]?=some (o,q):=by simpa using (h 0).symm
  have ih:=fun σ=>zz9 (cb:=cb) (nb:=nb) ks l (k+1) σ (fun i=>by have:=h (i+1); simpa [Nat.add_assoc,Nat.add_comm 1 i] using this)
  simp only [zmW,List.length_cons,List.range'_succ,zp1,h0,ih]
  cases yz cb nb σ o <;> rfl
theorem zJv{cb:CB}{nb:Nat}{ks:List (COp × Fl)}{i:Nat}{l2:List Nat}{σ':St}:∀ (l1:List Nat) (σ:St),(∀ j∈l1,∀ a b,ks[j]?=some a→ks[i]?=some b→zwf a b=true)→zp1 cb nb ks (l1++i::l2) σ=some σ'→zp1 cb nb ks (i::(l1++l2)) σ=some σ'
 | [],σ,_,h=>h
 | j::l1,σ,hp,h=>by
  rw [List.cons_append,zoo] at h
  obtain ⟨oj,qj,σ1,h1,h2,h3,h4⟩:=h
  have ih:=zJv l1 σ1 (fun j' hj'=>hp j' (by simp [hj'])) h4
  rw [zoo] at ih
  obtain ⟨oi,qi,σ2,g1,g2,g3,g4⟩:=ih
  have pk:=hp j (by simp) _ _ h1 g1
  obtain ⟨σ1',e1,e2,e3,e4⟩:=zNo h2 g2 h3 g3 pk
  rw [zoo]
  refine ⟨oi,qi,σ1',g1,e1,e3,?_⟩
  rw [List.cons_append,zoo]
  exact ⟨oj,qj,σ2,h1,e2,e4,g4⟩
theorem zEr(acc:Array Nat)(j:Nat):∀ (l:List Edge) (s:Nat),(l.foldl (fun s e=>if Region.binds .any e=true then s ||| 2 ^ e.on ||| acc.getD e.on 0 else s) s).testBit j=true→s.testBit j=true∨∃ e∈l,Region.binds .any e=true∧(j=e.on∨(acc.getD e.on 0).testBit j=true)
 | [],s,h=>.inl h
 | e::l,s,h=>by
  rw [List.foldl_cons] at h
  rcases zEr acc j l _ h with h | ⟨e',he',h⟩
  ·split at h
   ·rename_i hb
    simp only [Nat.testBit_or,Nat.testBit_two_pow,Xc,decide_eq_true_eq] at h
    rcases h with (h | h) | h
    ·exact .inl h
    ·exact .inr ⟨e,by simp,hb,.inl h.symm⟩
    ·exact .inr ⟨e,by simp,hb,.inr h⟩
   ·exact .inl h
  ·exact .inr ⟨e',by simp [he'],h⟩
def zMO(acc:Array Nat)(pre:List Oper):Prop:=acc.size=pre.length∧∀ i j,(acc.getD i 0).testBit j=true→∃ o,pre[i]?=some o∧∃ e∈o.after,Region.binds .any e=true∧(j=e.on∨(acc.getD e.on 0).testBit j=true)
theorem zEf{acc:Array Nat}{b:Nat}(i:Nat)(h:i<acc.size):(acc.push b).getD i 0=acc.getD i 0:=by
 rw [QP,QP,Array.getElem?_push_lt h,QR h]
theorem zFX{acc:Array Nat}{i j:Nat}(h:(acc.getD i 0).testBit j=true):i<acc.size:=by
 rcases Xm i acc.size with h' | h'
 ·exact h'
 ·rw [QP,WS h'] at h; simp at h
theorem zBX:∀ (l pre:List Oper) (acc:Array Nat),zMO acc pre→zMO (l.foldl (fun acc o=>acc.push (o.after.foldl (fun s e=>if Region.binds .any e=true then s ||| 2 ^ e.on ||| acc.getD e.on 0 else s) 0)) acc) (pre++l)
 | [],pre,acc,h=>by simpa using h
 | o::l,pre,acc,h=>by
  rw [List.foldl_cons]
  have:=zBX l (pre++[o]) (acc.push (o.after.foldl (fun s e=>if Region.binds .any e=true then s ||| 2 ^ e.on ||| acc.getD e.on 0 else s) 0)) ⟨by simp [h.1],fun i j hb=>by
   have hi:=zFX hb
   have up:∀ e:Nat,(acc.getD e 0).testBit j=true→∀ b,((acc.push b).getD e 0).testBit j=true:=fun e he b=>by rw [zEf e (zFX he)]; exact he
   by_cases hlt:i<acc.size
   ·rw [zEf i hlt] at hb
    obtain ⟨o',h1,e,h2,h3,h4⟩:=h.2 i j hb
    exact ⟨o',by rw [List.getElem?_append_left (by rw [← h.1]; exact hlt)]; exact h1,e,h2,h3,h4.imp id (fun hh=>up _ hh _)⟩
   ·have hie:i=acc.size:=by simp at hi; omega
    subst hie
    refine ⟨o,by rw [h.1]; simp,?_⟩
    rw [QP,Array.getElem?_push_size,Xk,← WA] at hb
    rcases zEr acc j _ _ hb with hb | ⟨e,h2,h3,h4⟩
    ·simp at hb
    ·exact ⟨e,by simpa using h2,h3,h4.imp id (fun hh=>up _ hh _)⟩⟩
  simpa using this
theorem zGV(ops:Array Oper)(i j:Nat)(h:((Region.before ops).getD i 0).testBit j=true):∃ o,ops[i]?=some o∧∃ e∈o.after,Region.binds .any e=true∧(j=e.on∨((Region.before ops).getD e.on 0).testBit j=true):=by
 have:=zBX ops.toList [] #[] ⟨rfl,fun i j h=>by simp at h⟩
 have e:Region.before ops=ops.toList.foldl (fun acc o=>acc.push (o.after.foldl (fun s e=>if Region.binds .any e=true then s ||| 2 ^ e.on ||| acc.getD e.on 0 else s) 0)) #[]:=by
  unfold Region.before
  rw [← WA]
 rw [← e] at this
 obtain ⟨o,h1,h2⟩:=this.2 i j h
 exact ⟨o,by simpa using h1,h2⟩
section
variable {ren:Rn} {we:World} {ωe:Nat→Ow} {U:Nat→Nat→Prop} {O:Nat→Prop} {P:Program} {nb:Nat} {cb:CB}
def unl(ops:Array Oper)(listed:Array Bool):List Nat:=(Wy ops.size).filter (fun i=>!listed.getD i true)
theorem zvO{ops:Array Oper}{listed:Array Bool}{i:Nat}:i∈unl ops listed↔i<ops.size∧listed.getD i true=false:=by
 simp [unl,List.mem_filter]
theorem zxa(ops:Array Oper)(listed:Array Bool):(unl ops listed).Pairwise (·<·):=List.pairwise_lt_range.filter _
theorem zLW{ops:Array Oper}{listed:Array Bool}{i:Nat}{l1 l2:List Nat}(hi:i<listed.size)(h:unl ops listed=l1++i::l2):unl ops (listed.setIfInBounds i true)=l1++l2:=by
 have hs:=zxa ops listed
 rw [h,Xs] at hs
 obtain ⟨_,h2,h3⟩:=hs
 rw [Xt] at h2
 have e:unl ops (listed.setIfInBounds i true)=(unl ops listed).filter (fun x=>x != i):=by
  unfold unl
  rw [List.filter_filter]
  apply List.filter_congr
  intro x _
  by_cases hx:i=x
  ·subst hx
   simp [QP,hi]
  ·rw [getD_set_ne true hx]
   have:(x != i)=true:=by simpa using fun e=>hx e.symm
   rw [this]; simp
 rw [e,h,List.filter_append,List.filter_cons]
 simp only [bne_self_eq_false,WO,if_false]
 rw [Xg.2 (fun x hx=>by have:=h3 x hx i (by simp); simp; omega),Xg.2 (fun x hx=>by have:=h2.1 x hx; simp; omega)]
theorem zAm{h:Hint}{rid:Nat}{ops:Array Oper}:∀ (l:List Oper) (k:Nat) (cs:List COp),zyl P ren h rid ops l k=some cs→cs.length=l.length∧∀ i o,l[i]?=some o→∃ c,cs[i]?=some c∧cOp P ren h rid ops (k+i) o=some c
 | [],k,cs,hc=>by cases hc; exact ⟨rfl,by simp⟩
 | o::l,k,cs,hc=>by
  simp only [zyl,Wb,Wa,Option.pure_def,Wf] at hc
  obtain ⟨c,h1,rest,h2,rfl⟩:=hc
  obtain ⟨q1,q2⟩:=zAm l (k+1) rest h2
  refine ⟨by simp [q1],fun i o' ho'=>?_⟩
  cases i with
  | zero=>simp at ho'; subst ho'; exact ⟨c,rfl,h1⟩
  | succ i=>
   obtain ⟨c',g1,g2⟩:=q2 i o' (by simpa using ho')
   exact ⟨c',by simpa using g1,by rw [show k+(i+1)=k+1+i by omega]; exact g2⟩
theorem zCR{rt:Option Nat}(before:Array Nat)(cs:List COp)(b:Bool)(i:Nat)(x:COp × Fl)(h:(zg1 rt before cs b)[i]?=some x):cs[i]?=some x.1:=by
 unfold zg1 at h
 rw [List.getElem?_map,List.getElem?_zipIdx] at h
 cases hc:cs[i]? with
 | none=>simp [hc] at h
 | some c=>simp [hc] at h; rw [← h]
theorem zDi{rt:Option Nat}(before:Array Nat)(cs:List COp)(b:Bool):(zg1 rt before cs b).length=cs.length:=by simp [zg1]
theorem zyF{rt:Option Nat}(before:Array Nat)(cs:List COp):∃ b,zdW rt before cs=zg1 rt before cs b:=by
 unfold zdW
 simp only
 split
 ·exact ⟨true,rfl⟩
 ·exact ⟨false,rfl⟩
theorem zEB{rt:Option Nat}(before:Array Nat)(cs:List COp)(i:Nat)(x:COp × Fl)(h:(zdW rt before cs)[i]?=some x):cs[i]?=some x.1:=by
 obtain ⟨b,e⟩:=zyF before cs
 rw [e] at h
 exact zCR before cs b i x h
theorem zE0{rt:Option Nat}(before:Array Nat)(cs:List COp):(zdW rt before cs).length=cs.length:=by
 obtain ⟨b,e⟩:=zyF before cs
 rw [e,zDi]
theorem zMN(hcb:zhG P ren cb){h:Hint}{rid:Nat}{ops:Array Oper}{cs:List COp}(hc:zyl P ren h rid ops ops.toList 0=some cs)(he:zy0 ops=true)(hp:zze (Region.before ops) (zdW (h.rt.lookup rid) (Region.before ops) cs)=true){Q:Exit→Act→World→Prop}{σ':St} :
  ∀ (fuel:Nat) (listed:Array Bool) {σ:St} {a:Act} {w:World} {ω:Nat→Ow} {μ:Nat→Nat},listed.size=ops.size→(∀ i j,listed.getD i false=true→((Region.before ops).getD i 0).testBit j=true→listed.getD j false=true)→(unl ops listed).length=fuel →
   Rel ren we ωe U O σ a w ω μ→zp1 cb nb (zdW (h.rt.lookup rid) (Region.before ops) cs) (unl ops listed) σ=some σ'→Post ren we ωe U O nb μ σ' (Q .normal)→wpAny P .any ops Q fuel listed a w:=by
 obtain ⟨hlen,hget⟩:=zAm _ _ _ hc
 intro fuel
 induction fuel with
 | zero=>
  intro listed σ a w ω μ hsz hdown hl R hs hQ
  have hnil:unl ops listed=[]:=List.length_eq_zero_iff.1 hl
  rw [hnil] at hs
  cases hs
  refine ⟨?_,hQ _ _ _ _ R (fun _ _=>rfl)⟩
  rw [List.eq_nil_iff_forall_not_mem]
  intro j hj
  obtain ⟨h1,o,h2,_⟩:=mem_ready.1 hj
  have:j∈unl ops listed:=zvO.2 ⟨(Qz.1 h2).1,h1⟩
  rw [hnil] at this; cases this
 | succ fuel ih=>
  intro listed σ a w ω μ hsz hdown hl R hs hQ
  have lst:∀ j,j<ops.size→listed.getD j true=true→listed.getD j false=true:=fun j hj h=>by
   rw [QP,QR (by omega)] at h ⊢; exact h
  have unlst:∀ j,listed.getD j true=false→listed.getD j false=true→False:=fun j h1 h2=>by
   rcases Xm j listed.size with h' | h'
   ·rw [QP,QR h'] at h1 h2; simp at h1 h2; rw [h1] at h2; cases h2
   ·rw [QP,WS h'] at h2; cases h2
  refine ⟨fun hr=>?_,fun i hi=>?_⟩
  ·exfalso
   cases hu:unl ops listed with
   | nil=>rw [hu] at hl; cases hl
   | cons i rest=>
    have hm:i∈unl ops listed:=by rw [hu]; simp
    obtain ⟨m1,m2⟩:=zvO.1 hm
    have:i∈Region.ready .any ops listed:=by
     refine mem_ready.2 ⟨m2,ops[i],QR m1,fun e hee hb=>?_⟩
     have hback:e.on<i:=by
      have:=QN.1 he (ops[i],i) (by rw [List.mem_zipIdx_iff_getElem?]; simp [m1])
      have:=Array.all_eq_true_iff_forall_mem.1 this e hee
      simpa [hb] using this
     refine lst _ (by omega) ?_
     cases hx:listed.getD e.on true with
     | true=>rfl
     | false=>
      exfalso
      have hm2:e.on∈unl ops listed:=zvO.2 ⟨by omega,hx⟩
      have hso:=zxa ops listed
      rw [hu] at hm2 hso
      rw [Xt] at hso
      rcases Q8.1 hm2 with h | h
      ·omega
      ·have:=hso.1 _ h; omega
    rw [hr] at this; cases this
  ·obtain ⟨m2,o,ho,hall⟩:=mem_ready.1 hi
   have m1:i<ops.size:=(Qz.1 ho).1
   obtain ⟨l1,l2,hu⟩:=List.append_of_mem (zvO.2 ⟨m1,m2⟩)
   have hbefore:∀ j,((Region.before ops).getD i 0).testBit j=true→listed.getD j false=true:=by
    intro j hj
    obtain ⟨o',ho',e,h1,h2,h3⟩:=zGV ops i j hj
    rw [ho] at ho'; cases ho'
    rcases h3 with rfl | h3
    ·exact hall e h1 h2
    ·exact hdown _ _ (hall e h1 h2) h3
   have hso:=zxa ops listed
   rw [hu,Xs] at hso
   rw [hu] at hs
   have hs':=zJv l1 σ (fun j hj a b hja hib=>by
    have hji:j<i:=hso.2.2 j hj i (by simp)
    have hil:i<(zdW (h.rt.lookup rid) (Region.before ops) cs).length:=(Wh.1 hib).1
    have:=QN.1 hp i (Xq.2 hil)
    have:=QN.1 this j (Xq.2 hji)
    rw [Xc] at this
    rcases this with h | h
    ·exfalso
     have hm:j∈unl ops listed:=by rw [hu]; simp [hj]
     exact unlst j (zvO.1 hm).2 (hbefore j h)
    ·rw [hja,hib] at h; exact h) hs
   rw [zoo] at hs'
   obtain ⟨c,q,σ1,g1,g2,g3,g4⟩:=hs'
   have hci:=zEB _ _ _ _ g1
   obtain ⟨c',hc1,hc2⟩:=hget i o (by simpa using ho)
   rw [hci] at hc1
   cases hc1
   rw [Nat.zero_add] at hc2
   unfold wpOp
   simp only [ho]
   refine zDR R hcb hc2 g2 (fun a' w' ω' μ' R' hm=>?_)
   have hset:=zLW (ops:=ops) (listed:=listed) (by omega) hu
   refine ih (listed.setIfInBounds i true) (by simpa using hsz) (fun i' j hi' hj=>?_) ?_ R' (by rw [hset]; exact g4) (hQ.at hm)
   ·by_cases hii:i=i'
    ·subst hii; exact getD_set_true (hbefore j hj)
    ·rw [getD_set_ne false hii] at hi'
     exact getD_set_true (hdown i' j hi' hj)
   ·rw [hset]
    rw [hu] at hl
    simp at hl ⊢
    omega
theorem zME(hm:P.follows .mixedOrders=true)(cb:CB)(hcb:zhG P ren cb):zBU P ren cb:=by
 intro h id ops cs hc hp nb we ωe U O σ σ' a w ω μ R hs Q hQ
 rw [Wg] at hp
 refine wp_region_any hm ?_
 have R':=(R.sameHeap (w':={ w with drawn:=w.drawn+1 }) rfl rfl rfl rfl).2
 have e:unl ops (Array.replicate ops.size false)=Wy ops.size:=by
  unfold unl
  rw [Xg]
  intro i hi
  have hi:=Xq.1 hi
  simp [QP,hi]
 have hlen:(zdW (h.rt.lookup id) (Region.before ops) cs).length=ops.size:=by rw [zE0,(zAm _ _ _ hc).1]; simp
 refine zMN hcb hc hp.1 hp.2 ops.size _ (by simp) (fun i j hi=>?_) (by rw [e]; simp) R' ?_ hQ
 ·exfalso
  rw [QP,Array.getElem?_replicate] at hi
  split at hi <;> simp at hi
 ·rw [e,List.range_eq_range',← hlen,← zz9 _ _ 0 σ (fun i=>by rw [Nat.zero_add])]
  exact hs
end
end
section
variable {ren:Rn} {P:Program} {w:World}
def zlN:Nat→Nat→Prop:=fun _ _=>False
theorem zHC:wr zlN (fun _=>Ow.no)=zlN:=by
 funext k o
 simp [wr,zlN]
theorem zJs(hgv:GV ren w zlN){args:List V}{us:List Value}(hl:args.length=us.length)(h:∀ (i:Nat) (v:V) (u:Value),args[i]?=some v→us[i]?=some u→RepP ren w zlN v u) :
  Rel ren w (fun _=>Ow.no) zlN No ⟨args,([]:Bor).map toB⟩ ⟨us.toArray,[]⟩ w (fun _=>Ow.no) (fun _=>0):=by
 refine ⟨rfl,by simp [hl],fun i v hv=>?_,fun id p cs hb=>by simp at hb,fun id cs hb=>by simp at hb,fun id es hb=>by simp at hb,Kept.refl _ _,fun k hk=>absurd rfl hk,fun k o h=>h.elim,fun k o u h1 h2=>⟨h1,h2⟩,fun k=>Nat.le_refl _,by rw [zHC]; exact hgv⟩
 have hlt:i<us.length:=by rw [← hl]; exact (Wh.1 hv).1
 have e:(us.toArray).getD i undef=us[i]:=by simp [hlt]
 show Rep ren _ _ _ ((us.toArray).getD i undef)
 rw [e]
 refine .pure ?_
 show RepP ren w (wr zlN (fun _=>Ow.no)) v us[i]
 rw [zHC]
 exact h i v _ hv (Wc hlt)
theorem zIh(hgv:GV ren w zlN){cb:CB}(hcb:zhG P ren cb){f:FuncId}{g:Nat}(hf:ren f=some g){args:List V}{us:List Value}(hl:args.length=us.length)(h:∀ (i:Nat) (v:V) (u:Value),args[i]?=some v→us[i]?=some u→RepP ren w zlN v u)
  {b:Bool} {bor':Bor} (hr:cb g args []=some (.sc (.bool b),bor')):Calls P f us.toArray w fun e w'=>e=.returned (.bool b)∧Kept No w w':=by
 obtain ⟨_,hp⟩:=hcb _ _ _ _ _ hr f hf
 refine (hp w us zlN No (fun _=>Ow.no) (fun _=>0) (zJs hgv hl h)).mono ?_
 rintro e w' ⟨u,ω',μ',rfl,R,_⟩
 have:=(R.ts 0 _ rfl).sc_eq.1
 refine ⟨?_,R.kp⟩
 have hu:u=.bool b:=by simpa using this
 rw [hu]
end
section
structure Row where
 f:Nat
 g:Nat
 h:Hint
 c:CF
def xK(fg:List (Nat × Nat))(gl:List (Nat × List V)):Rn:=⟨fun f=>(fg.find? (fun e=>e.1==f)).map (·.2),fun g=>(gl.find? (fun e=>e.1==g)).map (·.2)⟩
def zNM(fg:List (Nat × Nat)):Rn:=xK fg []
def xH(rows:List Row)(g:Nat):Option CF:=(rows.find? (fun e=>e.g==g)).map (·.c)
def zNU:CB:=fun _ _ _=>none
def zJ2(fg:List (Nat × Nat)):Bool:=zfV (fg.map (·.2))
theorem zBt:∀ (l:List (Nat × Nat)),zfV (l.map (·.2))=true→∀ a∈l,∀ b∈l,a.2=b.2→a=b
 | [],_,a,ha,_,_,_=>by cases ha
 | x::l,h,a,ha,b,hb,e=>by
  simp only [List.map_cons,zfV,Wg,Q9,List.contains_eq_mem,decide_eq_false_iff_not] at h
  rcases Q8.1 ha with ea | ha'
  ·rcases Q8.1 hb with eb | hb'
   ·rw [ea,eb]
   ·exact absurd (Xn.2 ⟨b,hb',by rw [← e,ea]⟩) h.1
  ·rcases Q8.1 hb with eb | hb'
   ·exact absurd (Xn.2 ⟨a,ha',by rw [e,eb]⟩) h.1
   ·exact zBt l h.2 a ha' b hb' e
theorem zKJ{P:Program}{fg:List (Nat × Nat)}{gl:List (Nat × List V)}{rows:List Row}(h1:zJ2 fg=true)(h2:∀ r∈rows,(r.f,r.g)∈fg∧zfU P r.f=true∧zR P (xK fg gl) r.h r.f=some r.c) :
  ∀ g c,xH rows g=some c→∀ f,xK fg gl f=some g→zfU P f=true∧∃ h,zR P (xK fg gl) h f=some c:=by
 intro g c hT f hf
 simp only [xH,Wj] at hT
 obtain ⟨r,hr,rfl⟩:=hT
 have hm:=Xe hr
 have hg:r.g=g:=by have:=Xp hr; simpa using this
 simp only [xK,Wj] at hf
 obtain ⟨x,hx,hx2⟩:=hf
 have hxm:=Xe hx
 have hxf:x.1=f:=by have:=Xp hx; simpa using this
 obtain ⟨q1,q2,q3⟩:=h2 r hm
 have e:=zBt fg h1 _ q1 x hxm (by rw [hx2]; exact hg)
 have ef:r.f=f:=by rw [← hxf,← e]
 subst ef
 exact ⟨q2,r.h,q3⟩
def zJl(P:Program)(ren:Rn)(f:FuncId):Prop:=zfU P f=true∧∀ n:Int,0≤n→n≤1000000000→PCall P ren f [.fr 1 [],.sc (.int .i64 n)] [] (.gs 1 []) []
def zLo(P:Program)(ren:Rn)(sz bytes:Nat)(f:FuncId):Prop:=zfU P f=true∧∀ (n m:Nat) (i:Int) (cs vs:List V),zLt sz bytes n m i cs vs→PCall P ren f [.own 0 0 n sz,.sc (.int .i64 i),.own 1 0 m sz] [.live true cs,.live true vs] (.fr sz (zMk sz n m i.toNat cs vs)) [.dead cs.length,.live true vs]
theorem zLM{P:Program}{ren:Rn}(hg:∀ f,ren f=some 459→zJl P ren f)(hi:∀ f g sz bytes,ren f=some g→zFb g=some (sz,bytes)→zLo P ren sz bytes f):zhG P ren zw6:=by
 intro g args bor r bor' h f hf
 unfold zw6 at h
 split at h
 ·rename_i n
  split at h
  ·rename_i hc
   cases h
   obtain ⟨rfl,h0,h1⟩:=hc
   exact ⟨(hg f hf).1,(hg f hf).2 n h0 h1⟩
  ·cases h
 ·rename_i n s1 i m s2 cs vs
  split at h
  ·rename_i sz bytes he
   split at h
   ·rename_i hc
    cases h
    obtain ⟨rfl,rfl,hk⟩:=hc
    obtain ⟨q1,q2⟩:=hi f g _ bytes hf he
    exact ⟨q1,q2 n m i cs vs hk⟩
   ·cases h
  ·cases h
 ·cases h
theorem zGr{fg:List (Nat × Nat)}{gl:List (Nat × List V)}{f g:Nat}(h:xK fg gl f=some g):(f,g)∈fg:=by
 simp only [xK,Wj] at h
 obtain ⟨x,hx,hx2⟩:=h
 have hxf:x.1=f:=by have:=Xp hx; simpa using this
 have:=Xe hx
 rw [← hxf,← hx2]; exact this
theorem zLI{P:Program}{fg:List (Nat × Nat)}{gl:List (Nat × List V)}(h:fg.all (fun e=>e.2 != 459)=true):∀ f,xK fg gl f=some 459→zJl P (xK fg gl) f:=by
 intro f hf
 have:=QN.1 h _ (zGr hf)
 simp at this
theorem zMQ{P:Program}{fg:List (Nat × Nat)}{gl:List (Nat × List V)}(h:fg.all (fun e=>(zFb e.2).isNone)=true):∀ f g sz bytes,xK fg gl f=some g→zFb g=some (sz,bytes)→zLo P (xK fg gl) sz bytes f:=by
 intro f g sz bytes hf hs
 have:=QN.1 h _ (zGr hf)
 simp [hs] at this
theorem zL4{P:Program}{fg:List (Nat × Nat)}{gl:List (Nat × List V)}{rows:List Row}(hm:P.follows .mixedOrders=true)(h1:zJ2 fg=true)(hp:zhG P (xK fg gl) zw6)(h2:∀ r∈rows,(r.f,r.g)∈fg∧zfU P r.f=true∧zR P (xK fg gl) r.h r.f=some r.c)(L d:Nat):zhG P (xK fg gl) (zpK (evF (xH rows) zw6 L d)):=
 zCY (zI8 (zKJ h1 h2) hp (zME hm) d)
end
end Go.Proofs.Ytoeobffjdbdpgaa
