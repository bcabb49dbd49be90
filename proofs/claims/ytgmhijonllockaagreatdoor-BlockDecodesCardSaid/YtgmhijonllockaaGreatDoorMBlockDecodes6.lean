/- Part 6 of the proof of BlockDecodes: an abstract machine over plain values, its soundness, and the functions of the program on plain values. -/
import Derived.Test.YtgmhijonllockaaGreatDoorMBlockDecodes5
namespace Go.Proofs.YtgmhijonllockaaGreatDoor
set_option maxRecDepth 100000
set_option linter.unusedVariables false
set_option linter.unusedSimpArgs false
open Option renaming bind_eq_some_iff->Wa,bind_eq_bind->Wb,map_eq_some_iff->Wj,pure_def->Wl,bind_some->QT
open List renaming getElem?_eq_getElem->Wc,getD_eq_getElem?_getD->Ws,getElem?_take->Wn,mem_append->QD,mem_of_getElem?->WW,mapM_cons->QX,getElem?_append_left->Wv,getElem?_eq_some_iff->Wi,all_eq_true->QO,getElem?_append_right->Wt,getElem?_map->WJ,mem_filter->QZ,mem_flatMap->Q0,getElem?_replicate->Q1,getElem?_eq_none->Q3,map_cons->QW,flatMap_cons->Q5,mem_append_right->Q7,replicate->We,contains_eq_mem->Q8,mem_cons->Q9,getElem_of_mem->W7,getElem?_drop->Wp
open _root_.Array renaming getD_eq_getD_getElem?->QQ,replicate->QY,getElem?_eq_getElem->QS,getElem?_push_lt->Q2,getElem?_push_size->Q6
open Option.some renaming injEq->Wg
open Bool renaming and_eq_true->Wh,false_eq_true->WP
open Result renaming andThen_ok->WD
open Nat renaming le_refl->Wq,mul_le_mul_right->WI,not_lt_zero->Q4,zero_add->WB
section
variable {ren:Rn} {we:World} {ωe:Nat→Ow} {U:Nat→Nat→Prop} {O:Nat→Prop} {σ:St} {a:Act} {w:World} {ω:Nat→Ow} {μ:Nat→Nat} {P:Program} {nb:Nat}
theorem zPp{args:List V}{bor:Bor}{us:List Value}(nt:Nat)(R:Rel ren we ωe U O ⟨args,bor.map toB⟩ ⟨us.toArray,[]⟩ w ω μ):Rel ren we ωe U O (enter nt args bor) ⟨us.toArray++QY (nt-us.length) undef,[]⟩ w ω μ:=by
 have hlen:us.length=args.length:=by have:=R.tl; simpa using this
 have hb:∀ (id:Nat) (x:B),(enter nt args bor).b[id]?=some x→x=.gone∨(bor.map toB)[id]?=some x:=by
  intro id x hx
  have hx:(bor++We nt B.gone)[id]?=some x:=hx
  rw [← zNF bor] at hx
  by_cases h:id<(bor.map toB).length
  ·rw [Wv h] at hx; exact .inr hx
  ·rw [Wt (by omega)] at hx
   rw [Q1] at hx
   split at hx
   ·cases hx; exact .inl rfl
   ·cases hx
 have hbl:yr (enter nt args bor).b=yr (bor.map toB):=by
  funext id
  unfold yr
  have e:(enter nt args bor).b=bor.map toB++We nt B.gone:=by rw [zNF]; rfl
  rw [e]
  by_cases h:id<(bor.map toB).length
  ·rw [Wv h]
  ·rw [Wt (by omega),Q1,Q3 (l:=bor.map toB) (by omega)]
   split <;> simp_all
 have he:env U (enter nt args bor) w ω μ=env U ⟨args,bor.map toB⟩ w ω μ:=by simp only [env,hbl]
 refine ⟨rfl,by simp [enter,hlen],fun i v hv=>?_,fun id p cs h=>?_,fun id cs h=>?_,fun id es h=>?_,R.kp,R.ow,R.ul,R.fr,R.rs,R.gv⟩
 ·rw [he]
  have hv:(args++We (nt-args.length) (V.tup []))[i]?=some v:=hv
  by_cases h:i<args.length
  ·rw [Wv h] at hv
   have:=R.ts i v hv
   have e:(us.toArray++QY (nt-us.length) undef).getD i undef=us.toArray.getD i undef:=by
    rw [QQ,QQ,Array.getElem?_append_left (by simp; omega)]
   show Rep ren _ _ _ ((us.toArray++QY (nt-us.length) undef).getD i undef)
   rw [e]; exact this
  ·rw [Wt (by omega),Q1] at hv
   split at hv
   ·cases hv
    have e:(us.toArray++QY (nt-us.length) undef).getD i undef=undef:=by
     rw [QQ,Array.getElem?_append_right (by simp; omega),Array.getElem?_replicate]
     split <;> rfl
    show Rep ren _ _ _ ((us.toArray++QY (nt-us.length) undef).getD i undef)
    rw [e]
    exact .tup [] [] rfl (by simp)
   ·cases hv
 ·rw [he]
  rcases hb id _ h with h | h
  ·cases h
  ·exact R.bs id p cs h
 ·rcases hb id _ h with h | h
  ·cases h
  ·exact R.fs id cs h
 ·rcases hb id _ h with h | h
  ·cases h
  ·exact R.ms id es h
def zah(tmps:Array Value):ResultVar→Sem Value
 | .tmp t=>pure (tmps.getD t undef)
 | .cell a t=>do loadVar t (← asAddr (tmps.getD a undef))
def zsJ(nb:Nat)(g:Nat→Nat)(rp:Bool)(v:V)(l:Loc)(id:Nat):Option Ow:=match v with
 | .own id' _ len sz=>if id=id'∧nb≤id then some (.gs l (if rp then len*sz else 0)) else none
 | .ptr id' _=>if id=id' then some (.gs l 0) else none
 | .st cs=>if id∈cs.filterMap zam∧nb≤id then some (if rp then .no else .blk (g id)) else none
 | _=>none
def RV.rp:RV→Bool
 | .tmpP _=>true
 | _=>false
def tgt(nb:Nat)(g:Nat→Nat)(σ:St)(loc:Nat→Loc):List RV→Nat→Ow→Ow
 | [],_,x=>x
 | r::rest,j,x=>match r.slot with
  | none=>tgt nb g σ loc rest (j+1) x
  | some t=>match x with
   | .gs (.slot t' 0) h=>if t'=t then .gs (loc j) h else tgt nb g σ loc rest (j+1) x
   | .blk id=>match zsJ nb g r.rp (σ.t.getD t .junk) (loc j) id with
    | some y=>y
    | none=>tgt nb g σ loc rest (j+1) x
   | _=>tgt nb g σ loc rest (j+1) x
theorem zJk{nb:Nat}{g:Nat→Nat}{rp:Bool}{v:V}{l:Loc}{id:Nat}(h:id ∉ zfX nb v):zsJ nb g rp v l id=none:=by
 unfold zsJ
 unfold zfX at h
 split
 ·rename_i id' off len sz
  simp only at h
  rw [if_neg]
  rintro ⟨rfl,h2⟩
  rw [if_pos h2] at h
  exact h (by simp)
 ·rename_i id' off
  simp only at h
  rw [if_neg]
  rintro rfl
  exact h (by simp)
 ·rename_i cs
  simp only at h
  rw [if_neg]
  rintro ⟨h1,h2⟩
  exact h (QZ.2 ⟨h1,by simpa using h2⟩)
 ·rfl
variable {g:Nat→Nat}
theorem zLW(σ:St)(loc:Nat→Loc):∀ (rs:List RV) (j:Nat),tgt nb g σ loc rs j .no=.no
 | [],_=>rfl
 | r::rest,j=>by
  simp only [tgt]
  split <;> exact zLW σ loc rest (j+1)
theorem zEN(σ:St)(loc:Nat→Loc)(id i h:Nat):∀ (rs:List RV) (j:Nat),tgt nb g σ loc rs j (.gs (.cell id i) h)=.gs (.cell id i) h
 | [],_=>rfl
 | r::rest,j=>by
  simp only [tgt]
  split <;> exact zEN σ loc id i h rest (j+1)
theorem zFC(σ:St)(loc:Nat→Loc)(o:Nat):∀ (rs:List RV) (j:Nat) (x:Ow),owr (tgt nb g σ loc rs j x) o→owr x o
 | [],_,x,h=>h
 | r::rest,j,x,h=>by
  cases x with
  | no=>rw [zLW] at h; exact h
  | blk id=>simp [owr]
  | gs l hh=>
   cases l with
   | cell id i=>rw [zEN] at h; exact h
   | slot t' k=>
    simp only [tgt] at h
    split at h
    ·exact zFC σ loc o rest (j+1) _ h
    ·cases k with
     | zero=>
      simp only at h
      split at h
      ·exact h
      ·exact zFC σ loc o rest (j+1) _ h
     | succ k=>exact zFC σ loc o rest (j+1) _ h
theorem zNu(σ:St)(loc:Nat→Loc)(id:Nat):∀ (rs:List RV) (j:Nat),id ∉ zi5 nb σ rs→tgt nb g σ loc rs j (.blk id)=.blk id
 | [],_,h=>rfl
 | r::rest,j,h=>by
  simp only [zi5,QD,not_or] at h
  have ih:=zNu σ loc id rest (j+1) h.2
  simp only [tgt]
  split
  ·exact ih
  ·rename_i t ht
   rw [ht] at h
   rw [zJk h.1]
   exact ih
theorem zKF(σ:St)(loc:Nat→Loc)(t h:Nat):∀ (rs:List RV) (j i:Nat) (r:RV),zl0 rs=true→rs[i]?=some r→r.slot=some t→tgt nb g σ loc rs j (.gs (.slot t 0) h)=.gs (loc (j+i)) h
 | [],_,i,_,_,hi,_=>by simp at hi
 | r'::rest,j,i,r,hd,hi,hr=>by
  simp only [zl0,Wh] at hd
  cases i with
  | zero=>simp at hi; subst hi; simp [tgt,hr]
  | succ i=>
   have hi:rest[i]?=some r:=by simpa using hi
   have ih:=zKF σ loc t h rest (j+1) i r hd.2 hi hr
   have e:loc (j+1+i)=loc (j+(i+1)):=by congr 1; omega
   rw [e] at ih
   simp only [tgt]
   split
   ·exact ih
   ·rename_i t' ht'
    have h1:=hd.1
    rw [ht'] at h1
    simp only [QO] at h1
    have:=h1 _ (WW hi)
    rw [hr] at this
    simp only [bne_iff_ne,ne_eq] at this
    rw [if_neg (fun e=>this e.symm)]
    exact ih
theorem zGe(σ:St)(t id:Nat)(hv:id∈zfX nb (σ.t.getD t .junk)):∀ (rs:List RV) (i:Nat) (r:RV),rs[i]?=some r→r.slot=some t→id∈zi5 nb σ rs
 | [],i,r,hi,_=>by simp at hi
 | r'::rest,i,r,hi,hr=>by
  simp only [zi5,QD]
  cases i with
  | zero=>simp at hi; subst hi; rw [hr]; exact .inl hv
  | succ i=>exact .inr (zGe σ t id hv rest i r (by simpa using hi) hr)
theorem zy2:∀ (xs ys:List Nat),zgi (xs++ys)=true→zgi ys=true∧∀ x∈xs,x ∉ ys
 | [],ys,h=>⟨h,by simp⟩
 | x::xs,ys,h=>by
  simp only [List.cons_append,zgi,Wh,Bool.not_eq_true',Q8,decide_eq_false_iff_not,QD,not_or] at h
  obtain ⟨q1,q2⟩:=zy2 xs ys h.2
  refine ⟨q1,fun y hy=>?_⟩
  rcases Q9.1 hy with rfl | hy
  ·exact h.1.2
  ·exact q2 y hy
theorem zz0:∀ {xs:List Nat},zgi xs=true→xs.Nodup
 | [],_=>by simp
 | x::xs,h=>by
  simp only [zgi,Wh,Bool.not_eq_true',Q8,decide_eq_false_iff_not] at h
  rw [List.nodup_cons]
  exact ⟨h.1,zz0 h.2⟩
theorem zIo(σ:St)(loc:Nat→Loc)(t id:Nat)(hv:id∈zfX nb (σ.t.getD t .junk)):∀ (rs:List RV) (j i:Nat) (r:RV),zgi (zi5 nb σ rs)=true→rs[i]?=some r→r.slot=some t→∀ y,zsJ nb g r.rp (σ.t.getD t .junk) (loc (j+i)) id=some y→tgt nb g σ loc rs j (.blk id)=y
 | [],_,i,_,_,hi,_,_,_=>by simp at hi
 | r'::rest,j,i,r,hd,hi,hr,y,hy=>by
  simp only [zi5] at hd
  obtain ⟨hd1,hd2⟩:=zy2 _ _ hd
  cases i with
  | zero=>
   simp at hi; subst hi
   simp only [tgt,hr]
   rw [Nat.add_zero] at hy
   rw [hy]
  | succ i=>
   have hi:rest[i]?=some r:=by simpa using hi
   have hm:=zGe σ t id hv rest i r hi hr
   have ih:=zIo σ loc t id hv rest (j+1) i r hd1 hi hr y (by rw [show j+1+i=j+(i+1) by omega]; exact hy)
   simp only [tgt]
   split
   ·exact ih
   ·rename_i t' ht'
    rw [ht'] at hd2
    rw [zJk (fun h=>hd2 id h hm)]
    exact ih
theorem zvj{t:TypeId}{b:Bool}{n:Nat}(h1:zap P t=some b)(h2:xx P t=some n){k q:Nat}(us:List Value)(hb1:b=true→us.length=n)(hb2:b=false→us.length=1)(hc:∀ (j:Nat) (u:Value),us[j]?=some u→w.cell? ⟨k,q+j,none⟩=some u) :
  (loadVar t ⟨k,q,none⟩).run P w=.ok (if b then .agg us.toArray else us.getD 0 undef) w:=by
 have hl:=run_loadCells_list (P:=P) w ⟨k,q,none⟩ us (fun j u hu=>by rw [zc6]; exact hc j u hu)
 simp only [Sem.run_bind,Sem.run_pure,WD,loadVar,zAD h1]
 cases b with
 | true=>
  rw [hb1 rfl] at hl
  simp only [if_true,Sem.run_bind,zab h2,WD,hl,Sem.run_pure]
 | false=>
  cases us with
  | nil=>simp at hb2
  | cons u us=>
   have:=hc 0 u rfl
   simp only [Nat.add_zero] at this
   simp [load,Sem.run,this]
theorem zEK(R:Rel ren we ωe U O σ a w ω μ){id:Nat}{cs vs:List V}{arr:Array Value}(hc:∀ (j:Nat) (c:V),cs[j]?=some c→∃ u,arr[j]?=some u∧u.oneCell'=true∧Rep ren (env U σ w ω μ) (.cell id j) c u)(h:cs.mapM V.plain=some vs):vs.length=cs.length∧∀ (j:Nat) (c:V),vs[j]?=some c→∃ u,arr[j]?=some u∧u.oneCell'=true∧RepP ren w (wr U ω) c u:=by
 refine ⟨zb9 h,fun j c hj=>?_⟩
 have hlt:j<cs.length:=by rw [← zb9 h]; exact (Wi.1 hj).1
 obtain ⟨v',g1,g2⟩:=zhk h j _ (Wc hlt)
 rw [hj] at g1; cases g1
 obtain ⟨u,q1,q2,q3⟩:=hc j _ (Wc hlt)
 exact ⟨u,q1,q2,q3.plain R.hU g2⟩
theorem Rel.blockP(R:Rel ren we ωe U O σ a w ω μ){id:Nat}{p:Bool}{cs vs:List V}(hb:σ.b[id]?=some (.live p cs))(hne:cs≠[])(h:(if p then some cs else cs.mapM V.plain)=some vs) :
  ω (μ id)=.blk id∧vs.length=cs.length∧∃ arr T,w.heap[μ id]?=some (.cells arr T (0,0))∧cs.length≤arr.size∧∀ (j:Nat) (c:V),vs[j]?=some c→∃ u,arr[j]?=some u∧u.oneCell'=true∧RepP ren w (wr U ω) c u:=by
 obtain ⟨e1,arr,T,e2,e3,e4⟩:=R.live hb hne
 cases p with
 | true=>
  cases h
  exact ⟨e1,rfl,arr,T,e2,e3,fun j c hj=>by obtain ⟨u,g1,g2,g3,g4⟩:=e4 j c hj; exact ⟨u,g1,g2,g3 rfl⟩⟩
 | false=>
  obtain ⟨q1,q2⟩:=zEK R (id:=id) (fun j c hj=>by obtain ⟨u,g1,g2,g3,g4⟩:=e4 j c hj; exact ⟨u,g1,g2,g4⟩) h
  exact ⟨e1,q1,arr,T,e2,e3,q2⟩
theorem zQJ(R:Rel ren we ωe U O σ a w ω μ){ω':Nat→Ow}(hwr:∀ k o,wr U ω' k o→wr U ω k o){c v:V}{u:Value}(hc:RepP ren w (wr U ω) c u∨OwnAt (env U σ w ω μ) c u)(h1:u.oneCell'=true)(hno:∀ id,zam c=some id→nb≤id→∀ β,ω β=.blk id→ω' β=.no)(hv:zFB nb σ.b c=some v):RepP ren w (wr U ω') v u:=by
 have mono:∀ {v:V} {u:Value},RepP ren w (wr U ω) v u→RepP ren w (wr U ω') v u:=fun h=>h.mono (fun k o u h1 h2=>⟨fun hh=>h1 (hwr k o hh),h2⟩)
 by_cases hown:∃ id off len sz,c=.own id off len sz
 ·obtain ⟨id,off,len,sz,rfl⟩:=hown
  rcases hc with hc | hc
  ·cases hc
  ·obtain ⟨id',off',len',sz',c',L,A,e,rfl,hL,hl,hcl,hz,hA⟩:=hc
   cases e
   simp only [zFB] at hv
   split at hv
   ·rename_i hge
    split at hv
    ·rename_i cs hb
     cases hv
     have hL':yr σ.b id=some L:=hL
     have:L=cs.length:=by simp [yr,hb] at hL'; exact hL'.symm
     subst this
     by_cases hne:cs=[]
     ·subst hne
      have hnil:∀ (i:Nat) (v:V),¬ (yf sz len (([]:List V).drop off)).flatten[i]?=some v:=by
       intro i v hv
       rw [z9,Wn] at hv
       split at hv
       ·simp at hv
       ·cases hv
      have key:=RepP.sl (ren:=ren) (w:=w) (Wr:=wr U ω') sz (yf sz len (([]:List V).drop off)) A c' (fun _=>undef) (by rw [zw]; exact hcl) (za2 _ _ _ (by simp at hl ⊢; omega)) (μ id) off
       (fun hne=>by
        rcases hA with ⟨h1,_⟩ | ⟨h1,_⟩
        ·exact h1
        ·subst h1; simp [yf] at hne)
       (fun i v hv=>absurd hv (hnil i v)) (fun i v hv=>absurd hv (hnil i v)) (fun i v hv=>absurd hv (hnil i v))
      rw [zw] at key
      exact key
     ·obtain ⟨e0,arr,T,e1,e2,e3⟩:=R.live hb hne
      have hω':=hno id rfl hge _ e0
      have hnw:∀ o,¬ wr U ω' (μ id) o:=by
       intro o ho
       rw [zsA,hω'] at ho
       rcases ho with ho | ho
       ·exact R.noU (by rw [e0]; simp) o ho
       ·exact ho
      have seg:∀ (i:Nat) (v:V),(yf sz len (cs.drop off)).flatten[i]?=some v→∃ u,arr.toList.getD (off+i) undef=u∧arr[off+i]?=some u∧u.oneCell'=true∧RepP ren w (wr U ω') v u:=by
       intro i v hv
       rw [z9,Wn] at hv
       split at hv
       ·rw [Wp] at hv
        obtain ⟨u,g1,g2,g3,_⟩:=e3 _ _ hv
        have g1':arr.toList[off+i]?=some u:=by simpa using g1
        exact ⟨u,by rw [Ws,g1']; rfl,g1,g2,mono (g3 rfl)⟩
       ·cases hv
      have key:=RepP.sl (ren:=ren) (w:=w) (Wr:=wr U ω') sz (yf sz len (cs.drop off)) A c' (fun i=>arr.toList.getD (off+i) undef) (by rw [zw]; exact hcl) (za2 _ _ _ (by simp; omega)) (μ id) off
       (fun hne=>by
        rcases hA with ⟨h1,_⟩ | ⟨h1,_⟩
        ·exact h1
        ·subst h1; simp [yf] at hne)
       (fun i v hv=>by obtain ⟨u,e,g1,g2,g3⟩:=seg i v hv; exact ⟨hnw _,by rw [cell_of_row _ _ _ _ _ _ e1,e]; exact g1⟩)
       (fun i v hv=>by obtain ⟨u,e,g1,g2,g3⟩:=seg i v hv; rw [e]; exact g2) (fun i v hv=>by obtain ⟨u,e,g1,g2,g3⟩:=seg i v hv; rw [e]; exact g3)
      rw [zw] at key
      exact key
    ·rename_i cs hb
     cases hv
     have hL':yr σ.b id=some L:=hL
     have:L=cs.length:=by simp [yr,hb] at hL'; exact hL'.symm
     subst this
     obtain ⟨q0,arr,T,fr,q1,q2,q3⟩:=R.fs id cs hb
     have seg:∀ (i:Nat) (v:V),(yf sz len (cs.drop off)).flatten[i]?=some v→∃ u,arr.toList.getD (off+i) undef=u∧arr[off+i]?=some u∧u.oneCell'=true∧RepP ren w (wr U ω') v u:=by
      intro i v hv
      rw [z9,Wn] at hv
      split at hv
      ·rw [Wp] at hv
       obtain ⟨u,g1,g2,g3⟩:=q3 _ _ hv
       have g1':arr.toList[off+i]?=some u:=by simpa using g1
       exact ⟨u,by rw [Ws,g1']; rfl,g1,g2,mono g3⟩
      ·cases hv
     have key:=RepP.sl (ren:=ren) (w:=w) (Wr:=wr U ω') sz (yf sz len (cs.drop off)) A c' (fun i=>arr.toList.getD (off+i) undef) (by rw [zw]; exact hcl) (za2 _ _ _ (by simp; omega)) (μ id) off
      (fun hne=>by
       rcases hA with ⟨h1,_⟩ | ⟨h1,_⟩
       ·exact h1
       ·subst h1; simp [yf] at hne)
      (fun i v hv=>by obtain ⟨u,e,g1,g2,g3⟩:=seg i v hv; exact ⟨fun hh=>q0 _ (hwr _ _ hh),by rw [cell_of_row _ _ _ _ _ _ q1,e]; exact g1⟩)
      (fun i v hv=>by obtain ⟨u,e,g1,g2,g3⟩:=seg i v hv; rw [e]; exact g2) (fun i v hv=>by obtain ⟨u,e,g1,g2,g3⟩:=seg i v hv; rw [e]; exact g3)
     rw [zw] at key
     exact key
    ·cases hv
   ·cases hv
 ·have hs:zFB nb σ.b c=c.plain:=by
   cases c <;> first | rfl | exact absurd ⟨_,_,_,_,rfl⟩ hown
  rw [hs] at hv
  rcases hc with hc | hc
  ·exact mono ((Rep.pure (E:=env U σ w ω μ) (l:=.slot 0 0) hc).plain R.hU hv)
  ·obtain ⟨id,off,len,sz,_,_,_,e,_⟩:=hc
   exact absurd ⟨id,off,len,sz,e⟩ hown
theorem zQH(R:Rel ren we ωe U O σ a w ω μ){x:ResultVar}{rv:RV}{rp0:Bool}(hx:zcm P rp0 [x]=some [rv]){v:V}(hv:zaT nb σ rv=some v){ω':Nat→Ow}{l:Loc}{σ2:St}{μ2:Nat→Nat}(hwr:∀ k o,wr U ω' k o→wr U ω k o)
  (hslot:∀ t,rv.slot=some t→∀ β h,ω β=.gs (.slot t 0) h→ω' β=.gs l h) (hgone:∀ t id,rv.slot=some t→id∈zfX nb (σ.t.getD t .junk)→∀ y,zsJ nb g rv.rp (σ.t.getD t .junk) l id=some y→∀ β,ω β=.blk id→ω' β=y)
  (hidx:∀ id∈yG v,∀ L,yr σ.b id=some L→yr σ2.b (g id)=some L∧μ2 (g id)=μ id) :
  ∃ u,(zah a.tmps x).run P w=.ok u w∧Rep ren (env U σ2 w ω' μ2) l (zdS g v) u:=by
 have mono:∀ {v:V} {u:Value},RepP ren w (wr U ω) v u→RepP ren w (wr U ω') v u:=fun h=>h.mono (fun k o u h1 h2=>⟨fun hh=>h1 (hwr k o hh),h2⟩)
 have pl:∀ {v:V} {u:Value},RepP ren w (wr U ω) v u→Rep ren (env U σ2 w ω' μ2) l (zdS g v) u:=fun h=>by rw [h.renV_same]; exact .pure (mono h)
 cases x with
 | tmp t=>
  have hrv:rv=.tmp t∨rv=.tmpP t:=by
   simp only [zcm,Wb,QT,Wg,List.cons.injEq,and_true] at hx
   cases rp0 with
   | true=>exact .inr hx.symm
   | false=>exact .inl hx.symm
  have hslot':rv.slot=some t:=by rcases hrv with rfl | rfl <;> rfl
  refine ⟨a.tmps.getD t undef,rfl,?_⟩
  have hr:=R.slot t
  have gsCase:∀ sz es,σ.t.getD t .junk=.gs sz es→v=.gs sz es→Rep ren (env U σ2 w ω' μ2) l (zdS g v) (a.tmps.getD t undef):=by
   intro sz es hs hv
   subst hv
   rw [hs] at hr
   generalize a.tmps.getD t undef=u at hr ⊢
   cases hr with
   | pure h=>exact pl h
   | gs _ _ β c arr T f hω hb hc hn hsz hcell h1 h=>exact .gs _ _ β c arr T f (hslot t hslot' β _ hω) hb hc hn hsz hcell h1 (fun i v hv=>mono (h i v hv))
  rcases hrv with rfl | rfl
  ·simp only [zaT] at hv
   split at hv
   ·rename_i id off len sz hs
    rw [hs] at hr
    split at hv
    ·rename_i hge
     split at hv
     ·rename_i h0
      obtain ⟨h0,hpos⟩:=h0
      split at hv
      ·rename_i cs hb
       split at hv
       ·rename_i hcond
        obtain ⟨c,L,A,e1,e2,e3,e4,e5⟩:=hr.own_inv
        rw [e1]
        have hL:L=cs.length:=by
         have e2:yr σ.b id=some L:=e2
         simp only [yr,hb] at e2
         cases e2; rfl
        subst hL
        subst h0
        cases hv
        have triv:len=0→c=0→Rep ren (env U σ2 w ω' μ2) l (zdS g (.fr sz (yf sz len cs))) (.slice A len c):=by
         rintro rfl rfl
         exact .fr0 _ _
        by_cases hne:cs=[]
        ·subst hne
         have hl0:len=0:=by
          rcases Nat.eq_zero_or_pos len with q | q
          ·exact q
          ·have:=WI sz q
           simp at e3; omega
         refine triv hl0 ?_
         rcases e4.2 rfl with q | q
         ·omega
         ·exact q
        obtain ⟨q1,arr,T,q2,q3,q4⟩:=R.live hb hne
        rcases e5 with ⟨e5,e6⟩ | ⟨e5,e6⟩
        ·rw [e5]
         have hfl:∀ (i:Nat) (v:V),(yf sz len cs).flatten[i]?=some v→cs[i]?=some v:=fun i v hv=>by
          rw [z9,Wn] at hv
          split at hv
          ·exact hv
          ·cases hv
         have e6:0+c*sz≤yA w (μ id):=e6
         rw [zbl q2] at e6
         have hω':ω' (μ id)=.gs l 0:=hgone t id rfl (by rw [hs]; simp [zfX,hge]) (.gs l 0) (by rw [hs]; simp [zsJ,hge,RV.rp]) _ q1
         have key:Rep ren (env U σ2 w ω' μ2) l (.fr sz (yf sz len cs)) (.slice (some ⟨μ id,0,none⟩) (yf sz len cs).length c):=by
          refine .fr sz (yf sz len cs) (μ id) c arr T (fun i=>arr.toList.getD i undef) hω' q2 (by omega) ⟨by rw [zw]; exact e4.1,fun hnil=>?_⟩ (za2 _ _ _ (by omega)) (fun i v hv=>?_) (fun i v hv=>?_) (fun i v hv=>?_)
          ·have hl0:len=0:=by rw [← zw sz len cs,hnil]; rfl
           rcases hcond with q | q
           ·exact absurd hl0 q
           ·exact absurd (List.length_eq_zero_iff.1 q) hne
          all_goals
           (obtain ⟨u,g1,g2,g3,_⟩:=q4 i v (hfl i v hv)
            have g1':arr.toList[i]?=some u:=by simpa using g1
            have e:arr.toList.getD i undef=u:=by rw [Ws,g1']; rfl
            simp only [e])
          ·exact g1
          ·exact g2
          ·exact mono (g3 rfl)
         rw [zw] at key
         exact key
        ·exact triv e5 e6
       ·cases hv
      ·cases hv
     ·cases hv
    ·cases hv
     exact (hr.ownAt.move (E':=env U σ2 w ω' μ2) g (fun id' e L hL=>by cases e; exact hidx id (by simp [yG]) L hL) (fun k=>Wq _)).rep _
   ·rename_i id off hs
    rw [hs] at hr
    split at hv
    ·rename_i h0
     split at hv
     ·rename_i p cs hb
      split at hv
      ·rename_i hcl
       have hne:cs≠[]:=fun e=>hcl (by rw [e]; rfl)
       obtain ⟨vs,hvs,rfl⟩:∃ vs,(if p then some cs else cs.mapM V.plain)=some vs∧v=.bx p vs:=by
        cases p with
        | true=>simp at hv; exact ⟨cs,rfl,hv.symm⟩
        | false=>
          simp only [WP,if_false,Wj] at hv
          obtain ⟨vs,h1,h2⟩:=hv
          exact ⟨vs,by simpa using h1,h2.symm⟩
       obtain ⟨L,e1,e2⟩:=hr.ptr_inv
       rw [e2]
       obtain ⟨q1,q0,arr,T,q2,q3,q4⟩:=R.blockP hb hne hvs
       rw [h0.1]
       have hω':ω' (μ id)=.gs l 0:=hgone t id rfl (by rw [hs]; simp [zfX]) (.gs l 0) (by rw [hs]; simp [zsJ]) _ q1
       refine .bx p vs (μ id) arr T (fun i=>arr.toList.getD i undef) hω' q2 (by omega) (fun i v hv=>?_) (fun i v hv=>?_) (fun i v hv=>?_) <;>
        (obtain ⟨u,g1,g2,g3⟩:=q4 i v hv
         have g1':arr.toList[i]?=some u:=by simpa using g1
         have e:arr.toList.getD i undef=u:=by rw [Ws,g1']; rfl
         simp only [e])
       ·exact g1
       ·exact g2
       ·exact mono g3
      ·cases hv
     ·cases hv
    ·cases hv
   ·rename_i id off len cap sz hs
    rw [hs] at hr
    split at hv
    ·cases hv
    ·cases hv
     obtain ⟨c,L,A,e1,e2,e3,⟨e4,e4',e4''⟩,e5⟩:=hr.cut_inv
     have hle:len*sz≤cap*sz:=WI sz e4
     have ho:OwnAt (env U σ w ω μ) (.own id off len sz) (a.tmps.getD t undef):=
      ⟨id,off,len,sz,c,L,A,rfl,e1,e2,by omega,by omega,e4'',by rcases e5 with q | q; exact .inl q; exact .inr ⟨by omega,q.2⟩⟩
     exact (ho.move (E':=env U σ2 w ω' μ2) g (fun id' e L hL=>by cases e; exact hidx id (by simp [yG]) L hL) (fun k=>Wq _)).rep _
   ·rename_i hs; cases hv; rw [hs] at hr
    cases hr with
    | pure h=>exact pl h
   ·rename_i hs; cases hv; rw [hs] at hr
    cases hr with
    | pure h=>exact pl h
   ·rename_i hs; cases hv; rw [hs] at hr
    cases hr with
    | pure h=>exact pl h
   ·rename_i hs; cases hv; exact gsCase _ _ hs rfl
   ·rename_i cs hs; cases hv; rw [hs] at hr
    exact hr.moveSt (E':=env U σ2 w ω' μ2) (fun k o u h1 h2=>⟨fun hh=>h1 (hwr k o hh),h2⟩) g hidx (fun k=>Wq _)
   ·cases hv
  ·simp only [zaT] at hv
   split at hv
   ·rename_i id off len sz hs
    rw [hs] at hr
    split at hv
    ·rename_i h0
     obtain ⟨hge,h0,hpos⟩:=h0
     split at hv
     ·rename_i cs hb
      obtain ⟨c,L,A,e1,e2,e3,e4,e5⟩:=hr.own_inv
      rw [e1]
      have hL:L=cs.length:=by
       have e2:yr σ.b id=some L:=e2
       simp only [yr,hb] at e2
       cases e2; rfl
      subst hL
      subst h0
      cases hv
      have triv:len=0→c=0→Rep ren (env U σ2 w ω' μ2) l (zdS g (.gs sz (yf sz len cs))) (.slice A len c):=by
       rintro rfl rfl
       exact .pure (.nil _ _)
      by_cases hne:cs=[]
      ·subst hne
       have hl0:len=0:=by
        rcases Nat.eq_zero_or_pos len with q | q
        ·exact q
        ·have:=WI sz q
         simp at e3; omega
       refine triv hl0 ?_
       rcases e4.2 rfl with q | q
       ·omega
       ·exact q
      obtain ⟨q1,arr,T,q2,q3,q4⟩:=R.live hb hne
      rcases e5 with ⟨e5,e6⟩ | ⟨e5,e6⟩
      ·rw [e5]
       have hfl:∀ (i:Nat) (v:V),(yf sz len cs).flatten[i]?=some v→cs[i]?=some v:=fun i v hv=>by
        rw [z9,Wn] at hv
        split at hv
        ·exact hv
        ·cases hv
       have e6:0+c*sz≤yA w (μ id):=e6
       rw [zbl q2] at e6
       have hω':ω' (μ id)=.gs l (len*sz):=hgone t id rfl (by rw [hs]; simp [zfX,hge]) (.gs l (len*sz)) (by rw [hs]; simp [zsJ,hge,RV.rp]) _ q1
       have key:Rep ren (env U σ2 w ω' μ2) l (.gs sz (yf sz len cs)) (.slice (some ⟨μ id,0,none⟩) (yf sz len cs).length c):=by
        refine .gs sz (yf sz len cs) (μ id) c arr T (fun i=>arr.toList.getD i undef) (by rw [zw]; exact hω') q2 (by omega) (by rw [zw]; exact e4.1) (za2 _ _ _ (by omega)) (fun i v hv=>?_) (fun i v hv=>?_) (fun i v hv=>?_)
        all_goals
         (obtain ⟨u,g1,g2,g3,_⟩:=q4 i v (hfl i v hv)
          have g1':arr.toList[i]?=some u:=by simpa using g1
          have e:arr.toList.getD i undef=u:=by rw [Ws,g1']; rfl
          simp only [e])
        ·exact g1
        ·exact g2
        ·exact mono (g3 rfl)
       rw [zw] at key
       exact key
      ·exact triv e5 e6
     ·cases hv
    ·cases hv
   ·rename_i cs hs
    rw [hs] at hr
    obtain ⟨us,eu,hl,hc,h1⟩:=hr.st_inv
    rw [eu]
    rw [Wj] at hv
    obtain ⟨vs,hvs,rfl⟩:=hv
    have hvl:vs.length=cs.length:=zb9 hvs
    refine .pure (.agg vs us (by omega) (fun i v u hvi hui=>?_) h1)
    have hlt:i<cs.length:=by rw [← hvl]; exact (Wi.1 hvi).1
    obtain ⟨v',g1,g2⟩:=zhk hvs i _ (Wc hlt)
    rw [hvi] at g1; cases g1
    refine zQJ R hwr (hc i _ u (Wc hlt) hui) (h1 u (WW hui)) (fun id hid hge β hβ=>?_) g2
    have hmem:id∈cs.filterMap zam:=List.mem_filterMap.2 ⟨_,List.getElem_mem hlt,hid⟩
    exact hgone t id rfl (by rw [hs]; simp only [zfX]; exact QZ.2 ⟨hmem,by simpa using hge⟩) .no (by rw [hs]; simp only [zsJ,RV.rp,if_true]; rw [if_pos ⟨hmem,hge⟩]) β hβ
   ·rename_i hs; cases hv; rw [hs] at hr
    cases hr with
    | pure h=>exact pl h
   ·rename_i hs; cases hv; rw [hs] at hr
    cases hr with
    | pure h=>exact pl h
   ·rename_i hs; cases hv; rw [hs] at hr
    cases hr with
    | pure h=>exact pl h
   ·rename_i hs; cases hv; exact gsCase _ _ hs rfl
   ·cases hv
 | cell t ty=>
  simp only [zcm,Wb,Wa,Wg] at hx
  obtain ⟨agg,ha,n,hn,_,rfl,hx⟩:=hx
  cases hx
  have hr:=R.slot t
  simp only [zaT] at hv
  split at hv
  ·rename_i id off hs
   rw [hs] at hr
   obtain ⟨L,e1,e2⟩:=hr.ptr_inv
   split at hv
   ·rename_i p cs hb
    cases agg with
    | true=>
     simp only [if_true] at hv
     split at hv
     ·rename_i h0
      obtain ⟨vs,hvs,rfl⟩:∃ vs,(if p then some cs else cs.mapM V.plain)=some vs∧v=.agg vs:=by
       cases p with
       | true=>simp at hv; exact ⟨cs,rfl,hv.symm⟩
       | false=>
        simp only [WP,if_false,Wj] at hv
        obtain ⟨vs,h1,h2⟩:=hv
        exact ⟨vs,by simpa using h1,h2.symm⟩
      have hne:cs≠[]:=by rintro rfl; have:=h0.2; simp at this; omega
      obtain ⟨q1,q0,arr,T,q2,q3,q4⟩:=R.blockP hb hne hvs
      refine ⟨.agg (arr.toList.take n).toArray,?_,?_⟩
      ·simp only [zah,e2,Sem.run_bind]
       have:=zvj (P:=P) (w:=w) (k:=μ id) (q:=off) ha hn (arr.toList.take n) (fun _=>by simp; omega) (by simp) (fun j u hu=>by
        rw [h0.1,WB,cell_of_row _ _ _ _ _ _ q2]
        rw [Wn] at hu
        split at hu
        ·simpa using hu
        ·cases hu)
       simpa [asAddr,env] using this
      ·refine pl (CellsP.agg ⟨by simp; omega,fun j c hj=>?_⟩)
       obtain ⟨u,g1,g2,g3⟩:=q4 j c hj
       have hjn:j<n:=by have:=(Wi.1 hj).1; omega
       exact ⟨u,by rw [Wn,if_pos hjn]; simpa using g1,g2,g3⟩
     ·cases hv
    | false=>
     simp only [WP,if_false] at hv
     split at hv
     ·rename_i h0
      rw [Wa] at hv
      obtain ⟨c,hc,hp⟩:=hv
      obtain ⟨q1,arr,T,q2,q3,q4⟩:=R.live hb (by rintro rfl; simp at hc)
      obtain ⟨u,g1,g2,g3,g4⟩:=q4 0 c hc
      refine ⟨u,?_,pl (g4.plain R.hU hp)⟩
      simp only [zah,e2,Sem.run_bind]
      have:=zvj (P:=P) (w:=w) (k:=μ id) (q:=off) ha hn [u] (by simp) (by simp) (fun j u' hu=>by
       cases j with
       | zero=>simp at hu; subst hu; rw [h0.2,cell_of_row _ _ _ _ _ _ q2]; exact g1
       | succ j=>simp at hu)
      simpa [asAddr,env] using this
     ·cases hv
   ·cases hv
  ·cases hv
end
section
variable {ren:Rn} {P:Program}
def noω:Nat→Ow:=fun _=>.no
theorem zLk(W:Nat→Nat→Prop):wr W noω=W:=by
 funext k o
 simp [wr,noω]
theorem zRN{E:En}{l:Loc}{v:V}{u:Value}(hp:zFK v=true)(h:Rep ren E l v u):RepP ren E.w E.Wr v u:=by
 cases v with
 | sc x=>
  obtain ⟨rfl,h1⟩:=h.sc_eq
  exact .sc _ h1
 | agg cs=>exact h.agg_eq
 | sl sz es=>exact h.sl_pure
 | _=>cases hp
theorem zKy{v:V}(h:zKi v=true):∃ x,v=.sc x:=by
 cases v with
 | sc x=>exact ⟨x,rfl⟩
 | _=>cases h
theorem zPT{w w':World}{W:Nat→Nat→Prop}{ω':Nat→Ow}{μ:Nat→Nat}{σ:St}{a:Act}(R:Rel ren w noω W No σ a w' ω' μ){l:Loc}{sz:Nat}{es:Ls}{u:Value}(hf:zHF es=true)
  (h:Rep ren (env W σ w' ω' μ) l (.gs sz es) u):∃ β,w.heap.size≤β∧β<w'.heap.size∧∀ (E:En),E.w=w'→E.ω β=.gs l 0→Rep ren E l (.fr sz es) u:=by
 unfold zHF at hf
 rw [Wh,Wh] at hf
 obtain ⟨hoff,hne,hall⟩:=hf
 have hoff:zFk=false:=by cases h:zFk <;> simp_all
 have hne:es≠[]:=by intro e; subst e; cases hne
 cases h with
 | pure h=>cases h with
  | ful _ _ A f hsz k o hA hcell h1 h hon=>
   rcases hon with h | h
   ·exact absurd h hne
   ·rw [hoff] at h; cases h
 | gs _ _ β c arr T f hω hb hc hn hsz hcell h1 h=>
  have hω:ω' β=.gs l (es.length*sz):=hω
  obtain ⟨q1,q2⟩:=R.ow β (by rw [hω]; simp)
  have q1:w.heap.size≤β:=q1.resolve_right (fun h=>h)
  refine ⟨β,q1,q2,fun E hE hβ=>.fr sz es β c arr T f hβ (by rw [hE]; exact hb) hc ⟨hn,fun e=>absurd e hne⟩ hsz hcell h1 (fun i v hv=>?_)⟩
  obtain ⟨x,rfl⟩:=zKy (QO.1 hall v (WW hv))
  have q:=h i _ hv
  generalize f i=y at q
  cases q with
  | sc _ hx=>exact .sc _ hx
theorem zr4{w w':World}{us:List Value}{args:List V}{U:Nat→Nat→Prop}{O:Nat→Prop}{ω ω' ω2:Nat→Ow}{μ μ':Nat→Nat}{r r':V}{u:Value}(R:Rel ren w ω U O ⟨args,[]⟩ ⟨us.toArray,[]⟩ w ω μ)
  (R':Rel ren w noω (wr U ω) No ⟨[r],[]⟩ ⟨#[u],[]⟩ w' ω' μ') (H:∀ k,ω2 k=ω k∨(w.heap.size≤k∧k<w'.heap.size))
  (hr:Rep ren (env U ⟨[r'],[]⟩ w' ω2 μ') (.slot 0 0) r' u):Rel ren w ω U O ⟨[r'],[]⟩ ⟨#[u],[]⟩ w' ω2 μ':=by
 have hsize:w.heap.size≤w'.heap.size:=R'.kp.size
 refine ⟨rfl,rfl,fun i v hv=>?_,fun id p cs hb=>by simp at hb,fun id cs hb=>by simp at hb,fun id es hb=>by simp at hb,R'.kp.mono (fun k _ h=>h.elim),fun k hk=>?_,R.ul,fun k o x q1 q2=>?_,R'.rs,R.gv⟩
 ·cases i with
  | zero=>
   simp at hv
   subst hv
   exact hr
  | succ i=>simp at hv
 ·rcases H k with e | ⟨h1,h2⟩
  ·rw [e] at hk
   obtain ⟨q1,q2⟩:=R.ow k hk
   exact ⟨q1,by omega⟩
  ·exact ⟨.inl h1,h2⟩
 ·have hk:k<w.heap.size:=World.block_lt_of_cell? w ⟨k,o,none⟩ q2
  have q3:¬ wr (wr U ω) noω k o:=by rw [zLk]; exact q1
  refine ⟨?_,(R'.fr k o x q3 q2).2⟩
  rcases H k with e | ⟨h1,h2⟩
  ·unfold wr at q1 ⊢
   rw [e]
   exact q1
  ·omega
theorem zNq{w w':World}{ω:Nat→Ow}{β:Nat}(h1:w.heap.size≤β)(h2:β<w'.heap.size)(x:Ow):∀ k,upd ω β x k=ω k∨(w.heap.size≤k∧k<w'.heap.size):=by
 intro k
 by_cases e:k=β
 ·subst e; exact .inr ⟨h1,h2⟩
 ·exact .inl (yl _ _ e)
theorem zRD{w:World}{us:List Value}{args:List V}{U:Nat→Nat→Prop}{O:Nat→Prop}{ω:Nat→Ow}{μ:Nat→Nat}(R:Rel ren w ω U O ⟨args,[]⟩ ⟨us.toArray,[]⟩ w ω μ)(hp:args.all zFK=true) :
  Rel ren w noω (wr U ω) No ⟨args,[]⟩ ⟨us.toArray,[]⟩ w noω μ:=by
 refine ⟨rfl,R.tl,fun i v hv=>?_,fun id p cs hb=>by simp at hb,fun id cs hb=>by simp at hb,fun id es hb=>by simp at hb,Kept.refl _ _,fun k hk=>absurd rfl hk,fun k o h=>?_,fun k o u h1 h2=>⟨h1,h2⟩,fun k=>Wq _,by rw [zLk]; exact R.gv⟩
 ·refine .pure ?_
  show RepP ren w (wr (wr U ω) noω) v _
  rw [zLk]
  exact zRN (QO.1 hp v (WW hv)) (R.ts i v hv)
 ·refine ⟨?_,fun h=>h⟩
  rcases h with h | h
  ·exact (R.ul k o h).1
  ·refine (R.ow k (fun e=>?_)).2
   rw [e] at h
   exact h
theorem PCall.fresh{f:FuncId}{args:List V}{r r':V}(h:PCall P ren f args [] r [])(hp:args.all zFK=true)(hr:zOA r=some r'):PCall P ren f args [] r' []:=by
 intro w us U O ω μ R
 refine (h w us (wr U ω) No noω μ (zRD R hp)).mono ?_
 rintro e w' ⟨u,ω',μ',rfl,R',_⟩
 unfold zOA at hr
 split at hr
 ·rename_i sz es
  cases hr
  have q:Rep ren (env (wr U ω) ⟨[.gs sz es],[]⟩ w' ω' μ') (.slot 0 0) (.gs sz es) u:=R'.ts 0 _ rfl
  split
  ·rename_i hf
   obtain ⟨β,h1,h2,h3⟩:=zPT R' hf q
   exact ⟨u,upd ω β (.gs (.slot 0 0) 0),μ',rfl,zr4 R R' (zNq h1 h2 _) (h3 _ rfl (xv _ _ _)),fun k hk=>absurd hk (Q4 k)⟩
  ·exact ⟨u,ω,μ',rfl,zr4 R R' (fun k=>.inl rfl) .junk,fun k hk=>absurd hk (Q4 k)⟩
 ·rename_i sz es vs
  split at hr
  ·rename_i hs
   cases hr
   have q:Rep ren (env (wr U ω) ⟨[.tup (.gs sz es::vs)],[]⟩ w' ω' μ') (.slot 0 0) (.tup (.gs sz es::vs)) u:=R'.ts 0 _ rfl
   obtain ⟨us',rfl,hl,hq⟩:=q.tup_inv
   cases us' with
   | nil=>simp at hl
   | cons u0 us'=>
    have rest:∀ (E:En) (l:Loc) (j:Nat) (v:V) (x:Value),vs[j]?=some v→us'[j]?=some x→Rep ren E l v x:=by
     intro E l j v x hv hx
     obtain ⟨y,rfl⟩:=zKy (QO.1 hs v (WW hv))
     obtain ⟨rfl,hy⟩:=(hq (j+1) (.sc y) x (by simpa using hv) (by simpa using hx)).sc_eq
     exact .pure (.sc _ hy)
    split
    ·rename_i hf
     obtain ⟨β,h1,h2,h3⟩:=zPT R' hf (hq 0 _ _ rfl rfl)
     refine ⟨_,upd ω β (.gs (.slot 0 1) 0),μ',rfl,zr4 R R' (zNq h1 h2 _) (.tup _ _ (by simpa using hl) (fun j v x hv hx=>?_)),fun k hk=>absurd hk (Q4 k)⟩
     cases j with
     | zero=>
      simp at hv hx
      subst hv; subst hx
      exact h3 _ rfl (xv _ _ _)
     | succ j=>exact rest _ _ j v x (by simpa using hv) (by simpa using hx)
    ·refine ⟨_,ω,μ',rfl,zr4 R R' (fun k=>.inl rfl) (.tup _ _ (by simpa using hl) (fun j v x hv hx=>?_)),fun k hk=>absurd hk (Q4 k)⟩
     cases j with
     | zero=>
      simp at hv
      subst hv
      exact .junk
     | succ j=>exact rest _ _ j v x (by simpa using hv) (by simpa using hx)
  ·cases hr
 ·cases hr
theorem zHB{cb:CB}(h:zhB P ren cb):zhB P ren (zrm cb):=by
 intro g args bor r bor' hr f hf
 unfold zrm at hr
 split at hr
 ·exact h g args bor r bor' hr f hf
 ·split at hr
  ·split at hr
   ·rename_i hp
    split at hr
    ·rename_i r0 hc
     split at hr
     ·rename_i r1 hn
      cases hr
      obtain ⟨q1,q2⟩:=h g args [] r0 [] hc f hf
      exact ⟨q1,q2.fresh hp hn⟩
     ·cases hr
    ·cases hr
   ·cases hr
  ·cases hr
end
section
variable {ren:Rn} {we:World} {ωe:Nat→Ow} {U:Nat→Nat→Prop} {O:Nat→Prop} {σ:St} {a:Act} {w:World} {ω:Nat→Ow} {μ:Nat→Nat} {P:Program} {nb:Nat}
theorem zJe{rp:Bool}{x:ResultVar}{xs:List ResultVar}{rs:List RV}(h:zcm P rp (x::xs)=some rs):∃ rv rest,rs=rv::rest∧zcm P rp [x]=some [rv]∧zcm P rp xs=some rest:=by
 cases x with
 | tmp t=>
  simp only [zcm,Wb,Wa,Wg] at h
  obtain ⟨rest,h1,rfl⟩:=h
  exact ⟨_,rest,rfl,rfl,h1⟩
 | cell t ty=>
  simp only [zcm,Wb,Wa,Wg] at h
  obtain ⟨b,hb,n,hn,rest,h1,rfl⟩:=h
  exact ⟨_,rest,rfl,by simp [zcm,hb,hn],h1⟩
variable {g:Nat→Nat}
theorem zJh{rp:Bool}(R:Rel ren we ωe U O σ a w ω μ){ω':Nat→Ow}{loc:Nat→Loc}(hwr:∀ k o,wr U ω' k o→wr U ω k o)(σ2:St)(μ2:Nat→Nat):∀ (xs:List ResultVar) (rs:List RV) (j:Nat) (vs:List V),zcm P rp xs=some rs→rs.mapM (zaT nb σ)=some vs →
  (∀ i r t,rs[i]?=some r→r.slot=some t→(∀ β h,ω β=.gs (.slot t 0) h→ω' β=.gs (loc (j+i)) h)∧(∀ id,id∈zfX nb (σ.t.getD t .junk)→∀ y,zsJ nb g r.rp (σ.t.getD t .junk) (loc (j+i)) id=some y→∀ β,ω β=.blk id→ω' β=y)) →
  (∀ v∈vs,∀ id∈yG v,∀ L,yr σ.b id=some L→yr σ2.b (g id)=some L∧μ2 (g id)=μ id) →
  ∃ us,(xs.mapM (zah a.tmps)).run P w=.ok us w∧us.length=vs.length∧∀ (i:Nat) (v:V) (u:Value),vs[i]?=some v→us[i]?=some u→Rep ren (env U σ2 w ω' μ2) (loc (j+i)) (zdS g v) u
 | [],rs,j,vs,hc,hv,H,H2=>by
  cases hc
  simp at hv; subst hv
  exact ⟨[],by simp,rfl,by simp⟩
 | x::xs,rs,j,vs,hc,hv,H,H2=>by
  obtain ⟨rv,rest,rfl,h1,h2⟩:=zJe hc
  simp only [QX,Wb,Wa,Wl,Wg] at hv
  obtain ⟨v,hv1,vs',hv2,rfl⟩:=hv
  obtain ⟨u,e1,e2⟩:=zQH (g:=g) R h1 hv1 (l:=loc (j+0)) (σ2:=σ2) (μ2:=μ2) hwr (fun t ht=>(H 0 rv t (by simp) ht).1) (fun t id ht hh=>(H 0 rv t (by simp) ht).2 id hh) (fun id hid=>H2 v (by simp) id hid)
  obtain ⟨us,e3,e4,e5⟩:=zJh R hwr σ2 μ2 xs rest (j+1) vs' h2 hv2 (fun i r t hi ht=>by
   have:=H (i+1) r t (by simpa using hi) ht
   rw [show j+1+i=j+(i+1) by omega]; exact this) (fun v' hv'=>H2 v' (by simp [hv']))
  refine ⟨u::us,by simp [QX,e1,e3],by simp [e4],fun i v' u' hv' hu'=>?_⟩
  cases i with
  | zero=>simp at hv' hu'; subst hv'; subst hu'; exact e2
  | succ i=>
   rw [show j+(i+1)=j+1+i by omega]
   exact e5 i v' u' (by simpa using hv') (by simpa using hu')
theorem zFg{b:List B}{ids:List Nat}:∀ (l:List Nat) (bor:Bor),zpY b nb ids l=some bor→bor.length=l.length∧∀ (i:Nat) (x:B),bor[i]?=some x→∃ id y,l[i]?=some id∧b[id]?=some y∧x=y.ren (yN ids)∧y.lend ids=true∧(id<nb∨y.isRow=true)
 | [],bor,h=>by
  simp only [zpY] at h; cases h; exact ⟨rfl,by simp⟩
 | id0::l,bor,h=>by
  simp only [zpY] at h
  split at h
  ·rename_i y hy
   split at h
   ·rename_i hp
    rw [Wj] at h
    obtain ⟨bor1,h1,rfl⟩:=h
    obtain ⟨q1,q2⟩:=zFg l bor1 h1
    refine ⟨by simp [q1],fun i x hx=>?_⟩
    cases i with
    | zero=>
     simp at hx; subst hx
     simp only [Wh,Bool.or_eq_true,decide_eq_true_eq] at hp
     exact ⟨id0,y,rfl,hy,rfl,hp.1,hp.2⟩
    | succ i=>simpa using q2 i x (by simpa using hx)
   ·cases h
  ·cases h
theorem zI3{σ:St}:∀ (rs:List RV) (vs:List V),rs.mapM (zaT nb σ)=some vs→∀ id∈zi5 nb σ rs,nb≤id
 | [],vs,h,id,hid=>by simp [zi5] at hid
 | r::rs,vs,h,id,hid=>by
  simp only [QX,Wb,Wa,Wl,Wg] at h
  obtain ⟨v,hv1,vs',hv2,rfl⟩:=h
  have ih:=zI3 rs vs' hv2 id
  simp only [zi5,QD] at hid
  rcases hid with hid | hid
  ·split at hid
   ·rename_i t ht
    unfold zfX at hid
    split at hid
    ·split at hid
     ·rename_i h; simp at hid; subst hid; exact h
     ·simp at hid
    ·rename_i id' off hs
     simp at hid; subst hid
     cases r with
     | cell _ _ _=>cases ht
     | cellS _ _ _=>cases ht
     | tmp t'=>
      cases ht
      simp only [zaT,hs] at hv1
      split at hv1
      ·rename_i h; exact h.2
      ·cases hv1
     | tmpP t'=>
      cases ht
      simp only [zaT,hs] at hv1
      cases hv1
    ·simpa using (QZ.1 hid).2
    ·simp at hid
   ·simp at hid
  ·exact ih hid
theorem zOZ{rv:RV}{v:V}(h:zaT nb σ rv=some v){id:Nat}(hid:id∈yG v)(hge:nb≤id):∃ t cs,rv=.tmp t∧σ.t.getD t .junk=.st cs∧id∈cs.filterMap zam:=by
 cases rv with
 | cellS t n p=>cases h
 | tmp t=>
  simp only [zaT] at h
  split at h
  ·split at h
   ·split at h
    ·split at h
     ·split at h
      ·cases h; simp [yG] at hid
      ·cases h
     ·cases h
    ·cases h
   ·rename_i hlt
    cases h
    simp [yG] at hid
    omega
  ·split at h
   ·split at h
    ·split at h
     ·split at h
      ·cases h; simp [yG] at hid
      ·rw [Wj] at h
       obtain ⟨_,_,rfl⟩:=h
       simp [yG] at hid
     ·cases h
    ·cases h
   ·cases h
  ·split at h
   ·cases h
   ·rename_i hlt
    cases h
    simp [yG] at hid
    omega
  ·cases h; simp [yG] at hid
  ·cases h; simp [yG] at hid
  ·cases h; simp [yG] at hid
  ·cases h; simp [yG] at hid
  ·rename_i cs hs; cases h; exact ⟨t,cs,rfl,hs,hid⟩
  ·cases h
 | tmpP t=>
  simp only [zaT] at h
  split at h
  ·split at h
   ·split at h
    ·cases h; simp [yG] at hid
    ·cases h
   ·cases h
  ·rw [Wj] at h
   obtain ⟨_,_,rfl⟩:=h
   simp [yG] at hid
  ·cases h; simp [yG] at hid
  ·cases h; simp [yG] at hid
  ·cases h; simp [yG] at hid
  ·cases h; simp [yG] at hid
  ·cases h
 | cell t agg n=>
  exfalso
  simp only [zaT] at h
  split at h
  ·split at h
   ·split at h
    ·split at h
     ·split at h
      ·cases h; simp [yG] at hid
      ·rw [Wj] at h
       obtain ⟨_,_,rfl⟩:=h
       simp [yG] at hid
     ·cases h
    ·split at h
     ·rw [Wa] at h
      obtain ⟨c,_,hp⟩:=h
      unfold V.plain at hp
      split at hp <;> (cases hp; try simp [yG] at hid)
     ·cases h
   ·cases h
  ·cases h
theorem zPz{rv:RV}{v:V}(h:zaT nb σ rv=some v):∀ vs,v≠.tup vs:=by
 rintro vs rfl
 cases rv with
 | cellS t n p=>cases h
 | tmp t=>
  simp only [zaT] at h
  repeat' (split at h)
  all_goals first | (cases h; done) | (rw [Wj] at h; obtain ⟨_,_,e⟩:=h; cases e)
 | tmpP t=>
  simp only [zaT] at h
  repeat' (split at h)
  all_goals first | (cases h; done) | (rw [Wj] at h; obtain ⟨_,_,e⟩:=h; cases e)
 | cell t agg n=>
  simp only [zaT] at h
  split at h
  ·split at h
   ·split at h
    ·split at h
     ·split at h
      ·cases h
      ·rw [Wj] at h; obtain ⟨_,_,e⟩:=h; cases e
     ·cases h
    ·split at h
     ·rw [Wa] at h
      obtain ⟨c,_,hp⟩:=h
      unfold V.plain at hp
      split at hp <;> cases hp
     ·cases h
   ·cases h
  ·cases h
theorem zSI{rp:Bool}(R:Rel ren we ωe U O σ a w ω μ){rs:List RV}{fn:Func}(hrs:zcm P rp fn.results.toList=some rs){r:V}{bor':Bor}(h:zBZ nb σ rs=some (r,bor')) :
  ∃ u,(Go.results fn a.tmps).run P w=.ok u w∧∃ ω' μ',Rel ren we ωe U O ⟨[r],bor'.map toB⟩ ⟨#[u],[]⟩ w ω' μ'∧∀ k,k<nb→μ' k=μ k:=by
 unfold zBZ at h
 simp only [Wb,Wa] at h
 obtain ⟨r0,hr,b0,hb,h⟩:=h
 split at h
 ·rename_i hnd
  simp only [Wl,Wg,Prod.mk.injEq] at h
  obtain ⟨rfl,rfl⟩:=h
  have hn:=zz0 hnd
  obtain ⟨ids,hids⟩:∃ ids,ids=zfn nb r0:=⟨_,rfl⟩
  rw [← hids] at hn hb ⊢
  have hlow:∀ k,k<nb→ids[k]?=some k:=by
   intro k hk
   rw [hids]; unfold zfn
   rw [Wv (by simpa using hk),List.getElem?_range hk]
  have hglow:∀ k,k<nb→yN ids k=k:=fun k hk=>zkJ hn (hlow k hk)
  have hin:∀ id∈zj1 r0,id∈ids:=by
   intro id hid
   rw [hids]; unfold zfn
   by_cases hk:id<nb
   ·exact List.mem_append_left _ (List.mem_range.2 hk)
   ·exact Q7 _ (QZ.2 ⟨hid,by simpa using hk⟩)
  have hhigh:∀ id∈ids,nb≤id→id∈zj1 r0:=by
   intro id hid hge
   rw [hids] at hid; unfold zfn at hid
   rcases QD.1 hid with h | h
   ·have:=List.mem_range.1 h; omega
   ·exact (QZ.1 h).1
  unfold results at hr
  split at hr
  ·rename_i hd
   simp only [Wh] at hd
   obtain ⟨hd1,hd2⟩:=hd
   obtain ⟨loc,vs,hvs,hloc⟩:∃ (loc:Nat→Loc) (vs:List V),rs.mapM (zaT nb σ)=some vs∧((rs.length=1∧vs=[r0]∧loc 0=.slot 0 0∧∀ vs,r0≠.tup vs)∨(rs.length≠1∧r0=.tup vs∧∀ j,loc j=.slot 0 (j+1))):=by
    split at hr
    ·exact ⟨fun _=>.slot 0 0,[r0],by simp [QX,hr],.inl ⟨rfl,rfl,rfl,zPz hr⟩⟩
    ·rename_i hne
     rw [Wj] at hr
     obtain ⟨vs,h1,h2⟩:=hr
     exact ⟨fun j=>.slot 0 (j+1),vs,h1,.inr ⟨fun h=>by
      cases rs with
      | nil=>simp at h
      | cons x xs=>
       cases xs with
       | nil=>exact hne x rfl
       | cons y ys=>simp at h,h2.symm,fun _=>rfl⟩⟩
   have hrefs:∀ v∈vs,∀ id∈yG v,id∈zj1 r0:=by
    intro v hv id hid
    rcases hloc with ⟨_,rfl,_,hnt⟩ | ⟨_,rfl,_⟩
    ·simp at hv; subst hv; rw [(zFY hnt).2.2]; exact hid
    ·simp only [zj1,Q0]; exact ⟨v,hv,hid⟩
   have hrefs':∀ id∈zj1 r0,∃ v∈vs,id∈yG v:=by
    intro id hid
    rcases hloc with ⟨_,rfl,_,hnt⟩ | ⟨_,rfl,_⟩
    ·rw [(zFY hnt).2.2] at hid; exact ⟨r0,by simp,hid⟩
    ·simpa only [zj1,Q0] using hid
   obtain ⟨ω',hω'⟩:∃ ω':Nat→Ow,ω'=fun k=>tgt nb (yN ids) σ loc rs 0 (ω k):=⟨_,rfl⟩
   have hωat:∀ k,ω' k=tgt nb (yN ids) σ loc rs 0 (ω k):=fun k=>by rw [hω']
   have hwr:∀ k o,wr U ω' k o→wr U ω k o:=by
    intro k o h
    rw [zsA] at h ⊢
    rw [hωat] at h
    exact h.imp id (zFC σ loc o rs 0 _)
   obtain ⟨hbl,hbor⟩:=zFg ids b0 hb
   have hge:=zI3 rs vs hvs
   obtain ⟨μ',hμ'⟩:∃ μ':Nat→Nat,μ'=fun k=>μ (ids.getD k 0):=⟨_,rfl⟩
   have hμat:∀ k id,ids[k]?=some id→μ' k=μ id:=by
    intro k id h
    rw [hμ']; simp only
    rw [Ws,h]; rfl
   have hidx:∀ id∈ids,∀ L,yr σ.b id=some L→yr (b0.map toB) (yN ids id)=some L∧μ' (yN ids id)=μ id:=by
    intro id hid L hL
    obtain ⟨h1,h2⟩:=zks hid
    have hlt:yN ids id<b0.length:=by rw [hbl]; exact h1
    obtain ⟨id2,y,g1,g2,g3,g4,g5⟩:=hbor _ _ (Wc hlt)
    rw [h2] at g1; cases g1
    refine ⟨?_,hμat _ _ h2⟩
    unfold yr at hL ⊢
    rw [WJ,Wc hlt,g3]
    rw [g2] at hL
    simp only [Option.map_some,toB]
    cases y with
    | gone=>cases hL
    | live p cs=>simp only [Wg] at hL; cases p <;> simp [B.ren,hL]
    | fz cs=>simp [B.lend] at g4
    | mp es=>simpa [B.ren] using hL
    | dead n=>simpa [B.ren] using hL
   obtain ⟨us,e1,e2,e3⟩:=zJh (nb:=nb) (g:=yN ids) R (loc:=loc) hwr ⟨[zoI (yN ids) r0],b0.map toB⟩ μ' fn.results.toList rs 0 vs hrs hvs (fun i r t hi ht=>⟨fun β h hβ=>by
    rw [hωat,hβ]; exact zKF σ loc t h rs 0 i r hd1 hi ht,fun id hh y hy β hβ=>by
    rw [hωat,hβ]; exact zIo σ loc t id hh rs 0 i r hd2 hi ht y hy⟩) (fun v hv id hid L hL=>hidx id (hin id (hrefs v hv id hid)) L hL)
   have hlen:us.length=rs.length:=by rw [e2,zb9 hvs]
   obtain ⟨u,hrun,hrep⟩:∃ u,(Go.results fn a.tmps).run P w=.ok u w∧Rep ren (env U ⟨[zoI (yN ids) r0],b0.map toB⟩ w ω' μ') (.slot 0 0) (zoI (yN ids) r0) u:=by
    have em:fn.results.mapM (zah a.tmps)=List.toArray <$> fn.results.toList.mapM (zah a.tmps):=by
     rw [← List.mapM_toArray]
    have er:Go.results fn a.tmps=(do
      let vs ← fn.results.mapM (zah a.tmps)
      pure (if h:vs.size=1 then vs[0] else .tuple vs)):=by
     unfold Go.results
     congr 2
    rw [er,em]
    rcases hloc with ⟨h1,h2,h3,hnt⟩ | ⟨h1,h2,h3⟩
    ·rw [h1] at hlen
     obtain ⟨u,rfl⟩:∃ u,us=[u]:=List.length_eq_one_iff.1 hlen
     refine ⟨u,by simp [e1],?_⟩
     subst h2
     have:=e3 0 r0 u rfl rfl
     rw [WB,h3] at this
     rw [(zFY hnt).1] at this ⊢
     exact this
    ·refine ⟨.tuple us.toArray,by simp [e1,hlen,h1],?_⟩
     subst h2
     refine .tup _ us (by simpa using e2.symm) (fun j v u hv hu=>?_)
     rw [WJ] at hv
     cases hvj:vs[j]? with
     | none=>simp [hvj] at hv
     | some v0=>
      simp [hvj] at hv; subst hv
      have:=e3 j v0 u hvj hu
      rw [WB,h3] at this
      exact this
   have hblk:∀ k id,ids[k]?=some id→ω (μ id)=.blk id→ω' (μ id)=.blk k:=by
    intro k id hk hω
    rw [hωat,hω]
    by_cases hlt:id<nb
    ·have:k=id:=by rw [← zkJ hn hk,hglow id hlt]
     subst this
     exact zNu σ loc k rs 0 (fun hh=>by have:=hge k hh; omega)
    ·obtain ⟨v,hv,hvid⟩:=hrefs' id (hhigh id (WW hk) (by omega))
     obtain ⟨i,hi,rfl⟩:=W7 hv
     have hirs:i<rs.length:=by rw [← zb9 hvs]; exact hi
     obtain ⟨v',g1,g2⟩:=zhk hvs i _ (Wc hirs)
     rw [Wc hi] at g1; cases g1
     obtain ⟨t,cs,q1,q2,q3⟩:=zOZ g2 hvid (by omega)
     have:=zIo (g:=yN ids) (nb:=nb) σ loc t id (by rw [q2]; simp only [zfX]; exact QZ.2 ⟨q3,by simp; omega⟩) rs 0 i (.tmp t) hd2 (by rw [Wc hirs,q1]) rfl (.blk (yN ids id)) (by rw [q2]; simp only [zsJ]; rw [if_pos ⟨q3,by omega⟩]; rfl)
     rw [this,zkJ hn hk]
   refine ⟨u,hrun,ω',μ',⟨rfl,rfl,fun i v hv=>?_,fun k p cs h=>?_,fun k cs h=>?_,fun k es h=>?_,R.kp,fun k hk=>?_,R.ul,fun k o u h1 h2=>?_,R.rs,R.gv⟩,fun k hk=>hμat k k (hlow k hk)⟩
   ·cases i with
    | zero=>simp at hv; subst hv; exact hrep
    | succ i=>simp at hv
   ·rw [WJ,Wj] at h
    obtain ⟨x,h1,h2⟩:=h
    have h2:x=.live p cs:=h2
    subst h2
    obtain ⟨id,y,g1,g2,g3,g4,g5⟩:=hbor k _ h1
    obtain ⟨p0,cs0,rfl⟩:∃ p0 cs0,y=.live p0 cs0:=by
     cases y with
     | live p0 cs0=>exact ⟨p0,cs0,rfl⟩
     | gone=>simp [B.lend] at g4
     | fz _=>simp [B.lend] at g4
     | mp _=>simp [B.ren] at g3
     | dead _=>simp [B.ren] at g3
    simp only [B.ren,B.live.injEq] at g3
    obtain ⟨rfl,g3⟩:=g3
    refine zzE fun hne=>?_
    have hne0:cs0≠[]:=by rintro rfl; apply hne; rw [g3]; cases p <;> rfl
    obtain ⟨q1,arr,T,q2,q3,q4⟩:=R.live g2 hne0
    rw [hμat k id g1]
    refine ⟨hblk k id g1 q1,arr,T,q2,by rw [g3]; cases p <;> simpa using q3,fun j c hj=>?_⟩
    have mono:∀ {c:V} {u':Value},RepP ren w (wr U ω) c u'→RepP ren w (wr U ω') c u':=fun hh=>hh.mono (fun k o u h1 h2=>⟨fun hh=>h1 (hwr k o hh),h2⟩)
    rw [g3] at hj
    cases p with
    | true=>
     simp at hj
     obtain ⟨u',x1,x2,x3,x4⟩:=q4 j c hj
     exact ⟨u',x1,x2,fun hp=>mono (x3 hp),.pure (mono (x3 rfl))⟩
    | false=>
     simp only [WP,if_false,WJ] at hj
     cases hcj:cs0[j]? with
     | none=>simp [hcj] at hj
     | some c0=>
      simp [hcj] at hj; subst hj
      obtain ⟨u',x1,x2,x3,x4⟩:=q4 j c0 hcj
      obtain ⟨y1,y3⟩:=zpr (by simp only [B.lend,Bool.false_or,QO] at g4; exact g4 c0 (WW hcj))
      refine ⟨u',x1,x2,by simp,x4.move (E':=env U ⟨[zoI (yN ids) r0],b0.map toB⟩ w ω' μ') (l':=.cell k j) (fun k o u h1 h2=>⟨fun hh=>h1 (hwr k o hh),h2⟩) (yN ids) (fun id2 hid2 L hL=>hidx id2 (y1 id2 hid2) L hL) (fun β h hβ=>⟨?_,rfl⟩) (fun k=>Wq _) y3⟩
      have hlt:id<nb:=by
       rcases g5 with g5 | g5
       ·exact g5
       ·simp [B.isRow] at g5
      have:k=id:=by rw [← zkJ hn g1,hglow id hlt]
      subst this
      have hβ:ω β=.gs (.cell k j) h:=hβ
      show ω' β=_
      rw [hωat,hβ,zEN]
   ·rw [WJ,Wj] at h
    obtain ⟨x,h1,h2⟩:=h
    have h2:x=.fz cs:=h2
    subst h2
    obtain ⟨id,y,g1,g2,g3,g4,g5⟩:=hbor k _ h1
    exfalso
    cases y with
    | live p0 cs0=>simp [B.ren] at g3
    | gone=>simp [B.lend] at g4
    | fz _=>simp [B.lend] at g4
    | mp _=>simp [B.ren] at g3
    | dead _=>simp [B.ren] at g3
   ·rw [WJ,Wj] at h
    obtain ⟨x,h1,h2⟩:=h
    have h2:x=.mp es:=h2
    subst h2
    obtain ⟨id,y,g1,g2,g3,g4,g5⟩:=hbor k _ h1
    obtain ⟨es0,rfl⟩:∃ es0,y=.mp es0:=by
     cases y with
     | mp es0=>exact ⟨es0,rfl⟩
     | live p0 cs0=>simp [B.ren] at g3
     | gone=>simp [B.lend] at g4
     | fz _=>simp [B.lend] at g4
     | dead _=>simp [B.ren] at g3
    simp only [B.ren,B.mp.injEq] at g3
    subst g3
    obtain ⟨q1,arr,clock,q2,q3⟩:=R.ms id _ g2
    rw [hμat k id g1]
    exact ⟨hblk k id g1 q1,arr,clock,q2,q3.mono (fun k o u h1 h2=>⟨fun hh=>h1 (hwr k o hh),h2⟩)⟩
   ·refine R.ow k (fun e=>hk ?_)
    rw [hωat,e,zLW]
   ·obtain ⟨q1,q2⟩:=R.fr k o u h1 h2
    exact ⟨fun hh=>q1 (hwr k o hh),q2⟩
  ·cases hr
 ·cases h
def rvi:ResultVar→Nat
 | .tmp t=>t
 | .cell t _=>t
theorem Rel.pushSlot(R:Rel ren we ωe U O σ a w ω μ){v:V}{u:Value}(h:Rep ren (env U σ w ω μ) (.slot σ.t.length 0) v u):Rel ren we ωe U O { σ with t:=σ.t++[v] } { a with tmps:=a.tmps.push u } w ω μ:=by
 have hl:=R.tl
 refine ⟨R.df,by simp [hl],fun i v' hi=>?_,R.bs,R.fs,R.ms,R.kp,R.ow,R.ul,R.fr,R.rs,R.gv⟩
 by_cases hlt:i<σ.t.length
 ·rw [Wv hlt] at hi
  have:=R.ts i v' hi
  have e:(a.tmps.push u).getD i undef=a.tmps.getD i undef:=by
   rw [QQ,QQ,Q2 (by omega)]
   rw [QS (by omega)]
  show Rep ren (env U σ w ω μ) _ _ _
  rw [e]; exact this
 ·rw [Wt (by omega)] at hi
  have hi0:i=σ.t.length:=by
   have:=(Wi.1 hi).1
   simp at this; omega
  subst hi0
  simp at hi; subst hi
  have e:(a.tmps.push u).getD σ.t.length undef=u:=by
   rw [QQ,← hl,Q6]; rfl
  show Rep ren (env U σ w ω μ) _ _ _
  rw [e]; exact h
theorem zOu(R:Rel ren we ωe U O σ a w ω μ){id:Nat}{cs vs:List V}{arr:Array Value}(hc:∀ (j:Nat) (c:V),cs[j]?=some c→∃ u,arr[j]?=some u∧u.oneCell'=true∧Rep ren (env U σ w ω μ) (.cell id j) c u)(h:cs.mapM V.refd=some vs):vs.length=cs.length∧∀ (j:Nat) (c:V),vs[j]?=some c→∃ u,arr[j]?=some u∧u.oneCell'=true∧(RepP ren w (wr U ω) c u∨OwnAt (env U σ w ω μ) c u):=by
 refine ⟨zb9 h,fun j c hj=>?_⟩
 have hlt:j<cs.length:=by rw [← zb9 h]; exact (Wi.1 hj).1
 obtain ⟨v',g1,g2⟩:=zhk h j _ (Wc hlt)
 rw [hj] at g1; cases g1
 obtain ⟨u,e1,e2,e3⟩:=hc j _ (Wc hlt)
 exact ⟨u,e1,e2,e3.refd R.hU g2⟩
theorem zwD{α β:Type}{f g:α→Sem β}:∀ (l:List α),(∀ x∈l,f x=g x)→l.mapM f=l.mapM g
 | [],h=>rfl
 | x::l,h=>by
  simp only [QX,h x (by simp),zwD l (fun y hy=>h y (by simp [hy]))]
theorem zGN{tmps:Array Value}{tmps':Array Value}{n0:Nat}(h:∀ i,i<n0→tmps'.getD i undef=tmps.getD i undef){x:ResultVar}(hx:rvi x<n0):zah tmps' x=zah tmps x:=by
 cases x with
 | tmp t=>simp only [zah]; rw [h t hx]
 | cell t ty=>simp only [zah]; rw [h t hx]
theorem zRX{rp:Bool}{x:ResultVar}{rv:RV}(h:zcm P rp [x]=some [rv]):(match rv with | .tmp t=>t | .tmpP t=>t | .cell t _ _=>t | .cellS t _ _=>t)=rvi x:=by
 cases x with
 | tmp t=>cases rp <;> simp [zcm] at h <;> subst h <;> rfl
 | cell t ty=>
  simp only [zcm,Wb,Wa,Wg] at h
  obtain ⟨b,_,n,_,l,hl,h⟩:=h
  cases hl
  cases h; rfl
theorem zSs{rp:Bool}{x:ResultVar}{rv:RV}{xs:List ResultVar}{rs:List RV}(h:zcm P rp [x]=some [rv])(h2:zcm P rp xs=some rs):zcm P rp (x::xs)=some (rv::rs):=by
 cases x with
 | tmp t=>cases rp <;> simp [zcm] at h <;> subst h <;> simp [zcm,h2]
 | cell t ty=>
  simp only [zcm,Wb,Wa,Wg] at h
  obtain ⟨b,hb,n,hn,l,hl,h⟩:=h
  cases hl
  cases h
  simp only [zcm,hb,hn,h2,Wb,QT]
def SameW(P:Program){α:Type}(m:Sem α):Prop:=∀ w r w',m.run P w=.ok r w'→w'=w
theorem SameW.pure{α:Type}(x:α):SameW P (Pure.pure x:Sem α):=by
 intro w r w' h
 rw [Sem.run_pure] at h; cases h; rfl
theorem SameW.bind{α β:Type}{m:Sem α}{f:α→Sem β}(h1:SameW P m)(h2:∀ x,SameW P (f x)):SameW P (m >>= f):=by
 intro w r w' h
 rw [Sem.run_bind] at h
 cases hm:m.run P w with
 | ok x w2=>
  rw [hm] at h
  simp only [WD] at h
  rw [h2 x _ _ _ h,h1 _ _ _ hm]
 | halt x w2=>rw [hm] at h; cases h
theorem SameW.load(k:Addr):SameW P (Go.load k):=by
 intro w r w' h
 simp only [Go.load,Sem.run] at h
 split at h
 ·cases h; rfl
 ·split at h
  ·cases h; rfl
  ·cases h
theorem SameW.loads(k:Addr):∀ (n i:Nat) (acc:Array Value),SameW P (loadCellsFrom k i n acc)
 | 0,i,acc=>SameW.pure _
 | n+1,i,acc=>(SameW.load _).bind fun v=>SameW.loads k n (i+1) _
theorem zL7{tmps:Array Value}{x:ResultVar}{u:Value}{w2:World}(h:(zah tmps x).run P w=.ok u w2):w2=w:=by
 have prog:SameW P Go.program:=by
  intro w r w' h
  simp only [Go.program,Sem.run] at h; cases h; rfl
 have stk:∀ {α:Type} (m:String),SameW P (Go.stuck m:Sem α):=by
  intro α m w r w' h
  simp [Go.stuck,Sem.run] at h
 have info:∀ t,SameW P (Go.typeInfo t):=by
  intro t
  unfold Go.typeInfo
  refine prog.bind fun p=>?_
  split
  ·exact SameW.pure _
  ·exact stk _
 cases x with
 | tmp t=>exact SameW.pure _ _ _ _ h
 | cell t ty=>
  refine SameW.bind ?_ (fun k=>?_) w u w2 h
  ·unfold asAddr
   split
   ·exact SameW.pure _
   ·intro w r w' h; simp [Go.runtimePanic] at h
   ·exact stk _
  ·unfold loadVar
   refine SameW.bind ?_ (fun b=>?_)
   ·unfold isAgg
    refine SameW.bind ?_ (fun d=>?_)
    ·unfold Go.underlying
     refine prog.bind fun p=>?_
     split
     ·exact SameW.pure _
     ·exact stk _
    ·split <;> exact SameW.pure _
   ·cases b with
    | true=>exact SameW.bind (by unfold Go.sizeOf; exact (info _).bind fun _=>SameW.pure _) (fun n=>(SameW.loads k n 0 _).bind fun _=>SameW.pure _)
    | false=>exact SameW.load k
theorem zRZ{rp cs:Bool}{n0:Nat}:∀ (xs:List ResultVar) (rs0:List RV) {σ:St} {a:Act} (R:Rel ren we ωe U O σ a w ω μ) {σ1:St} {rs1:List RV},n0≤σ.t.length→zcm P rp xs=some rs0→zjP n0 (rs0.map (RV.boxed cs rp)) σ=some (σ1,rs1) →
  ∃ (a1:Act) (xs1:List ResultVar),Rel ren we ωe U O σ1 a1 w ω μ∧zcm P rp xs1=some rs1∧xs1.length=xs.length∧(∀ x∈xs,rvi x<n0)∧(∀ i,i<σ.t.length→a1.tmps.getD i undef=a.tmps.getD i undef)∧σ1.b=σ.b ∧
   ∀ us w',(xs1.mapM (zah a1.tmps)).run P w=.ok us w'→(xs.mapM (zah a.tmps)).run P w=.ok us w':=by
 intro xs
 induction xs with
 | nil=>
  intro rs0 σ a R σ1 rs1 hn hc hu
  cases hc
  cases hu
  exact ⟨a,[],R,rfl,rfl,fun _ h=>(by cases h),fun _ _=>rfl,rfl,fun us w' h=>h⟩
 | cons x xs ih=>
  intro rs0 σ a R σ1 rs1 hn hc hu
  obtain ⟨rv,rest,rfl,h1,h2⟩:=zJe hc
  have keep:(∃ t b n,rv=.cell t b n∧t<n0)∨(∃ t,rv=.tmp t∧t<n0)∨(∃ t,rv=.tmpP t∧t<n0)→(∃ σ2 rs2,zjP n0 (rest.map (RV.boxed cs rp)) σ=some (σ2,rs2)∧σ1=σ2∧rs1=rv::rs2) →
    ∃ (a1:Act) (xs1:List ResultVar),Rel ren we ωe U O σ1 a1 w ω μ∧zcm P rp xs1=some rs1∧xs1.length=(x::xs).length∧(∀ y∈x::xs,rvi y<n0)∧(∀ i,i<σ.t.length→a1.tmps.getD i undef=a.tmps.getD i undef)∧σ1.b=σ.b ∧
   ∀ us w',(xs1.mapM (zah a1.tmps)).run P w=.ok us w'→((x::xs).mapM (zah a.tmps)).run P w=.ok us w':=by
   rintro hlow ⟨σ2,rs2,e,rfl,rfl⟩
   obtain ⟨a1,xs1,g1,g2,g3,g3',g4,g5,g6⟩:=ih rest R hn h2 e
   have hx:rvi x<n0:=by
    have hi:=zRX h1
    rcases hlow with ⟨t',b,n,e,hl⟩ | ⟨t',e,hl⟩ | ⟨t',e,hl⟩ <;> (subst e; simp only at hi; rw [← hi]; exact hl)
   have hsem:zah a1.tmps x=zah a.tmps x:=zGN (fun i hi=>g4 i (by omega)) hx
   refine ⟨a1,x::xs1,g1,?_,by simp [g3],fun y hy=>(Q9.1 hy).elim (fun e=>e ▸ hx) (g3' y),g4,g5,fun us w' h=>?_⟩
   ·exact zSs h1 g2
   ·simp only [QX,Sem.run_bind,hsem] at h ⊢
    cases hr:(zah a.tmps x).run P w with
    | ok u w2=>
     rw [hr] at h
     simp only [WD] at h ⊢
     have hw2:w2=w:=zL7 hr
     subst hw2
     cases hm:(xs1.mapM (zah a1.tmps)).run P w2 with
     | ok vs w3=>rw [hm] at h; rw [g6 vs w3 hm]; exact h
     | halt x w3=>rw [hm] at h; cases h
    | halt x w3=>rw [hr] at h; cases h
  cases rv with
  | tmp t=>
   simp only [QW,RV.boxed,zjP] at hu
   split at hu
   ·rename_i hl
    split at hu
    ·rename_i σ2 rs2 e
     cases hu
     exact keep (.inr (.inl ⟨t,rfl,by simpa [RV.low] using hl⟩)) ⟨_,_,e,rfl,rfl⟩
    ·cases hu
   ·cases hu
  | tmpP t=>
   simp only [QW,RV.boxed,zjP] at hu
   split at hu
   ·rename_i hl
    split at hu
    ·rename_i σ2 rs2 e
     cases hu
     exact keep (.inr (.inr ⟨t,rfl,by simpa [RV.low] using hl⟩)) ⟨_,_,e,rfl,rfl⟩
    ·cases hu
   ·cases hu
  | cellS t n p=>
   exfalso
   cases x with
   | tmp t=>cases rp <;> simp [zcm] at h1
   | cell t ty=>
    simp only [zcm,Wb,Wa,Wg] at h1
    obtain ⟨b,_,n,_,l,hl,h1⟩:=h1
    cases hl; cases h1
  | cell t b n=>
   have plainCell:(match (if (RV.cell t b n).low n0 then match zjP n0 (rest.map (RV.boxed cs rp)) σ with
     | some (σ1,rs)=>some (σ1,(RV.cell t b n)::rs)
     | none=>none
    else none) with | x=>x)=some (σ1,rs1)→∃ (a1:Act) (xs1:List ResultVar),Rel ren we ωe U O σ1 a1 w ω μ∧zcm P rp xs1=some rs1∧xs1.length=(x::xs).length∧(∀ y∈x::xs,rvi y<n0)∧(∀ i,i<σ.t.length→a1.tmps.getD i undef=a.tmps.getD i undef)∧σ1.b=σ.b ∧
   ∀ us w',(xs1.mapM (zah a1.tmps)).run P w=.ok us w'→((x::xs).mapM (zah a.tmps)).run P w=.ok us w':=by
    intro hu
    simp only at hu
    split at hu
    ·rename_i hl
     split at hu
     ·rename_i σ2 rs2 e
      cases hu
      exact keep (.inl ⟨t,b,n,rfl,by simpa [RV.low] using hl⟩) ⟨_,_,e,rfl,rfl⟩
     ·cases hu
    ·cases hu
   cases b with
   | false=>simp only [QW,RV.boxed,zjP] at hu; exact plainCell hu
   | true=>
    cases cs with
    | false=>simp only [QW,RV.boxed,zjP,WP,if_false] at hu; exact plainCell hu
    | true=>
     simp only [QW,RV.boxed,if_true,zjP] at hu
     split at hu
     ·rename_i id off hs
      split at hu
      ·rename_i cs0 hb
       split at hu
       ·rename_i hc0
        obtain ⟨ht,rfl,hlen,hn0⟩:=hc0
        split at hu
        ·rename_i vs hvs
         split at hu
         ·rename_i σ2 rs2 e
          cases hu
          have hx:∃ ty,x=.cell t ty∧zap P ty=some true∧xx P ty=some n:=by
           cases x with
           | tmp t'=>simp [zcm] at h1; cases rp <;> simp at h1
           | cell t' ty=>
            simp only [zcm,Wb,Wa,Wg] at h1
            obtain ⟨b0,hb0,n',hn',l,hl,h1⟩:=h1
            cases hl
            cases h1
            exact ⟨ty,rfl,hb0,hn'⟩
          obtain ⟨ty,rfl,ha,hn'⟩:=hx
          have hr:Rep ren (env U σ w ω μ) (.slot t 0) (.ptr id 0) (a.tmps.getD t undef):=R.ts t _ hs
          obtain ⟨L,e1,e2⟩:=hr.ptr_inv
          have hne:cs0≠[]:=by rintro rfl; simp at hlen; omega
          obtain ⟨q0,arr,T,q2,q3,q4⟩:=R.live hb hne
          obtain ⟨r1,r2⟩:=zOu R (fun j c hj=>by obtain ⟨u,g1,g2,_,g4⟩:=q4 j c hj; exact ⟨u,g1,g2,g4⟩) hvs
          have hul:(arr.toList.take n).length=n:=by simp; omega
          have hst:Rep ren (env U σ w ω μ) (.slot σ.t.length 0) (.st vs) (.agg (arr.toList.take n).toArray):=by
           refine .st vs (arr.toList.take n) (by omega) (fun j c u hcj hu=>?_) (fun u hu=>?_)
           ·obtain ⟨u',g1,g2,g3⟩:=r2 j c hcj
            rw [Wn] at hu
            split at hu
            ·have:arr[j]?=some u:=by simpa using hu
             rw [this] at g1; cases g1; exact g3
            ·cases hu
           ·obtain ⟨j,hj,e⟩:=W7 hu
            have hjv:j<vs.length:=by omega
            obtain ⟨u',g1,g2,g3⟩:=r2 j _ (Wc hjv)
            have e':(arr.toList.take n)[j]?=some u:=by rw [Wc hj,e]
            rw [Wn] at e'
            split at e'
            ·have:arr[j]?=some u:=by simpa using e'
             rw [this] at g1; cases g1; exact g2
            ·cases e'
          have R':=R.pushSlot hst
          obtain ⟨a1,xs1,g1,g2,g3,g3',g4,g5,g6⟩:=ih rest R' (by simp; omega) h2 e
          have hrun:(zah a.tmps (.cell t ty)).run P w=.ok (.agg (arr.toList.take n).toArray) w:=by
           simp only [zah,e2,Sem.run_bind]
           have:=zvj (P:=P) (w:=w) (k:=μ id) (q:=0) ha hn' (arr.toList.take n) (fun _=>hul) (by simp) (fun j u hu=>by
            rw [WB,cell_of_row _ _ _ _ _ _ q2]
            rw [Wn] at hu
            split at hu
            ·simpa using hu
            ·cases hu)
           simpa [asAddr,env] using this
          have hm:a1.tmps.getD σ.t.length undef=.agg (arr.toList.take n).toArray:=by
           rw [g4 σ.t.length (by simp)]
           show (a.tmps.push _).getD σ.t.length undef=_
           rw [QQ,← R.tl,Q6]; rfl
          refine ⟨a1,.tmp σ.t.length::xs1,g1,?_,by simp [g3],fun y hy=>(Q9.1 hy).elim (fun e=>by rw [e]; exact ht) (g3' y),fun i hi=>?_,g5,fun us w' h=>?_⟩
          ·cases rp <;> simp [zcm,g2]
          ·rw [g4 i (by simp; omega)]
           show (a.tmps.push _).getD i undef=_
           have htl:=R.tl
           rw [QQ,QQ,Q2 (by omega),QS (by omega)]
          ·simp only [QX,Sem.run_bind] at h ⊢
           rw [hrun]
           have h0:(zah a1.tmps (.tmp σ.t.length)).run P w=.ok (.agg (arr.toList.take n).toArray) w:=by
            simp only [zah,hm,Sem.run_pure]
           rw [h0] at h
           simp only [WD] at h ⊢
           cases hm2:(xs1.mapM (zah a1.tmps)).run P w with
           | ok vs w3=>
            rw [hm2] at h
            have low:∀ us w',(xs1.mapM (zah a1.tmps)).run P w=.ok us w'→(xs.mapM (zah a.tmps)).run P w=.ok us w':=fun us w' hh=>by
             have:=g6 us w' hh
             rw [zwD (f:=zah (a.tmps.push (.agg (arr.toList.take n).toArray))) (g:=zah a.tmps) xs (fun y hy=>zGN (n0:=n0) (fun i hi=>by
              have htl:=R.tl
              rw [QQ,QQ,Q2 (by omega),QS (by omega)]) (g3' y hy))] at this
             exact this
            rw [low vs w3 hm2]; exact h
           | halt x w3=>rw [hm2] at h; cases h
         ·cases hu
        ·cases hu
       ·cases hu
      ·split at hu
       ·rename_i ht
        split at hu
        ·rename_i σ2 rs2 e
         cases hu
         exact keep (.inl ⟨t,true,n,rfl,ht⟩) ⟨_,_,e,rfl,rfl⟩
        ·cases hu
       ·cases hu
      ·cases hu
     ·cases hu
theorem zTP{rp cs:Bool}(R:Rel ren we ωe U O σ a w ω μ){rs0:List RV}{fn:Func}(hrs:zcm P rp fn.results.toList=some rs0){r:V}{bor':Bor}(h:zxq nb σ (rs0.map (RV.boxed cs rp))=some (r,bor')) :
  ∃ u,(Go.results fn a.tmps).run P w=.ok u w∧∃ ω' μ',Rel ren we ωe U O ⟨[r],bor'.map toB⟩ ⟨#[u],[]⟩ w ω' μ'∧∀ k,k<nb→μ' k=μ k:=by
 unfold zxq at h
 split at h
 ·rename_i σ1 rs1 hu
  obtain ⟨a1,xs1,g1,g2,g3,_,g4,g5,g6⟩:=zRZ fn.results.toList rs0 R (Wq _) hrs hu
  obtain ⟨u,e1,e2⟩:=zSI (fn:={ fn with results:=xs1.toArray }) g1 (by simpa using g2) h
  refine ⟨u,?_,e2⟩
  have em:∀ (xs:Array ResultVar) (tmps:Array Value),xs.mapM (zah tmps)=List.toArray <$> xs.toList.mapM (zah tmps):=by
   intro xs tmps
   rw [← List.mapM_toArray]
  have er:∀ (f:Func) (tmps:Array Value),Go.results f tmps=(do
    let vs ← f.results.mapM (zah tmps)
    pure (if h:vs.size=1 then vs[0] else .tuple vs)):=by
   intro f tmps
   unfold Go.results
   congr 2
  rw [er,em] at e1 ⊢
  simp only [Sem.run_bind,Sem.run_map] at e1 ⊢
  cases hm:(xs1.mapM (zah a1.tmps)).run P w with
  | ok us w'=>
   rw [hm] at e1
   rw [g6 us w' hm]
   exact e1
  | halt x w'=>rw [hm] at e1; cases e1
 ·cases h
theorem zQj{T:Nat→Option CF}{pr:CB}{L:Nat}(hT:∀ g c,T g=some c→∀ f,ren f=some g→zel P f=true∧∃ h,zv0 P ren h f=some c)(hpr:zhB P ren pr)(hdraw:∀ cb,zhB P ren cb→zF5 P ren cb):∀ d,zhB P ren (evF T pr L d)
 | 0=>by intro g args bor r bor' h; cases h
 | d+1=>by
  have ih:=zQj (L:=L) hT hpr hdraw d
  intro g args bor r bor' h f hf
  simp only [evF] at h
  split at h
  ·exact hpr g args bor r bor' h f hf
  ·rename_i c hc
   obtain ⟨hcall,hint,hfun⟩:=hT g c hc f hf
   refine ⟨hcall,fun w us U O ω μ R=>?_⟩
   simp only [zv0,Wb,Wa,Prod.exists] at hfun
   obtain ⟨fn,hfn,body,hbody,cc,ms',hcode,rs,hrs,hfun⟩:=hfun
   split at hfun
   ·cases hfun
    have E:=zPp fn.ntmps R
    refine calls_of_wp hfn hbody ?_
    have key:∀ ex σ',run (zrm (evF T pr L d)) bor.length L cc (enter fn.ntmps args bor)=some (ex,σ')→(ex=.normal∨ex=.ret)→zxq bor.length σ' (rs.map (RV.boxed hint.cs hint.rp))=some (r,bor') →
      body.wp P (bodyPost P fn fun e w'=>∃ u ω' μ',e=.returned u∧Rel ren w ω U O ⟨[r],bor'.map toB⟩ ⟨#[u],[]⟩ w' ω' μ'∧∀ k,k<bor.length→μ' k=μ k) ⟨us.toArray++QY (fn.ntmps-us.toArray.size) undef,[]⟩ w:=by
     intro ex σ' hrun hex hl
     rw [List.size_toArray]
     refine zVQ (zHB ih) (hdraw _ (zHB ih)) body _ _ cc hcode E hrun _ ?_
     intro a1 w1 ω1 μ1 R1 hm
     obtain ⟨u,q1,ω2,μ2,q2,q3⟩:=zTP R1 hrs hl
     rcases hex with rfl | rfl <;> exact ⟨R1.df,u,q1,u,ω2,μ2,rfl,q2,fun k hk=>(q3 k hk).trans (hm k hk)⟩
    split at h
    ·rename_i σ' hrun
     exact key _ σ' hrun (.inl rfl) h
    ·rename_i σ' hrun
     exact key _ σ' hrun (.inr rfl) h
    ·cases h
   ·cases hfun
end
section
theorem zh{σ σ':St}{s:Src}(h:∀ t∈s.tmps,σ'.t[t]?=σ.t[t]?):s.get σ'=s.get σ:=by
 cases s with
 | const v=>rfl
 | tmp t=>simp only [Src.get,Ws]; rw [h t (by simp [Src.tmps])]
theorem zj0{σ σ':St}:∀ (ps:List (Nat × Nat × Src)) (cs:List V),(∀ t∈ps.flatMap (fun p=>p.2.2.tmps),σ'.t[t]?=σ.t[t]?)→zcA σ' ps cs=zcA σ ps cs
 | [],cs,h=>rfl
 | (off,n,x)::ps,cs,h=>by
  have h1:x.get σ'=x.get σ:=zh (fun t ht=>h t (by simp [ht]))
  have h2:∀ cs,zcA σ' ps cs=zcA σ ps cs:=fun cs=>zj0 ps cs (fun t ht=>h t (by simp only [Q5,QD]; exact .inr ht))
  simp only [zcA,h1,h2]
theorem zwz{σ σ':St}:∀ (ps:List (Nat × Nat × Src)) (cs:List V),(∀ t∈ps.flatMap (fun p=>p.2.2.tmps),σ'.t[t]?=σ.t[t]?)→zff σ' ps cs=zff σ ps cs
 | [],cs,h=>rfl
 | (off,n,x)::ps,cs,h=>by
  have h1:x.get σ'=x.get σ:=zh (fun t ht=>h t (by simp [ht]))
  have h2:∀ cs,zff σ' ps cs=zff σ ps cs:=fun cs=>zwz ps cs (fun t ht=>h t (by simp only [Q5,QD]; exact .inr ht))
  simp only [zff,h1,h2]
theorem zvJ{σ σ':St}{x:Option Src}(h:∀ t∈Src.tmpsO x,σ'.t[t]?=σ.t[t]?)(d m:Nat):znP σ' x d m=znP σ x d m:=by
 cases x with
 | none=>rfl
 | some s=>simp only [znP]; rw [zh (s:=s) h]
theorem zoi{σ σ':St}{l h m:Option Src}(hh:∀ t∈Src.tmpsO l++Src.tmpsO h++Src.tmpsO m,σ'.t[t]?=σ.t[t]?)(len:Nat):zhR σ' len l h m=zhR σ len l h m:=by
 simp only [zhR]
 simp only [zvJ (x:=m) (fun t ht=>hh t (by simp [ht])),zvJ (x:=h) (fun t ht=>hh t (by simp [ht])),zvJ (x:=l) (fun t ht=>hh t (by simp [ht]))]
theorem zDn{σ σ':St}(k:K)(h:∀ t∈xt k,σ'.t[t]?=σ.t[t]?)(hb:σ'.b=σ.b∨yy k=true):xj σ' k=xj σ k:=by
 cases k with
 | pick c a b=>
  simp only [xt] at h
  simp only [xj,zh (s:=c) (fun t ht=>h t (by simp [ht])),zh (s:=a) (fun t ht=>h t (by simp [ht])),zh (s:=b) (fun t ht=>h t (by simp [ht]))]
 | build z ps=>simp only [xt] at h; simp only [xj,zj0 ps z h]
 | buildSt z ps=>simp only [xt] at h; simp only [xj,zwz ps z h]
 | nilCheck x=>simp only [xt] at h; simp only [xj,zh h]
 | bin op x y=>
  simp only [xt] at h
  simp only [xj,zh (s:=x) (fun t ht=>h t (by simp [ht])),zh (s:=y) (fun t ht=>h t (by simp [ht]))]
 | eqAgg n m x y=>
  simp only [xt] at h
  simp only [xj,zh (s:=x) (fun t ht=>h t (by simp [ht])),zh (s:=y) (fun t ht=>h t (by simp [ht]))]
 | nilT n x=>simp only [xt] at h; simp only [xj,zh h]
 | eqB n x y=>
  simp only [xt] at h
  simp only [xj,zh (s:=x) (fun t ht=>h t (by simp [ht])),zh (s:=y) (fun t ht=>h t (by simp [ht]))]
 | un op x=>simp only [xt] at h; simp only [xj,zh h]
 | conv k x=>simp only [xt] at h; simp only [xj,zh h]
 | toStr x=>
  simp only [xt] at h
  rcases hb with hb | hb
  ·simp only [xj,zh h,hb]
  ·simp [yy] at hb
 | see x=>
  simp only [xt] at h
  rcases hb with hb | hb
  ·simp only [xj,zh h,hb]
  ·simp [yy] at hb
 | cmpB x y=>
  simp only [xt] at h
  rcases hb with hb | hb
  ·simp only [xj,zh (s:=x) (fun t ht=>h t (by simp [ht])),zh (s:=y) (fun t ht=>h t (by simp [ht])),hb]
  ·simp [yy] at hb
 | sliceA n sz x l hh m=>
  simp only [xt] at h
  rcases hb with hb | hb
  ·simp only [xj,zh (s:=x) (fun t ht=>h t (by simp [ht])),zoi (l:=l) (h:=hh) (m:=m) (fun t ht=>h t (by simp only [QD] at ht ⊢; grind)),hb]
  ·simp [yy] at hb
 | sliceS sz x l hh m=>
  simp only [xt] at h
  have hn:∀ t∈Src.tmpsO l++Src.tmpsO hh++Src.tmpsO none,σ'.t[t]?=σ.t[t]?:=fun t ht=>h t (by
   have e:Src.tmpsO none=[]:=rfl
   rw [e,List.append_nil] at ht
   simp only [QD] at ht ⊢; grind)
  simp only [xj,zh (s:=x) (fun t ht=>h t (by simp [ht])),zoi (l:=l) (h:=hh) (m:=m) (fun t ht=>h t (by simp only [QD] at ht ⊢; grind)),zoi hn]
 | sliceC sz x hh=>
  simp only [xt] at h
  have hn:∀ t∈Src.tmpsO none++Src.tmpsO hh++Src.tmpsO none,σ'.t[t]?=σ.t[t]?:=fun t ht=>h t (by
   have e:Src.tmpsO none=[]:=rfl
   rw [e,List.append_nil,List.nil_append] at ht
   simp [ht])
  simp only [xj,zh (s:=x) (fun t ht=>h t (by simp [ht])),zoi hn]
 | fieldAddr o x=>simp only [xt] at h; simp only [xj,zh h]
 | field a o n x=>simp only [xt] at h; simp only [xj,zh h]
 | indexAddrA l sz x i=>
  simp only [xt] at h
  simp only [xj,zh (s:=x) (fun t ht=>h t (by simp [ht])),zh (s:=i) (fun t ht=>h t (by simp [ht]))]
 | indexAddrS sz x i=>
  simp only [xt] at h
  simp only [xj,zh (s:=x) (fun t ht=>h t (by simp [ht])),zh (s:=i) (fun t ht=>h t (by simp [ht]))]
 | indexA a l sz x i=>
  simp only [xt] at h
  simp only [xj,zh (s:=x) (fun t ht=>h t (by simp [ht])),zh (s:=i) (fun t ht=>h t (by simp [ht]))]
 | arrP n sz x=>simp only [xt] at h; simp only [xj,zh h]
 | lenS x=>simp only [xt] at h; simp only [xj,zh h]
 | lenT x=>simp only [xt] at h; simp only [xj,zh h]
 | lenA n=>rfl
 | pull x i=>simp only [xt] at h; simp only [xj,zh h]
 | adc s c a b=>
  simp only [xt] at h
  simp only [xj,zh (s:=c) (fun t ht=>h t (by simp [ht])),zh (s:=a) (fun t ht=>h t (by simp [ht])),zh (s:=b) (fun t ht=>h t (by simp [ht]))]
 | mm b x y=>
  simp only [xt] at h
  simp only [xj,zh (s:=x) (fun t ht=>h t (by simp [ht])),zh (s:=y) (fun t ht=>h t (by simp [ht]))]
 | makeFunc f caps=>
  simp only [xt] at h
  have hc:∀ c∈caps,c.get σ'=c.get σ:=fun c hc=>zh (fun t ht=>h t (Q0.2 ⟨c,hc,ht⟩))
  have e1:caps.map (fun c=>c.get σ')=caps.map (fun c=>c.get σ):=List.map_congr_left hc
  have e2:(caps.all fun c=>zuf (c.get σ'))=(caps.all fun c=>zuf (c.get σ)):=by
   rw [Bool.eq_iff_iff,QO,QO]
   constructor
   ·intro hh c hcc; rw [← hc c hcc]; exact hh c hcc
   ·intro hh c hcc; rw [hc c hcc]; exact hh c hcc
  simp only [xj,e1,e2]
 | _=>rfl
structure Over (W:List Nat) (σ σ1 σ' σ1':St):Prop where
 b:σ1'.b=σ1.b
 on:∀ k∈W,σ1'.t[k]?=σ1.t[k]?
 off:∀ k,k ∉ W→σ1'.t[k]?=σ'.t[k]?
 fr:∀ k,k ∉ W→σ1.t[k]?=σ.t[k]?
 len:σ1.t.length=σ.t.length
 len':σ1'.t.length=σ'.t.length
theorem xT(σ:St)(d:Option Nat)(v:V)(k:Nat):(σ.put d v).t[k]?=if d=some k∧k<σ.t.length then some v else σ.t[k]?:=by
 cases d with
 | none=>simp [St.put]
 | some d=>
  simp only [St.put,List.getElem?_set]
  by_cases h:d=k
  ·subst h
   by_cases h2:d<σ.t.length
   ·simp [h2]
   ·simp [h2]
  ·simp [h]
theorem yO(σ:St)(d:Option Nat)(v:V):(σ.put d v).b=σ.b:=by cases d <;> rfl
theorem zjh(σ:St)(d:Option Nat)(v:V):(σ.put d v).t.length=σ.t.length:=by cases d <;> simp [St.put]
theorem zxN(σ:St)(s:Src)(k:Nat):(σ.demote s).t[k]?=if k∈s.tmps then (σ.t[k]?).map V.dem else σ.t[k]?:=by
 cases s with
 | const v=>simp [St.demote,Src.tmps]
 | tmp t=>
  simp only [St.demote,Src.tmps,List.mem_singleton,List.getElem?_modify]
  by_cases h:k=t
  ·subst h; simp
  ·have:¬ t=k:=fun e=>h e.symm
   simp [h,this]
theorem zhp(σ:St)(s:Src):(σ.demote s).b=σ.b:=by cases s <;> rfl
theorem zan(σ:St)(s:Src):(σ.demote s).t.length=σ.t.length:=by cases s <;> simp [St.demote]
theorem zbN{W:List Nat}{σ σ':St}{d:Option Nat}(v:V)(hl:σ'.t.length=σ.t.length)(hb:σ'.b=σ.b)(hd:∀ k,d=some k→k∈W)(hW:∀ k∈W,d≠some k→σ'.t[k]?=σ.t[k]?):Over W σ (σ.put d v) σ' (σ'.put d v):=by
 refine ⟨by rw [yO,yO,hb],fun k hk=>?_,fun k hk=>?_,fun k hk=>?_,zjh _ _ _,zjh _ _ _⟩
 ·rw [xT,xT,hl]
  by_cases h:d=some k∧k<σ.t.length
  ·rw [if_pos h,if_pos h]
  ·rw [if_neg h,if_neg h]
   by_cases h2:d=some k
   ·have:¬ k<σ.t.length:=fun h3=>h ⟨h2,h3⟩
    rw [Q3 (by omega),Q3 (by omega)]
   ·exact hW k hk h2
 ·rw [xT,if_neg (fun h=>hk (hd k h.1))]
 ·rw [xT,if_neg (fun h=>hk (hd k h.1))]
theorem zfS{W:List Nat}{σ σ' σ1:St}{nb:Nat}{d:Option Nat}{x:B}{f:Nat→V}(hl:σ'.t.length=σ.t.length)(hb:σ'.b=σ.b)(hd:∀ k,d=some k→k∈W)(hW:∀ k∈W,d≠some k→σ'.t[k]?=σ.t[k]?)(h:σ.newB nb d x f=some σ1):∃ σ1',σ'.newB nb d x f=some σ1'∧Over W σ σ1 σ' σ1':=by
 cases d with
 | none=>simp [St.newB] at h
 | some d=>
  have hg':σ'.b[nb+d]?=σ.b[nb+d]?:=by rw [hb]
  rcases hg:σ.b[nb+d]? with _ | x'
  ·simp only [St.newB,hg] at h; cases h
  ·cases x' with
   | gone=>
    simp only [St.newB,hg] at h
    rw [hg] at hg'
    simp only [St.newB,hg']
    cases h
    refine ⟨_,rfl,?_⟩
    have q:=zbN (W:=W) (σ:=σ.setB (nb+d) x) (σ':=σ'.setB (nb+d) x) (d:=some d) (f (nb+d)) hl (by simp [St.setB,hb]) hd hW
    exact ⟨q.b,q.on,q.off,q.fr,q.len,q.len'⟩
   | live p cs=>simp only [St.newB,hg] at h; cases h
   | fz cs=>simp only [St.newB,hg] at h; cases h
   | mp es=>simp only [St.newB,hg] at h; cases h
   | dead n=>simp only [St.newB,hg] at h; cases h
theorem zm9{W:List Nat}{σ σ' σ1:St}{nb:Nat}{d:Option Nat}{pin:Bool}{sz:Nat}{es:Ls}(hl:σ'.t.length=σ.t.length)(hb:σ'.b=σ.b)(hd:∀ k,d=some k→k∈W)(hW:∀ k∈W,d≠some k→σ'.t[k]?=σ.t[k]?)(h:σ.putG nb d pin sz es=some σ1):∃ σ1',σ'.putG nb d pin sz es=some σ1'∧Over W σ σ1 σ' σ1':=by
 unfold St.putG at h ⊢
 split at h
 ·rename_i hp; simp only [hp,if_true]; exact zfS hl hb hd hW h
 ·rename_i hp; cases h; simp only [hp]; exact ⟨_,rfl,zbN _ hl hb hd hW⟩
theorem zIZ{W:List Nat}{σ σ' σ1:St}{nb:Nat}{d:Option Nat}{pin:Bool}{v:V}(hl:σ'.t.length=σ.t.length)(hb:σ'.b=σ.b)(hd:∀ k,d=some k→k∈W)(hW:∀ k∈W,d≠some k→σ'.t[k]?=σ.t[k]?)(h:σ.putR nb d pin v=some σ1):∃ σ1',σ'.putR nb d pin v=some σ1'∧Over W σ σ1 σ' σ1':=by
 cases v with
 | gs sz es=>
  simp only [St.putR] at h ⊢
  split at h
  ·cases h
  ·rename_i hp; cases h; simp only [hp]; exact ⟨_,rfl,zbN _ hl hb hd hW⟩
 | fr sz es=>
  simp only [St.putR] at h ⊢
  exact zm9 hl hb hd hW h
 | bx p cs=>simp only [St.putR] at h ⊢; exact zfS hl hb hd hW h
 | _=>simp only [St.putR] at h ⊢; cases h; exact ⟨_,rfl,zbN _ hl hb hd hW⟩
theorem Over.shift{W:List Nat}{σ σ0 σ1 σ' σ0' σ1':St}(h:Over W σ0 σ1 σ0' σ1')(h1:∀ k,k ∉ W→σ0.t[k]?=σ.t[k]?)(h2:∀ k,k ∉ W→σ0'.t[k]?=σ'.t[k]?)(h3:σ0.t.length=σ.t.length)(h4:σ0'.t.length=σ'.t.length):Over W σ σ1 σ' σ1':=
 ⟨h.b,h.on,fun k hk=>(h.off k hk).trans (h2 k hk),fun k hk=>(h.fr k hk).trans (h1 k hk),h.len.trans h3,h.len'.trans h4⟩
theorem zmo{σ σ':St}(hb:σ'.b=σ.b){s:Src × Nat}(h:∀ t∈s.1.tmps,σ'.t[t]?=σ.t[t]?):zby σ' s=zby σ s:=by
 simp only [zby,zw5,zh h,hb]
theorem zk4{σ σ':St}:∀ (ss:List (Src × Nat)) (b:List B),(∀ t∈ss.flatMap (fun p=>p.1.tmps),σ'.t[t]?=σ.t[t]?)→xo σ' ss b=xo σ ss b
 | [],b,h=>rfl
 | s::ss,b,h=>by
  have h1:s.1.get σ'=s.1.get σ:=zh (fun t ht=>h t (by simp [ht]))
  simp only [xo,h1]
  exact zk4 ss _ (fun t ht=>h t (by simp only [Q5,QD]; exact .inr ht))
theorem zDB{W:List Nat}{cb:CB}{σ σ' σ1:St}{nb:Nat}{d:Option Nat}{pin:Bool}{f:Nat}{args:List V}{ss:List (Src × Nat)}{xs:List Nat}(hl:σ'.t.length=σ.t.length)(hb:σ'.b=σ.b)(hr:∀ t∈ss.flatMap (fun p=>p.1.tmps),σ'.t[t]?=σ.t[t]?)(hd:∀ k,d=some k→k∈W)(hW:∀ k∈W,d≠some k→σ'.t[k]?=σ.t[k]?)
  (h:zd7 cb nb σ d pin f args ss xs=some σ1):∃ σ1',zd7 cb nb σ' d pin f args ss xs=some σ1'∧Over W σ σ1 σ' σ1':=by
 unfold zd7 at h ⊢
 simp only [zk4 ss _ hr,hb]
 simp only [Wb,Wa] at h
 obtain ⟨bor,hbor,⟨r,bor'⟩,hcb,h⟩:=h
 simp only at h hcb
 simp only [hbor,Wb,QT,hcb]
 split at h
 ·rename_i hc
  rw [if_pos hc]
  generalize hB:zas (fun k=>(zar (xo σ ss σ.b) args++(xs.map (nb+·)).take (bor'.length-(zar (xo σ ss σ.b) args).length)).getD k 0) (zar (xo σ ss σ.b) args++(xs.map (nb+·)).take (bor'.length-(zar (xo σ ss σ.b) args).length)) bor' (xo σ ss σ.b)=B at h ⊢
  obtain ⟨σ1',e,q⟩:=zIZ (W:=W) (σ:={ σ with b:=B }) (σ':={ t:=σ'.t,b:=B }) hl rfl hd hW h
  exact ⟨σ1',e,⟨q.b,q.on,q.off,q.fr,q.len,q.len'⟩⟩
 ·cases h
theorem zAY{α β:Type}{f:α→Option β}:∀ {l:List α} {r:List β},l.mapM f=some r→r.length=l.length
 | [],r,h=>by simp at h; subst h; rfl
 | x::l,r,h=>by
  simp only [QX,Wb,Wa,Wl,Wg] at h
  obtain ⟨y,_,ys,h2,rfl⟩:=h
  simp [zAY h2]
theorem zEB{α β:Type}{f:α→Option β}:∀ {l:List α} {r:List β},l.mapM f=some r→∀ (i:Nat) (x:α),l[i]?=some x→∃ y,r[i]?=some y∧f x=some y
 | [],r,h,i,x,hx=>by simp at hx
 | x::l,r,h,i,x',hx=>by
  simp only [QX,Wb,Wa,Wl,Wg] at h
  obtain ⟨y,h1,ys,h2,rfl⟩:=h
  cases i with
  | zero=>simp at hx; subst hx; exact ⟨y,rfl,h1⟩
  | succ i=>simpa using zEB h2 i x' (by simpa using hx)
theorem zeB{α β:Type}{f g:α→Option β}:∀ (l:List α),(∀ x∈l,f x=g x)→l.mapM f=l.mapM g
 | [],h=>rfl
 | x::l,h=>by
  simp only [QX]
  rw [h x (by simp),zeB l (fun y hy=>h y (by simp [hy]))]
end
section
def Wk(k:K)(d:Option Nat):List Nat:=zaj k++d.toList
theorem zA{k:K}{d:Option Nat}(i:Nat)(h:d=some i):i∈Wk k d:=by subst h; simp [Wk]
theorem zi2{k:K}{d:Option Nat}{i:Nat}(h:i∈Wk k d)(hd:d≠some i):i∈zaj k:=by
 simp only [Wk,QD] at h
 rcases h with h | h
 ·exact h
 ·cases d with
  | none=>simp at h
  | some j=>simp at h; subst h; exact absurd rfl hd
theorem zDw{k:K}{i:Nat}(h:i∈zaj k):i∈xt k:=by
 unfold zaj at h
 split at h <;> simp_all [xt]
theorem zm4{W:List Nat}{σ σ':St}(id:Nat)(x:B)(hb:σ'.b=σ.b)(hW:∀ k∈W,σ'.t[k]?=σ.t[k]?):Over W σ (σ.setB id x) σ' (σ'.setB id x):=
 ⟨by simp [St.setB,hb],hW,fun _ _=>rfl,fun _ _=>rfl,rfl,rfl⟩
theorem zjk{W:List Nat}{σ σ':St}{d:Option Nat}(id:Nat)(x:B)(v:V)(hl:σ'.t.length=σ.t.length)(hb:σ'.b=σ.b)(hd:∀ k,d=some k→k∈W)(hW:∀ k∈W,d≠some k→σ'.t[k]?=σ.t[k]?):Over W σ ((σ.setB id x).put d v) σ' ((σ'.setB id x).put d v):=by
 have q:=zbN (W:=W) (σ:=σ.setB id x) (σ':=σ'.setB id x) (d:=d) v hl (by simp [St.setB,hb]) hd hW
 exact ⟨q.b,q.on,q.off,q.fr,q.len,q.len'⟩
theorem zhw{σ σ':St}{s:Src}(hr:∀ t∈s.tmps,σ'.t[t]?=σ.t[t]?):∀ t∈s.tmps,(σ'.demote s).t[t]?=(σ.demote s).t[t]?:=by
 intro t ht
 rw [zxN,zxN,if_pos ht,if_pos ht,hr t ht]
theorem zbY{σ:St}{s:Src}{k:Nat}(h:k ∉ s.tmps):(σ.demote s).t[k]?=σ.t[k]?:=by rw [zxN,if_neg h]
variable {cb:CB} {nb:Nat} {σ σ' σ1:St} {d:Option Nat} {pin:Bool}
theorem zOF(k:K)(hl:σ'.t.length=σ.t.length)(hb:σ'.b=σ.b)(hr:∀ t∈xt k,σ'.t[t]?=σ.t[t]?)(h:yd cb nb σ d pin k=some σ1) :
  ∃ σ1',yd cb nb σ' d pin k=some σ1'∧Over (Wk k d) σ σ1 σ' σ1':=by
 have hW:∀ i∈Wk k d,d≠some i→σ'.t[i]?=σ.t[i]?:=fun i hi hd=>hr i (zDw (zi2 hi hd))
 have pure:(xj σ k).map (fun v=>σ.put d v)=some σ1→∃ σ1',(xj σ' k).map (fun v=>σ'.put d v)=some σ1'∧Over (Wk k d) σ σ1 σ' σ1':=by
  intro h
  rw [Wj] at h
  obtain ⟨v,h1,rfl⟩:=h
  rw [zDn k hr (.inl hb),h1]
  exact ⟨_,rfl,zbN v hl hb zA hW⟩
 cases k with
 | move x take=>
  simp only [xt] at hr
  simp only [yd,zh hr] at h ⊢
  split at h
  ·cases h
  ·rename_i hp
   rw [if_neg hp]
   split at h
   ·rename_i ht
    subst ht
    cases h
    rw [if_pos rfl]
    exact ⟨_,rfl,(zbN _ (by simpa [zan] using hl) (by simpa [zhp] using hb) zA (fun i hi hd=>zhw hr i (by simpa [zaj] using zi2 hi hd))).shift
     (fun i hi=>zbY (fun hh=>hi (by simp [Wk,zaj,hh]))) (fun i hi=>zbY (fun hh=>hi (by simp [Wk,zaj,hh]))) (zan _ _) (zan _ _)⟩
   ·rename_i ht
    cases h
    rw [if_neg ht]
    exact ⟨_,rfl,zbN _ hl hb zA hW⟩
 | alloc p cs=>simp only [yd] at h ⊢; exact zfS hl hb zA hW h
 | box p x=>
  simp only [xt] at hr
  simp only [yd,zh hr] at h ⊢
  split at h
  ·split at h
   ·cases h
   ·rename_i hp; rw [if_neg hp]; exact zfS hl hb zA hW h
  ·split at h
   ·exact zfS hl hb zA hW h
   ·cases h
 | buildSlice sz n z ps=>
  simp only [xt] at hr
  simp only [yd,zj0 ps _ hr,Wb,Wa] at h ⊢
  obtain ⟨cs,h1,h2⟩:=h
  split at h2
  ·rename_i hc
   cases h2
   exact ⟨_,⟨cs,h1,by rw [if_pos hc]⟩,zbN _ hl hb zA hW⟩
  ·rename_i hc
   obtain ⟨σ1',e1,e2⟩:=zm9 (W:=Wk (.buildSlice sz n z ps) d) hl hb zA hW h2
   exact ⟨σ1',⟨cs,h1,by rw [if_neg hc]; exact e1⟩,e2⟩
 | load agg n x take=>
  simp only [xt] at hr
  simp only [yd,zh hr,hb] at h ⊢
  have put:∀ v,some (σ.put d v)=some σ1→∃ σ1',some (σ'.put d v)=some σ1'∧Over (Wk (.load agg n x take) d) σ σ1 σ' σ1':=by
   intro v h; cases h; exact ⟨_,rfl,zbN v hl hb zA hW⟩
  split at h
  ·split at h
   ·split at h
    ·rename_i ha
     rw [if_pos ha]
     split at h
     ·rename_i hc
      rw [if_pos hc]
      split at h
      ·rename_i hp; rw [if_pos hp]; exact put _ h
      ·rename_i hp; rw [if_neg hp]
       split at h
       ·rename_i ht; rw [if_pos ht]
        simp only [Wb,Wa] at h ⊢
        obtain ⟨vs,h1,h2⟩:=h
        obtain ⟨σ1',e1,e2⟩:=put _ h2
        exact ⟨σ1',⟨vs,h1,e1⟩,e2⟩
       ·rename_i ht; rw [if_neg ht]
        simp only [Wb,Wa] at h ⊢
        obtain ⟨vs,h1,h2⟩:=h
        obtain ⟨σ1',e1,e2⟩:=put _ h2
        exact ⟨σ1',⟨vs,h1,e1⟩,e2⟩
     ·cases h
    ·rename_i ha
     rw [if_neg ha]
     split at h
     ·split at h
      ·rename_i ht; rw [if_pos ht]
       split at h
       ·cases h
       ·rename_i hp; rw [if_neg hp]; cases h
        exact ⟨_,rfl,zjk _ _ _ hl hb zA hW⟩
      ·rename_i ht; rw [if_neg ht]; exact put _ h
     ·cases h
   ·split at h
    ·rename_i ha
     rw [if_pos ha]
     split at h
     ·rename_i hc; rw [if_pos hc]; exact put _ h
     ·cases h
    ·rename_i ha
     rw [if_neg ha]
     split at h
     ·exact put _ h
     ·cases h
   ·cases h
  ·split at h
   ·rename_i ha
    rw [if_pos ha]
    split at h
    ·rename_i hc; rw [if_pos hc]; exact put _ h
    ·cases h
   ·rename_i ha
    rw [if_neg ha]
    split at h
    ·exact put _ h
    ·cases h
  ·cases h
 | store n x y=>
  simp only [xt] at hr
  have hr1:∀ t∈x.tmps,σ'.t[t]?=σ.t[t]?:=fun t ht=>hr t (by simp [ht])
  have hr2:∀ t∈y.tmps,σ'.t[t]?=σ.t[t]?:=fun t ht=>hr t (by simp [ht])
  simp only [yd,zh hr1,zh hr2,hb] at h ⊢
  split at h
  ·cases h
  ·rename_i hd
   rw [if_neg hd]
   have hd:d=none:=by cases d with | none=>rfl | some d=>simp at hd
   subst hd
   have hWW:∀ i∈Wk (.store n x y) none,σ'.t[i]?=σ.t[i]?:=fun i hi=>hW i hi (by simp)
   split at h
   ·split at h
    ·simp only [Wb,Wa] at h ⊢
     obtain ⟨v,h1,h2⟩:=h
     split at h2
     ·rename_i hc
      cases h2
      exact ⟨_,⟨v,h1,by rw [if_pos hc]⟩,zm4 _ _ hb hWW⟩
     ·cases h2
    ·split at h
     ·split at h
      ·rename_i hc; cases h; rw [if_pos hc]; exact ⟨_,rfl,zm4 _ _ hb hWW⟩
      ·cases h
     ·split at h
      ·rename_i hc; cases h; rw [if_pos hc]; exact ⟨_,rfl,zm4 _ _ hb hWW⟩
      ·cases h
     ·cases h
     ·cases h
     ·cases h
     ·split at h
      ·rename_i hc; cases h; rw [if_pos hc]
       refine ⟨_,rfl,(zm4 (σ:=σ.demote y) (σ':=σ'.demote y) _ _ (by simpa [zhp] using hb) (fun i hi=>zhw hr2 i (by simpa [Wk,zaj] using hi))).shift
        (fun i hi=>zbY (fun hh=>hi (by simp [Wk,zaj,hh]))) (fun i hi=>zbY (fun hh=>hi (by simp [Wk,zaj,hh]))) (zan _ _) (zan _ _)⟩
      ·cases h
    ·cases h
   ·cases h
 | makeSlice sz bytes z l c=>
  simp only [xt] at hr
  simp only [yd,zh (s:=l) (fun t ht=>hr t (by simp [ht])),zh (s:=c) (fun t ht=>hr t (by simp [ht]))] at h ⊢
  split at h
  ·split at h
   ·rename_i hc; rw [if_pos hc]
    split at h
    ·rename_i hp; rw [if_pos hp]; exact zfS hl hb zA hW h
    ·rename_i hp; rw [if_neg hp]; exact zm9 hl hb zA hW h
   ·cases h
  ·cases h
 | append sz bytes s x=>
  simp only [xt] at hr
  have hr1:∀ t∈s.tmps,σ'.t[t]?=σ.t[t]?:=fun t ht=>hr t (by simp [ht])
  simp only [yd,zh hr1,zh (s:=x) (fun t ht=>hr t (by simp [ht])),hb] at h ⊢
  split at h
  ·split at h
   ·rename_i hc; rw [if_pos hc]
    split at h
    ·rename_i hp; rw [if_pos hp]
     split at h
     ·exact zm9 hl hb zA hW h
     ·cases h
    ·rename_i hp; rw [if_neg hp]; cases h
     exact ⟨_,rfl,(zbN _ (by simpa [zan] using hl) (by simpa [zhp] using hb) zA (fun i hi hd=>zhw hr1 i (by simpa [zaj] using zi2 hi hd))).shift
      (fun i hi=>zbY (fun hh=>hi (by simp [Wk,zaj,hh]))) (fun i hi=>zbY (fun hh=>hi (by simp [Wk,zaj,hh]))) (zan _ _) (zan _ _)⟩
   ·cases h
  ·split at h
   ·rename_i hc; rw [if_pos hc]
    obtain ⟨σ1',e1,e2⟩:=zm9 (W:=Wk (.append sz bytes s x) d) (by simpa [zan] using hl) (by simpa [zhp] using hb) zA (fun i hi hd=>zhw hr1 i (by simpa [zaj] using zi2 hi hd)) h
    exact ⟨σ1',e1,e2.shift (fun i hi=>zbY (fun hh=>hi (by simp [Wk,zaj,hh]))) (fun i hi=>zbY (fun hh=>hi (by simp [Wk,zaj,hh]))) (zan _ _) (zan _ _)⟩
   ·cases h
  ·split at h
   ·split at h
    ·rename_i id off len sz1 sz2 es2 _ _ _ cs _ hc; rw [if_pos hc]
     obtain ⟨σ1',e1,e2⟩:=zfS (W:=Wk (.append sz bytes s x) d) (σ:=σ.setB id (.dead cs.length)) (σ':=σ'.setB id (.dead cs.length)) hl (by simp [St.setB,hb]) zA hW h
     exact ⟨σ1',e1,e2.shift (fun _ _=>rfl) (fun _ _=>rfl) rfl rfl⟩
    ·cases h
   ·cases h
  ·split at h
   ·split at h
    ·rename_i hc; rw [if_pos hc]; cases h
     exact ⟨_,rfl,zjk _ _ _ hl hb zA hW⟩
    ·cases h
   ·cases h
  ·cases h
 | unpin x=>
  simp only [xt] at hr
  simp only [yd,zh hr,hb] at h ⊢
  split at h
  ·cases h
  ·rename_i hp
   rw [if_neg hp]
   split at h
   ·split at h
    ·split at h
     ·rename_i hc; rw [if_pos hc]; cases h
      exact ⟨_,rfl,zjk _ _ _ hl hb zA hW⟩
     ·cases h
    ·cases h
   ·cases h
    exact ⟨_,rfl,(zbN _ (by simpa [zan] using hl) (by simpa [zhp] using hb) zA (fun i hi hd=>zhw hr i (by simpa [zaj] using zi2 hi hd))).shift
     (fun i hi=>zbY (fun hh=>hi (by simp [Wk,zaj,hh]))) (fun i hi=>zbY (fun hh=>hi (by simp [Wk,zaj,hh]))) (zan _ _) (zan _ _)⟩
   ·cases h
 | appendF sz bytes s x=>
  simp only [xt] at hr
  have hr1:∀ t∈s.tmps,σ'.t[t]?=σ.t[t]?:=fun t ht=>hr t (by simp [ht])
  simp only [yd,zh hr1,zh (s:=x) (fun t ht=>hr t (by simp [ht])),hb] at h ⊢
  split at h
  ·cases h
  ·rename_i hp
   rw [if_neg hp]
   split at h
   ·split at h
    ·rename_i hc; rw [if_pos hc]; cases h
     exact ⟨_,rfl,(zbN _ (by simpa [zan] using hl) (by simpa [zhp] using hb) zA (fun i hi hd=>zhw hr1 i (by simpa [zaj] using zi2 hi hd))).shift
      (fun i hi=>zbY (fun hh=>hi (by simp [Wk,zaj,hh]))) (fun i hi=>zbY (fun hh=>hi (by simp [Wk,zaj,hh]))) (zan _ _) (zan _ _)⟩
    ·cases h
   ·cases h
 | pinC p sz x=>
  simp only [xt] at hr
  simp only [yd,zh hr,hb] at h ⊢
  split at h
  ·split at h
   ·split at h
    ·split at h
     ·split at h
      ·rename_i id off _ _ cs _ _ sz1 es _ _ d0 hc; rw [if_pos hc]
       obtain ⟨σ1',e1,e2⟩:=zfS (W:=Wk (.pinC p sz x) (some d0)) (σ:=σ.setB id (.live false (cs.set off (.own (nb+d0) 0 es.length sz)))) (σ':=σ'.setB id (.live false (cs.set off (.own (nb+d0) 0 es.length sz)))) hl (by simp [St.setB,hb]) zA hW h
       exact ⟨σ1',e1,e2.shift (fun _ _=>rfl) (fun _ _=>rfl) rfl rfl⟩
      ·cases h
     ·cases h
    ·cases h
   ·cases h
  ·cases h
 | storeF n x y xs=>
  simp only [xt] at hr
  have hr1:∀ t∈x.tmps,σ'.t[t]?=σ.t[t]?:=fun t ht=>hr t (by simp [ht])
  have hr2:∀ t∈y.tmps,σ'.t[t]?=σ.t[t]?:=fun t ht=>hr t (by simp [ht])
  simp only [yd,zh hr1,zh hr2,hb] at h ⊢
  split at h
  ·cases h
  ·rename_i hd
   rw [if_neg hd]
   have hd:d=none:=by cases d with | none=>rfl | some d=>simp at hd
   subst hd
   have hWW:∀ i∈Wk (.storeF n x y xs) none,σ'.t[i]?=σ.t[i]?:=fun i hi=>hW i hi (by simp)
   split at h
   ·split at h
    ·split at h
     ·split at h
      ·rename_i hc; cases h; rw [if_pos hc]; exact ⟨_,rfl,zm4 _ _ hb hWW⟩
      ·cases h
     ·cases h
    ·cases h
   ·cases h
 | loadS n x=>
  simp only [xt] at hr
  simp only [yd,zh hr,hb] at h ⊢
  split at h
  ·split at h
   ·split at h
    ·rename_i hc; rw [if_pos hc]
     simp only [Wb,Wa,Wg] at h ⊢
     obtain ⟨vs,h1,rfl⟩:=h
     exact ⟨_,⟨vs,h1,rfl⟩,zbN _ hl hb zA hW⟩
    ·cases h
   ·cases h
  ·cases h
 | pinS p sz x=>
  simp only [xt] at hr
  simp only [yd,zh hr] at h ⊢
  split at h
  ·split at h
   ·split at h
    ·rename_i sz1 es _ _ t0 d0 _ hc; rw [if_pos hc]
     obtain ⟨σ1',e1,e2⟩:=zfS (W:=Wk (.pinS p sz (.tmp t0)) (some d0)) (σ:=σ.put (some t0) (.own (nb+d0) 0 es.length sz)) (σ':=σ'.put (some t0) (.own (nb+d0) 0 es.length sz)) (by rw [zjh,zjh]; exact hl) (by rw [yO,yO]; exact hb) zA (fun k hk hd=>by
      rw [xT,xT,hl]
      by_cases hq:some t0=some k∧k<σ.t.length
      ·rw [if_pos hq,if_pos hq]
      ·rw [if_neg hq,if_neg hq]; exact hW k hk hd) h
     refine ⟨σ1',e1,e2.shift (fun k hk=>?_) (fun k hk=>?_) (zjh _ _ _) (zjh _ _ _)⟩
     ·rw [xT,if_neg]
      rintro ⟨e,_⟩
      cases e
      exact hk (by simp [Wk,zaj,Src.tmps])
     ·rw [xT,if_neg]
      rintro ⟨e,_⟩
      cases e
      exact hk (by simp [Wk,zaj,Src.tmps])
    ·cases h
   ·cases h
  ·cases h
 | clear sz z x=>
  simp only [xt] at hr
  simp only [yd,zh hr,hb] at h ⊢
  split at h
  ·split at h
   ·split at h
    ·rename_i hc; rw [if_pos hc]; cases h
     exact ⟨_,rfl,zjk _ _ _ hl hb zA hW⟩
    ·cases h
   ·cases h
  ·cases h
 | appendZ sz bytes z s x=>
  simp only [xt] at hr
  have hr1:∀ t∈s.tmps,σ'.t[t]?=σ.t[t]?:=fun t ht=>hr t (by simp [ht])
  simp only [yd,zh hr1,zh (s:=x) (fun t ht=>hr t (by simp [ht]))] at h ⊢
  split at h
  ·split at h
   ·rename_i hc; rw [if_pos hc]
    split at h
    ·cases h
    ·rename_i hp; rw [if_neg hp]
     obtain ⟨σ1',e1,e2⟩:=zm9 (W:=Wk (.appendZ sz bytes z s x) d) (by simpa [zan] using hl) (by simpa [zhp] using hb) zA (fun i hi hd=>zhw hr1 i (by simpa [zaj] using zi2 hi hd)) h
     exact ⟨σ1',e1,e2.shift (fun i hi=>zbY (fun hh=>hi (by simp [Wk,zaj,hh]))) (fun i hi=>zbY (fun hh=>hi (by simp [Wk,zaj,hh]))) (zan _ _) (zan _ _)⟩
   ·cases h
  ·cases h
 | copy sz x y=>
  simp only [xt] at hr
  simp only [yd,zh (s:=x) (fun t ht=>hr t (by simp [ht])),zh (s:=y) (fun t ht=>hr t (by simp [ht])),hb] at h ⊢
  split at h
  ·split at h
   ·split at h
    ·rename_i hc; rw [if_pos hc]; cases h
     exact ⟨_,rfl,zjk _ _ _ hl hb zA hW⟩
    ·cases h
   ·cases h
  ·cases h
 | extract x i=>
  simp only [xt] at hr
  simp only [yd,zh hr] at h ⊢
  split at h
  ·rename_i vs hvs
   split at h
   ·rename_i _ v t hvi
    split at h
    ·rename_i hc
     rw [if_pos hc]
     split at h
     ·rename_i hh; rw [if_pos hh]
      have hx:σ'.t[t]?=σ.t[t]?:=hr t (by simp [Src.tmps])
      obtain ⟨σ1',e1,e2⟩:=zIZ (W:=Wk (.extract (.tmp t) i) d) (σ:={ σ with t:=σ.t.set t (.tup (vs.set i .junk)) }) (σ':={ σ' with t:=σ'.t.set t (.tup (vs.set i .junk)) }) (by simpa using hl) hb zA (fun j hj hd=>by
       have hj:=zi2 hj hd
       simp [zaj,Src.tmps] at hj
       subst hj
       simp only [List.getElem?_set_self',hx]) h
      refine ⟨σ1',e1,e2.shift (fun j hj=>?_) (fun j hj=>?_) (by simp) (by simp)⟩ <;>
       (have hne:¬ t=j:=fun e=>hj (by simp [Wk,zaj,Src.tmps,e])
        simp [List.getElem?_set,hne])
     ·rename_i hh; rw [if_neg hh]
      split at h
      ·cases h
      ·rename_i hp; rw [if_neg hp]; cases h; exact ⟨_,rfl,zbN _ hl hb zA hW⟩
    ·cases h
   ·cases h
  ·cases h
 | call f xs ys=>
  simp only [xt] at hr
  simp only [yd,Wb,Wa] at h ⊢
  obtain ⟨vs,h1,h2⟩:=h
  obtain ⟨σ1',e1,e2⟩:=zDB (W:=Wk (.call f xs ys) d) hl hb hr zA hW h2
  exact ⟨σ1',⟨vs,by rw [zeB xs (fun s hs=>zmo hb (fun t ht=>hr t (Q0.2 ⟨s,hs,ht⟩)))]; exact h1,e1⟩,e2⟩
 | callv f xs ys=>
  simp only [xt] at hr
  have hr2:∀ t∈xs.flatMap (fun p=>p.1.tmps),σ'.t[t]?=σ.t[t]?:=fun t ht=>hr t (Q7 _ ht)
  simp only [yd,zh (s:=f) (fun t ht=>hr t (by simp [ht]))] at h ⊢
  split at h
  ·simp only [Wb,Wa] at h ⊢
   obtain ⟨vs,h1,h2⟩:=h
   obtain ⟨σ1',e1,e2⟩:=zDB (W:=Wk (.callv f xs ys) d) hl hb hr2 zA hW h2
   exact ⟨σ1',⟨vs,by rw [zeB xs (fun s hs=>zmo hb (fun t ht=>hr2 t (Q0.2 ⟨s,hs,ht⟩)))]; exact h1,e1⟩,e2⟩
  ·cases h
 | makeMap=>simp only [yd] at h ⊢; exact zfS hl hb zA hW h
 | nilS sz id=>
  simp only [yd,hb] at h ⊢
  split at h
  ·rename_i hg
   cases h
   exact ⟨_,rfl,zjk _ _ _ hl hb zA hW⟩
  ·cases h
 | mlook kd ok z x y=>
  simp only [xt] at hr
  simp only [yd,zh (s:=x) (fun t ht=>hr t (by simp [ht])),zh (s:=y) (fun t ht=>hr t (by simp [ht])),hb] at h ⊢
  split at h
  ·split at h
   ·split at h
    ·rename_i hc; rw [if_pos hc]
     simp only [Wb,Wa,Wl,Wg] at h ⊢
     obtain ⟨r,h1,rfl⟩:=h
     exact ⟨_,⟨r,h1,rfl⟩,zbN _ hl hb zA hW⟩
    ·cases h
   ·cases h
  ·cases h
 | mput kd x y z=>
  simp only [xt] at hr
  simp only [yd,zh (s:=x) (fun t ht=>hr t (by simp [ht])),zh (s:=y) (fun t ht=>hr t (by simp [ht])),zh (s:=z) (fun t ht=>hr t (by simp [ht])),hb] at h ⊢
  split at h
  ·cases h
  ·rename_i hdst
   rw [if_neg hdst]
   split at h
   ·split at h
    ·split at h
     ·rename_i hc; rw [if_pos hc]
      simp only [Wb,Wa,Wl,Wg] at h ⊢
      obtain ⟨v,h1,es',h2,rfl⟩:=h
      refine ⟨_,⟨v,h1,es',h2,rfl⟩,zm4 _ _ hb (fun i hi=>?_)⟩
      by_cases hd:d=some i
      ·simp [hd] at hdst
      ·exact hW i hi hd
     ·cases h
    ·cases h
   ·cases h
 | lenM x=>
  simp only [xt] at hr
  simp only [yd,zh hr,hb] at h ⊢
  split at h
  ·split at h
   ·cases h; exact ⟨_,rfl,zbN _ hl hb zA hW⟩
   ·cases h
  ·cases h
 | _=>exact pure h
end
end Go.Proofs.YtgmhijonllockaaGreatDoor
