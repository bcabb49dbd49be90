/- Part 5 of the proof of BlockBack: an abstract machine over plain values, its soundness, and the functions of the program on plain values. -/
import Derived.Test.YtgmhijonllockaaGreatDoorMBlockBack4
namespace Go.Proofs.YtgmhijonllockaaGreatDoor
set_option maxRecDepth 100000
set_option linter.unusedVariables false
set_option linter.unusedSimpArgs false
open Option renaming bind_eq_some_iff->Wa,bind_eq_bind->Wb,map_some->QN,map_eq_some_iff->Wj,pure_def->Wl,bind_some->QT
open Option.some renaming injEq->Wg,inj->QV
open List renaming getElem?_eq_some_iff->Wi,getElem?_set_self->WF,getElem?_map->WJ,getElem?_set_ne->WE,mem_of_getElem?->WW,getElem?_eq_getElem->Wc,getD_eq_getElem?_getD->Ws,all_eq_true->QO,getElem?_append_right->Wt,getElem?_append_left->Wv,mem_filterMap->QP,getElem?_take->Wn,nodup_append->QR,getElem?_cons_succ->QU,mem_of_mem_take->WV,map_cons->QW
open Bool renaming false_eq_true->WP,and_eq_true->Wh
open Nat renaming le_refl->Wq,le_trans->QE
open Prod.mk renaming injEq->QM
open _root_.Array renaming getD_eq_getD_getElem?->QQ,getElem?_eq_getElem->QS
open Result renaming andThen_ok->WD
section
variable {ren:Rn} {we:World} {ωe:Nat→Ow} {U:Nat→Nat→Prop} {O:Nat→Prop} {σ:St} {a:Act} {w:World} {ω:Nat→Ow} {μ:Nat→Nat} {P:Program} {nb:Nat}
theorem Rel.setSlot(R:Rel ren we ωe U O σ a w ω μ)(t:Nat){v:V}(h:Rep ren (env U σ w ω μ) (.slot t 0) v (a.tmps.getD t undef)):Rel ren we ωe U O { σ with t:=σ.t.set t v } a w ω μ:=by
 refine ⟨R.df,by simpa using R.tl,fun j v' hj=>?_,R.bs,R.fs,R.ms,R.kp,R.ow,R.ul,R.fr,R.rs,R.gv⟩
 show Rep ren (env U σ w ω μ) _ _ _
 simp only at hj
 by_cases hjt:j=t
 ·subst hjt
  have hlt:j<σ.t.length:=by have:=(Wi.1 hj).1; simpa using this
  rw [WF hlt] at hj
  cases hj
  exact h
 ·rw [WE (fun e=>hjt e.symm)] at hj
  exact R.ts j v' hj
theorem Rep.held{E:En}{l:Loc}{v:V}{u:Value}(h:Rep ren E l v u)(hv:∀ x xs,v≠.tup (x::xs)):(∀ l',Rep ren E l' v u)∨(∃ β h,E.ω β=.gs l h∧∀ (E':En) (l':Loc),Fr E E'→E'.ω β=.gs l' h→E'.w.heap[β]?=E.w.heap[β]?→Rep ren E' l' v u):=by
 cases h with
 | pure h=>exact .inl fun _=>.pure h
 | gs sz es β c arr T f hω hb hc hn hsz hcell h1 h=>
  exact .inr ⟨β,_,hω,fun E' l' F g1 g2=>.gs sz es β c arr T f g1 (by rw [g2]; exact hb) hc hn hsz hcell h1 (fun i v hv=>(h i v hv).mono F.st)⟩
 | fr sz es β c arr T f hω hb hc hn hsz hcell h1 h=>
  exact .inr ⟨β,_,hω,fun E' l' F g1 g2=>.fr sz es β c arr T f g1 (by rw [g2]; exact hb) hc hn hsz hcell h1 (fun i v hv=>(h i v hv).mono F.st)⟩
 | fr0 sz A=>exact .inl fun _=>.fr0 sz A
 | ub b=>exact .inl fun _=>.ub b
 | mp id L hL=>exact .inl fun _=>.mp id L hL
 | bx p cs β arr T f hω hb hn hcell h1 h=>
  exact .inr ⟨β,_,hω,fun E' l' F g1 g2=>.bx p cs β arr T f g1 (by rw [g2]; exact hb) hn hcell h1 (fun i v hv=>(h i v hv).mono F.st)⟩
 | own id off len sz c L A hL hl hc hA=>exact .inl fun _=>.own id off len sz c L A hL hl hc hA
 | cut id off len cap sz c L A hL hl hc hA=>exact .inl fun _=>.cut id off len cap sz c L A hL hl hc hA
 | ptr id off L hL=>exact .inl fun _=>.ptr id off L hL
 | fp n cs k o f hl hcell h1 h=>exact .inl fun _=>.fp n cs k o f hl hcell h1 h
 | fn f g caps us hr hl h=>exact .inl fun _=>.fn f g caps us hr hl h
 | tup vs us hl h=>
  cases vs with
  | nil=>
   cases us with
   | nil=>exact .inl fun _=>.tup [] [] rfl (by simp)
   | cons x xs=>simp at hl
  | cons x xs=>exact absurd rfl (hv x xs)
 | st cs us hl h h1=>exact .inl fun _=>.st cs us hl h h1
 | junk=>exact .inl fun _=>.junk
theorem zMz(R:Rel ren we ωe U O σ a w ω μ){o:Oper}{x:Operand}{i:Nat}(hop:o.op=.extract x i){s:Src}{t1:TypeId}(hs:xj P ren t1 x=some s){nb:Nat}{cb:CB}{pin:Bool}{σ':St}(h:zd cb nb σ o.dst pin (.extract s i)=some σ'):StepOk P ren we ωe U O a w o σ' nb μ:=by
 simp only [zd] at h
 split at h
 ·rename_i vs hg
  split at h
  ·rename_i v t hvi
   split at h
   ·rename_i hall
    have hx:a.eval x=a.tmps.getD t undef:=(R.opndC hs).1 t rfl
    have hr:=R.opnd hs
    rw [hg] at hr
    have hr:Rep ren (env U σ w ω μ) (.slot t 0) (.tup vs) (a.eval x):=hr
    obtain ⟨us,eu,hl,hel⟩:=hr.tup_inv
    have hlt:i<vs.length:=(Wi.1 hvi).1
    have hui:us[i]?=some us[i]:=Wc (by omega)
    have hnt:∀ (j:Nat) (v:V),vs[j]?=some v→∀ x xs,v≠.tup (x::xs):=by
     intro j v hj x xs e
     have:=QO.1 hall.1 v (WW hj)
     subst e
     simp [zNl] at this
    refine .value (u:=us[i]) (w':=w) (by simp [execOp,hop,eu,Instr.extract,hui]) ?_
    have R1:Rel ren we ωe U O { σ with t:=σ.t.set t (.tup (vs.set i .junk)) } a w ω μ:=by
     refine R.setSlot t ?_
     rw [← hx,eu]
     refine .tup _ us (by simp [hl]) (fun j v' u' hj hu=>?_)
     by_cases hji:j=i
     ·subst hji
      rw [WF hlt] at hj; cases hj; exact .junk
     ·rw [WE (fun e=>hji e.symm)] at hj
      exact hel j v' u' hj hu
    have hT:({ σ with t:=σ.t.set t (.tup (vs.set i .junk)) }:St).t.length≤σ.t.length:=by simp
    split at h
    case isFalse=>
     split at h
     ·cases h
     ·cases h
      exact ⟨ω,μ,R.put _ (fun j _=>(hel i v us[i] hvi hui).dem R.hU _),fun _ _=>rfl⟩
    rcases (hel i v us[i] hvi hui).held (hnt i v hvi) with hlight | ⟨β,hh,hβ,hmk⟩
    ·exact R1.putR hT (hlight (.slot σ.t.length 0)) h
    ·have hβ:ω β=.gs (.slot t (i+1)) hh:=hβ
     have F:=zlJ U σ w μ hβ (.slot σ.t.length 0)
     have R2:=R1.relabel (l:=.slot t (i+1)) hβ (.slot σ.t.length 0) (fun t' v' hj hlh=>by
      cases hlh
      simp only at hj
      have hlt':t<σ.t.length:=by have:=(Wi.1 hj).1; simpa using this
      rw [WF hlt'] at hj
      cases hj
      rw [← hx,eu]
      refine .tup _ us (by simp [hl]) (fun j v' u' hj hu=>?_)
      by_cases hji:j=i
      ·subst hji
       rw [WF hlt] at hj; cases hj; exact .junk
      ·rw [WE (fun e=>hji e.symm)] at hj
       refine (hel j v' u' hj hu).frame1 F (hnt j v' hj) (fun β2 h2 e2=>⟨?_,rfl⟩)
       have e2:ω β2=.gs (.slot t (j+1)) h2:=e2
       show upd ω β _ β2=_
       rw [zl]
       ·exact e2
       ·rintro rfl
        rw [hβ] at e2; cases e2
        exact hji rfl) (fun id j p cs v hb hc hl=>by cases hl)
     exact R2.putR hT (hmk _ _ F (zx _ _ _) rfl) h
   ·cases h
  ·cases h
 ·cases h
theorem zLz(R:Rel ren we ωe U O σ a w ω μ){o:Oper}(hop:o.op=.move (.const (.slice none 0 0))∨o.op=.assign (.const (.slice none 0 0))){sz k:Nat}{nb:Nat}{cb:CB}{pin:Bool}{σ':St}(h:zd cb nb σ o.dst pin (.nilS sz k)=some σ'):StepOk P ren we ωe U O a w o σ' nb μ:=by
 have run:(execOp a.eval o).run P w=.ok (.value (.slice none 0 0)) w:=by
  rcases hop with e | e <;> simp [execOp,e,Act.eval]
 refine .value run ?_
 simp only [zd] at h
 split at h
 ·rename_i hg
  cases h
  have hlt:nb+k<σ.b.length:=(Wi.1 hg).1
  have hne:∀ id L,yq σ.b id=some L→id≠nb+k:=by rintro id L hL rfl; simp [yq,hg] at hL
  have F:Fr (env U σ w ω μ) (env U (σ.setB (nb+k) (.live true [])) w ω μ):=by
   refine ⟨fun k o u h1 h2=>⟨h1,h2⟩,fun id L hL=>⟨?_,rfl,Wq _⟩⟩
   have hL:yq σ.b id=some L:=hL
   show yq (σ.b.set (nb+k) _) id=some L
   have:=hne id L hL
   unfold yq at hL ⊢
   rw [WE (fun e=>this e.symm)]
   exact hL
  have R':Rel ren we ωe U O (σ.setB (nb+k) (.live true [])) a w ω μ:=by
   refine R.step F rfl (fun t j β h _ e=>⟨e,rfl⟩) (fun id p cs h' hn=>?_) (fun id cs h'=>?_) (fun id es h'=>?_) (Kept.refl No w) (fun k _ h=>zpJ h) R.ow (fun k=>Wq _)
   ·by_cases he:id=nb+k
    ·subst he
     simp only [St.setB] at h'
     rw [WF hlt] at h'
     cases h'; exact absurd rfl hn
    ·simp only [St.setB] at h'
     rw [WE (fun e=>he e.symm)] at h'
     exact .inl ⟨h',(R.live h' hn).1,rfl,fun j β h e=>⟨e,rfl⟩⟩
   ·by_cases he:id=nb+k
    ·subst he
     simp only [St.setB] at h'
     rw [WF hlt] at h'
     cases h'
    ·simp only [St.setB] at h'
     rw [WE (fun e=>he e.symm)] at h'
     exact .inl ⟨h',(R.fs id cs h').1,rfl⟩
   ·by_cases he:id=nb+k
    ·subst he
     simp only [St.setB] at h'
     rw [WF hlt] at h'
     cases h'
    ·simp only [St.setB] at h'
     rw [WE (fun e=>he e.symm)] at h'
     exact .inl ⟨h',(R.ms id es h').1,rfl⟩
  refine ⟨ω,μ,R'.put o.dst (fun i _=>?_),fun _ _=>rfl⟩
  refine .own (nb+k) 0 0 sz 0 0 none ?_ (by simp) ⟨Wq _,fun _=>.inr rfl⟩ (.inr ⟨rfl,rfl⟩)
  show yq (σ.b.set (nb+k) _) (nb+k)=some 0
  unfold yq
  rw [WF hlt]
  rfl
 ·cases h
theorem zUw(R:Rel ren we ωe U O σ a w ω μ){o:Oper}{take:Bool}{xs:List Nat}{k:K}(hk:cK P ren o take xs=some k){nb:Nat}{cb:CB}{pin:Bool}{σ':St}(h:zd cb nb σ o.dst pin k=some σ')(hc1:∀ f xs ys,k≠.call f xs ys)(hc2:∀ f xs ys,k≠.callv f xs ys):StepOk P ren we ωe U O a w o σ' nb μ:=by
 have pure:(zk σ k).map (fun v=>σ.put o.dst v)=some σ'→StepOk P ren we ωe U O a w o σ' nb μ:=by
  intro hp
  simp only [Wj] at hp
  obtain ⟨v,hv,rfl⟩:=hp
  exact .gives R (zWO R hk hv)
 have hk0:=hk
 unfold cK at hk
 split at hk <;> (try simp only [Wb,Wa,Wg] at hk)
 ·rename_i hop
  rcases zr4 _ _ hk with ⟨sz,k',rfl,rfl⟩ | ⟨s,hs,rfl⟩ | ⟨s,hs,rfl⟩ | ⟨s,hs,rfl⟩ | ⟨s,p,sz,hs,hsz,rfl⟩ | ⟨sz,rfl,rfl⟩
  ·exact zLz R (.inl hop) h
  ·exact zDu R (.inl hop) hs h
  ·exact zHj R (.inl hop) hs h
  ·exact pure h
  ·exact zK8 R (.inl hop) hs h
  ·exact zKV R (.inl hop) h
 ·rename_i hop
  rcases zr4 _ _ hk with ⟨sz,k',rfl,rfl⟩ | ⟨s,hs,rfl⟩ | ⟨s,hs,rfl⟩ | ⟨s,hs,rfl⟩ | ⟨s,p,sz,hs,hsz,rfl⟩ | ⟨sz,rfl,rfl⟩
  ·exact zLz R (.inr hop) h
  ·exact zDu R (.inr hop) hs h
  ·exact zHj R (.inr hop) hs h
  ·exact pure h
  ·exact zK8 R (.inr hop) hs h
  ·exact zKV R (.inr hop) h
 ·obtain ⟨s1,h1,s2,h2,s3,h3,rfl⟩:=hk; exact pure h
 ·rename_i hop; obtain ⟨z,hz,rfl⟩:=hk
  refine zQz R hop hz (xs:=xs) ?_ h
  cases xs with
  | nil=>exact .inl rfl
  | cons _ _=>exact .inr (by simp)
 ·rename_i hop; obtain ⟨z,_,s,hs,rfl⟩:=hk; exact zUR R hop hs h
 ·obtain ⟨z,_,d,_,hk⟩:=hk
  split at hk <;> (try simp only [Wa,Wg] at hk)
  ·obtain ⟨_,_,_,_,rfl⟩:=hk; cases take <;> exact pure h
  ·obtain ⟨_,_,_,_,rfl⟩:=hk; cases take <;> exact pure h
  ·cases hk
 ·rename_i hop
  obtain ⟨d,hd,hk⟩:=hk
  split at hk <;> (try simp only [Wa] at hk)
  ·obtain ⟨z,hz,sz,hsz,hk⟩:=hk
   split at hk
   ·rename_i hcond
    simp only [Wa,Wg] at hk; obtain ⟨ps,hps,rfl⟩:=hk
    exact zHy R hop hd hz hsz hcond.1 hcond.2.1 hcond.2.2 hps h
   ·cases hk
  ·cases hk
 ·rename_i hop
  rcases zCT _ _ hk with ⟨b,n,s,hb,hn,hs,rfl⟩ | ⟨sz,s,hpos,h1,h2,hs,rfl⟩ | ⟨n,s,h1,h2,hs,rfl⟩
  ·exact zR9 R hop hb hn hs h
  ·exact zTa R hop h1 h2 hs h
  ·exact zQY R hop h1 h2 hs h
 ·rename_i hop; obtain ⟨n,hn,s,hs,s2,hs2,rfl⟩:=hk
  cases xs with
  | nil=>exact zQE R hop hn hs hs2 h
  | cons _ _=>exact zOC R hop hn hs hs2 h
 ·obtain ⟨s1,h1,rfl⟩:=hk; exact pure h
 ·obtain ⟨d,hd,hk⟩:=hk
  split at hk <;> (try simp only [Wa,Wg] at hk)
  ·obtain ⟨s1,h1,s2,h2,rfl⟩:=hk; exact pure h
  ·obtain ⟨s1,h1,s2,h2,rfl⟩:=hk; exact pure h
  ·split at hk
   ·split at hk
    ·simp only [Wa,Wg] at hk
     obtain ⟨s1,h1,rfl⟩:=hk; exact pure h
    ·cases hk
   ·cases hk
  ·split at hk
   ·simp only [Wa,Wg] at hk
    obtain ⟨s1,h1,s2,h2,rfl⟩:=hk; exact pure h
   ·cases hk
  ·split at hk
   ·simp only [Wa,Wg] at hk
    obtain ⟨s1,h1,s2,h2,rfl⟩:=hk; exact pure h
   ·cases hk
  ·split at hk
   ·simp only [Wa,Wg] at hk
    obtain ⟨s1,h1,s2,h2,rfl⟩:=hk; exact pure h
   ·cases hk
  ·cases hk
 ·obtain ⟨s1,h1,rfl⟩:=hk; exact pure h
 ·obtain ⟨d1,hd1,d2,hd2,hk⟩:=hk
  split at hk <;> (try simp only [Wa,Wg] at hk)
  ·obtain ⟨s1,h1,rfl⟩:=hk; exact pure h
  ·obtain ⟨d3,hd3,hk⟩:=hk
   split at hk
   ·simp only [Wa,Wg] at hk
    obtain ⟨s1,h1,rfl⟩:=hk; exact pure h
   ·cases hk
  ·cases hk
 ·split at hk
  ·split at hk
   ·simp only [Wb,Wa,Wg] at hk
    obtain ⟨g,hg,ss,hs,rfl⟩:=hk; exact pure h
   ·cases hk
  ·cases hk
 ·rename_i hop
  obtain ⟨d,hd,hk⟩:=hk
  split at hk <;> (try simp only [Wa] at hk)
  ·obtain ⟨z,hz,sz,hsz,i,hi,hk⟩:=hk
   split at hk
   ·rename_i hcond
    simp only [Wa,Wg] at hk; obtain ⟨_,h1,_,h2,rfl⟩:=hk
    exact zJf R hop hd hz hsz hi hcond.1 hcond.2 h1 h2 h
   ·cases hk
  ·cases hk
 ·split at hk
  ·cases hk
  ·simp only [Wb,Wa] at hk
   obtain ⟨d,hd,hk⟩:=hk
   split at hk <;> (try simp only [Wa] at hk)
   ·obtain ⟨sz,hsz,hk⟩:=hk
    split at hk
    ·simp only [Wa,Wg] at hk
     obtain ⟨s0,h0,s1,h1,s2,h2,s3,h3,rfl⟩:=hk; exact pure h
    ·cases hk
   ·obtain ⟨sz,hsz,hk⟩:=hk
    split at hk
    ·split at hk
     ·simp only [Wa,Wg] at hk
      obtain ⟨s0,h0,s2,h2,rfl⟩:=hk; exact pure h
     ·cases hk
    ·split at hk
     ·simp only [Wa,Wg] at hk
      obtain ⟨s0,h0,s1,h1,s2,h2,s3,h3,rfl⟩:=hk; exact pure h
     ·cases hk
   ·cases hk
 ·obtain ⟨d,hd,hk⟩:=hk
  split at hk <;> (try simp only [Wa] at hk)
  ·obtain ⟨f,hf,n,hn,hk⟩:=hk
   split at hk
   ·cases hk
   ·simp only [Wa,Wg] at hk
    obtain ⟨s1,h1,rfl⟩:=hk; exact pure h
  ·cases hk
 ·obtain ⟨d,hd,hk⟩:=hk
  split at hk <;> (try simp only [Wa,Wg] at hk)
  ·obtain ⟨f,hf,b,hb,n,hn,s1,h1,rfl⟩:=hk; exact pure h
  ·cases hk
 ·obtain ⟨d,hd,hk⟩:=hk
  split at hk <;> (try simp only [Wa,Wg] at hk)
  ·obtain ⟨n,hn,s1,h1,s2,h2,rfl⟩:=hk; exact pure h
  ·obtain ⟨sz,hsz,hk⟩:=hk
   split at hk
   ·simp only [Wa,Wg] at hk
    obtain ⟨s1,h1,s2,h2,rfl⟩:=hk; exact pure h
   ·cases hk
  ·cases hk
 ·obtain ⟨d,hd,hk⟩:=hk
  split at hk <;> (try simp only [Wa,Wg] at hk)
  ·obtain ⟨b,hb,n,hn,s1,h1,s2,h2,rfl⟩:=hk; exact pure h
  ·cases hk
 ·obtain ⟨d,hd,hk⟩:=hk
  split at hk <;> (try simp only [Wa] at hk)
  ·obtain ⟨sz,hsz,hk⟩:=hk
   split at hk
   ·simp only [Wa,Wg] at hk
    obtain ⟨s1,h1,rfl⟩:=hk; exact pure h
   ·cases hk
  ·cases hk
 ·rename_i hop
  split at hk
  ·rename_i hr
   cases hk
   rename_i t r
   have hr:r=none:=by simpa using hr
   subst hr
   exact zMB R hop h
  ·cases hk
 ·rename_i hop
  obtain ⟨d,hd,hk⟩:=hk
  split at hk <;> (try simp only [Wa,Wg] at hk)
  ·obtain ⟨kd,hkd,z,hz,s1,h1,s2,h2,rfl⟩:=hk; exact zQj R hop hd hkd hz h1 h2 h
  ·cases hk
 ·rename_i hop
  obtain ⟨d,hd,hk⟩:=hk
  split at hk <;> (try simp only [Wa,Wg] at hk)
  ·obtain ⟨kd,hkd,s1,h1,s2,h2,s3,h3,rfl⟩:=hk; exact zLw R (.inl hop) hd hkd h1 h2 h3 h
  ·cases hk
 ·rename_i hop
  obtain ⟨d,hd,hk⟩:=hk
  split at hk <;> (try simp only [Wa,Wg] at hk)
  ·obtain ⟨kd,hkd,s1,h1,s2,h2,s3,h3,rfl⟩:=hk; exact zLw R (.inr hop) hd hkd h1 h2 h3 h
  ·cases hk
 ·rename_i hop; obtain ⟨s,hs,rfl⟩:=hk
  cases take with
  | true=>exact zMz R hop hs h
  | false=>exact pure h
 ·rename_i c hop
  obtain ⟨callee,args,ats⟩:=c
  simp only at hk
  split at hk <;> (try simp only [Wb,Wa,Wg] at hk)
  ·split at hk
   ·split at hk
    ·simp only [Wb,Wa,Wg] at hk
     obtain ⟨s1,h1,s2,h2,rfl⟩:=hk; exact pure h
    ·cases hk
   ·split at hk
    ·split at hk
     ·simp only [Wb,Wa,Wg] at hk
      obtain ⟨s0,h0,s1,h1,s2,h2,s3,h3,rfl⟩:=hk; exact pure h
     ·cases hk
    ·simp only [Wb,Wa,Wg] at hk
     obtain ⟨_,_,_,_,rfl⟩:=hk; exact absurd rfl (hc1 _ _ _)
  ·obtain ⟨_,_,rfl⟩:=hk; exact absurd rfl (hc2 _ _ _)
  ·obtain ⟨k0,hk,rfl⟩:=hk
   cases xs
   all_goals
    unfold zus at hk
    split at hk <;> (try simp only [Wb,Wa,Wg] at hk)
    ·obtain ⟨d,hd,hk⟩:=hk
     split at hk <;> (try simp only [Wa,Wg] at hk)
     ·obtain ⟨s1,h1,rfl⟩:=hk; exact pure h
     ·obtain ⟨s1,h1,rfl⟩:=hk; exact pure h
     ·subst hk; exact pure h
     ·rename_i e1 e2 _ _ _
      obtain rfl:=za7 e1
      obtain rfl:=za7 e2
      obtain ⟨s1,h1,rfl⟩:=hk; exact zSP R hop hd h1 h
     ·cases hk
    ·rename_i e1 e2
     obtain rfl:=za7 e1
     obtain rfl:=za7 e2
     obtain ⟨d1,hd1,d2,hd2,hk⟩:=hk
     split at hk <;> (try simp only [Wa] at hk)
     ·obtain ⟨sz,hsz,i,hi,z,hz,hk⟩:=hk
      split at hk
      ·rename_i hcond
       obtain ⟨q1,q2,q3⟩:=hcond
       subst q3
       simp only [Wa,Wg] at hk; obtain ⟨_,h1,_,h2,rfl⟩:=hk
       first | exact zO2 R hop hd1 hsz hi hz q1 q2 h1 h2 h | exact zMI R hop hd1 hsz hi hz q1 q2 h1 h2 h
      ·cases hk
     ·obtain ⟨sz,hsz,i,hi,z,hz,hk⟩:=hk
      split at hk
      ·rename_i hcond
       simp only [Wa,Wg] at hk; obtain ⟨_,h1,_,h2,rfl⟩:=hk
       exact zMy R hop hd1 hd2 hsz hi hz hcond.1 hcond.2 h1 h2 h
      ·cases hk
     ·cases hk
    ·rename_i e1 e2
     obtain rfl:=za7 e1
     obtain rfl:=za7 e2
     obtain ⟨d1,hd1,d2,hd2,hk⟩:=hk
     split at hk <;> (try simp only [Wa] at hk)
     ·obtain ⟨sz,hsz,hk⟩:=hk
      split at hk
      ·simp only [Wa,Wg] at hk; obtain ⟨_,h1,_,h2,rfl⟩:=hk
       exact zTf R hop hd1 hsz (by assumption) h1 h2 h
      ·cases hk
     ·cases hk
    ·rename_i e1 e2
     obtain rfl:=za7 e1
     obtain rfl:=za7 e2
     obtain ⟨d1,hd1,hk⟩:=hk
     split at hk <;> (try simp only [Wa] at hk)
     ·obtain ⟨sz,hsz,z,hz,hk⟩:=hk
      split at hk
      ·rename_i hcond
       simp only [Wa,Wg] at hk; obtain ⟨_,h1,rfl⟩:=hk
       exact zQi R hop hd1 hsz hcond.1 hz hcond.2 h1 h
      ·cases hk
     ·cases hk
    ·obtain ⟨s1,h1,s2,h2,rfl⟩:=hk; exact pure h
    ·obtain ⟨s1,h1,s2,h2,rfl⟩:=hk; exact pure h
    ·cases hk
  ·cases hk
 ·cases hk
end
section
variable {ren:Rn} {we:World} {ωe:Nat→Ow} {U:Nat→Nat→Prop} {O:Nat→Prop} {σ:St} {a:Act} {w:World} {ω:Nat→Ow} {μ:Nat→Nat} {P:Program}
def toB(x:B):B:=x
theorem zPR(l:List B):l.map toB=l:=by induction l with | nil=>rfl | cons x l ih=>simp [toB,ih]
def PCall(P:Program)(ren:Rn)(f:FuncId)(args:List V)(bor:Bor)(r:V)(bor':Bor):Prop:=
 ∀ (w:World) (us:List Value) (U:Nat→Nat→Prop) (O:Nat→Prop) (ω:Nat→Ow) (μ:Nat→Nat),Rel ren w ω U O ⟨args,bor.map toB⟩ ⟨us.toArray,[]⟩ w ω μ →
  Calls P f us.toArray w fun e w'=>∃ u ω' μ',e=.returned u∧Rel ren w ω U O ⟨[r],bor'.map toB⟩ ⟨#[u],[]⟩ w' ω' μ'∧∀ k,k<bor.length→μ' k=μ k
def zel(P:Program)(f:FuncId):Bool:=match P.funcs[f]? with | some fn=>fn.body.isSome&&fn.name != "runtime.NumGoroutine" | none=>false
def zhy(P:Program)(ren:Rn)(cb:CB):Prop:=∀ g args bor r bor',cb g args bor=some (r,bor')→∀ f,ren f=some g→zel P f=true∧PCall P ren f args bor r bor'
theorem zzn(b:List B)(id k:Nat):(xV b id)[k]?=b[k]?∨(∃ cs,b[k]?=some (.live true cs)∧k=id∧cs≠[]∧(xV b id)[k]?=some (.fz cs)):=by
 unfold xV
 split
 ·rename_i c cs hb
  by_cases hk:k=id
  ·subst hk
   exact .inr ⟨c::cs,hb,rfl,by simp,WF (Wi.1 hb).1⟩
  ·exact .inl (WE (fun e=>hk e.symm))
 ·exact .inl rfl
theorem zFl{b:List B}{id:Nat}{cs:List V}(hb:b[id]?=some (.live true cs))(hne:cs≠[]):xV b id=b.set id (.fz cs):=by
 cases cs with
 | nil=>exact absurd rfl hne
 | cons c cs=>unfold xV; rw [hb]
theorem Rel.freeze(R:Rel ren we ωe U O σ a w ω μ)(id:Nat):∃ ω',Rel ren we ωe U O { σ with b:=xV σ.b id } a w ω' μ∧Fr (env U σ w ω μ) (env U { σ with b:=xV σ.b id } w ω' μ):=by
 by_cases hl:∃ cs,σ.b[id]?=some (.live true cs)∧cs≠[]
 ·obtain ⟨cs,hb,hcne⟩:=hl
  have hlt:id<σ.b.length:=(Wi.1 hb).1
  have hf:xV σ.b id=σ.b.set id (.fz cs):=zFl hb hcne
  obtain ⟨e0,arr,T,e1,e2,e3⟩:=R.live hb hcne
  have hnU:∀ o,¬ U (μ id) o:=by
   intro o hu
   have h1:=R.ul _ _ hu
   rcases (R.ow (μ id) (by rw [e0]; simp)).1 with h | h
   ·omega
   ·exact h1.2 h
  have F:Fr (env U σ w ω μ) (env U { σ with b:=xV σ.b id } w (upd ω (μ id) .no) μ):=by
   refine ⟨fun k o u h1 h2=>⟨?_,h2⟩,fun id' L hL=>⟨?_,rfl,Wq _⟩⟩
   ·have h1:¬ wr U ω k o:=h1
    show ¬ wr U (upd ω (μ id) .no) k o
    unfold wr at h1 ⊢
    by_cases hk:k=μ id
    ·subst hk; rw [zx]; simp only [not_or] at h1 ⊢; exact ⟨h1.1,fun h=>h⟩
    ·rw [zl _ _ hk]; exact h1
   ·have hL:yq σ.b id'=some L:=hL
    show yq (xV σ.b id) id'=some L
    rw [hf]
    unfold yq at hL ⊢
    by_cases hne:id'=id
    ·subst hne
     rw [WF hlt]
     rw [hb] at hL
     exact hL
    ·rw [WE (fun e=>hne e.symm)]; exact hL
  have hgs:∀ (l:Loc) β h,ω β=.gs l h→upd ω (μ id) .no β=.gs l h:=by
   intro l β h e
   rw [zl]
   ·exact e
   ·rintro rfl; rw [e0] at e; cases e
  refine ⟨upd ω (μ id) .no,R.step F rfl (fun t j β h _ e=>⟨hgs _ β h e,rfl⟩) (fun id' p' cs' h' hne'=>?_) (fun id' cs' h'=>?_) (fun id' es' h'=>?_) (Kept.refl No w) (fun k _ h=>zpJ h) (fun k hk=>?_) (fun k=>Wq _),F⟩
  ·simp only at h'
   rw [hf] at h'
   by_cases hne:id'=id
   ·subst hne; rw [WF hlt] at h'; cases h'
   ·rw [WE (fun e=>hne e.symm)] at h'
    obtain ⟨q0,_⟩:=R.live h' hne'
    refine .inl ⟨h',?_,rfl,fun j β h e=>⟨hgs _ β h e,rfl⟩⟩
    rw [zl]
    ·exact q0
    ·intro e; rw [e,e0] at q0; cases q0; exact hne rfl
  ·simp only at h'
   rw [hf] at h'
   by_cases hne:id'=id
   ·subst hne
    rw [WF hlt] at h'; cases h'
    refine .inr ⟨fun o ho=>?_,arr,T,_,e1,e2,fun j c hc=>?_⟩
    ·unfold wr at ho
     rw [zx] at ho
     rcases ho with ho | ho
     ·exact hnU o ho
     ·exact ho
    ·obtain ⟨u,g1,g2,g3,_⟩:=e3 j c hc
     exact ⟨u,g1,g2,(g3 rfl).mono F.st⟩
   ·rw [WE (fun e=>hne e.symm)] at h'
    obtain ⟨q0,_⟩:=R.fs id' cs' h'
    refine .inl ⟨h',fun o ho=>q0 o ?_,rfl⟩
    unfold wr at ho ⊢
    by_cases hk:μ id'=μ id
    ·rw [hk,zx] at ho
     rcases ho with ho | ho
     ·exact .inl (by rw [hk]; exact ho)
     ·exact ho.elim
    ·rwa [zl _ _ hk] at ho
  ·simp only at h'
   rw [hf] at h'
   by_cases hne:id'=id
   ·subst hne; rw [WF hlt] at h'; cases h'
   ·rw [WE (fun e=>hne e.symm)] at h'
    obtain ⟨q0,_⟩:=R.ms id' es' h'
    refine .inl ⟨h',?_,rfl⟩
    rw [zl]
    ·exact q0
    ·intro e; rw [e,e0] at q0; cases q0; exact hne rfl
  ·by_cases hkb:k=μ id
   ·subst hkb; rw [zx] at hk; exact absurd rfl hk
   ·rw [zl _ _ hkb] at hk; exact R.ow k hk
 ·have hf:xV σ.b id=σ.b:=by
   unfold xV
   split
   ·rename_i c cs hb; exact absurd ⟨c::cs,hb,by simp⟩ hl
   ·rfl
  refine ⟨ω,?_,?_⟩
  ·have:({ σ with b:=xV σ.b id }:St)=σ:=by rw [hf]
   rw [this]; exact R
  ·have:({ σ with b:=xV σ.b id }:St)=σ:=by rw [hf]
   rw [this]
   exact ⟨fun k o u h1 h2=>⟨h1,h2⟩,fun id L hL=>⟨hL,rfl,Wq _⟩⟩
theorem Rel.freezeF(R:Rel ren we ωe U O σ a w ω μ)(id:Nat):∃ ω',Rel ren we ωe U O { σ with b:=zcd σ.b id } a w ω' μ∧Fr (env U σ w ω μ) (env U { σ with b:=zcd σ.b id } w ω' μ):=by
 by_cases hl:∃ cs vs,σ.b[id]?=some (.live false cs)∧cs≠[]∧cs.mapM V.plain=some vs
 ·obtain ⟨cs,vs,hb,hcne,hvs⟩:=hl
  obtain ⟨hvl,hvc⟩:=zHo hvs
  have hlt:id<σ.b.length:=(Wi.1 hb).1
  have hf:zcd σ.b id=σ.b.set id (.fz vs):=by
   cases cs with
   | nil=>exact absurd rfl hcne
   | cons c cs=>unfold zcd; rw [hb]; simp only [hvs]
  obtain ⟨e0,arr,T,e1,e2,e3⟩:=R.live hb hcne
  have hnU:∀ o,¬ U (μ id) o:=by
   intro o hu
   have h1:=R.ul _ _ hu
   rcases (R.ow (μ id) (by rw [e0]; simp)).1 with h | h
   ·omega
   ·exact h1.2 h
  have F:Fr (env U σ w ω μ) (env U { σ with b:=zcd σ.b id } w (upd ω (μ id) .no) μ):=by
   refine ⟨fun k o u h1 h2=>⟨?_,h2⟩,fun id' L hL=>⟨?_,rfl,Wq _⟩⟩
   ·have h1:¬ wr U ω k o:=h1
    show ¬ wr U (upd ω (μ id) .no) k o
    unfold wr at h1 ⊢
    by_cases hk:k=μ id
    ·subst hk; rw [zx]; simp only [not_or] at h1 ⊢; exact ⟨h1.1,fun h=>h⟩
    ·rw [zl _ _ hk]; exact h1
   ·have hL:yq σ.b id'=some L:=hL
    show yq (zcd σ.b id) id'=some L
    rw [hf]
    unfold yq at hL ⊢
    by_cases hne:id'=id
    ·subst hne
     rw [WF hlt]
     rw [hb] at hL
     simp only at hL ⊢
     rw [hvl]; exact hL
    ·rw [WE (fun e=>hne e.symm)]; exact hL
  have hgs:∀ (l:Loc) β h,ω β=.gs l h→upd ω (μ id) .no β=.gs l h:=by
   intro l β h e
   rw [zl]
   ·exact e
   ·rintro rfl; rw [e0] at e; cases e
  refine ⟨upd ω (μ id) .no,R.step F rfl (fun t j β h _ e=>⟨hgs _ β h e,rfl⟩) (fun id' p' cs' h' hne'=>?_) (fun id' cs' h'=>?_) (fun id' es' h'=>?_) (Kept.refl No w) (fun k _ h=>zpJ h) (fun k hk=>?_) (fun k=>Wq _),F⟩
  ·simp only at h'
   rw [hf] at h'
   by_cases hne:id'=id
   ·subst hne; rw [WF hlt] at h'; cases h'
   ·rw [WE (fun e=>hne e.symm)] at h'
    obtain ⟨q0,_⟩:=R.live h' hne'
    refine .inl ⟨h',?_,rfl,fun j β h e=>⟨hgs _ β h e,rfl⟩⟩
    rw [zl]
    ·exact q0
    ·intro e; rw [e,e0] at q0; cases q0; exact hne rfl
  ·simp only at h'
   rw [hf] at h'
   by_cases hne:id'=id
   ·subst hne
    rw [WF hlt] at h'; cases h'
    refine .inr ⟨fun o ho=>?_,arr,T,_,e1,by rw [hvl]; exact e2,fun j c hc=>?_⟩
    ·unfold wr at ho
     rw [zx] at ho
     rcases ho with ho | ho
     ·exact hnU o ho
     ·exact ho
    ·obtain ⟨c0,hc0,hp⟩:=hvc j c hc
     obtain ⟨u,g1,g2,_,g4⟩:=e3 j c0 hc0
     exact ⟨u,g1,g2,(g4.plain R.hU hp).mono F.st⟩
   ·rw [WE (fun e=>hne e.symm)] at h'
    obtain ⟨q0,_⟩:=R.fs id' cs' h'
    refine .inl ⟨h',fun o ho=>q0 o ?_,rfl⟩
    unfold wr at ho ⊢
    by_cases hk:μ id'=μ id
    ·rw [hk,zx] at ho
     rcases ho with ho | ho
     ·exact .inl (by rw [hk]; exact ho)
     ·exact ho.elim
    ·rwa [zl _ _ hk] at ho
  ·simp only at h'
   rw [hf] at h'
   by_cases hne:id'=id
   ·subst hne; rw [WF hlt] at h'; cases h'
   ·rw [WE (fun e=>hne e.symm)] at h'
    obtain ⟨q0,_⟩:=R.ms id' es' h'
    refine .inl ⟨h',?_,rfl⟩
    rw [zl]
    ·exact q0
    ·intro e; rw [e,e0] at q0; cases q0; exact hne rfl
  ·by_cases hkb:k=μ id
   ·subst hkb; rw [zx] at hk; exact absurd rfl hk
   ·rw [zl _ _ hkb] at hk; exact R.ow k hk
 ·have hf:zcd σ.b id=σ.b:=by
   unfold zcd
   split
   ·rename_i c cs hb
    split
    ·rename_i vs hvs; exact absurd ⟨c::cs,vs,hb,by simp,hvs⟩ hl
    ·rfl
   ·rfl
  refine ⟨ω,?_,?_⟩
  ·have:({ σ with b:=zcd σ.b id }:St)=σ:=by rw [hf]
   rw [this]; exact R
  ·have:({ σ with b:=zcd σ.b id }:St)=σ:=by rw [hf]
   rw [this]
   exact ⟨fun k o u h1 h2=>⟨h1,h2⟩,fun id L hL=>⟨hL,rfl,Wq _⟩⟩
theorem Fr.trans{E E' E'':En}(F:Fr E E')(G:Fr E' E''):Fr E E'':=
 ⟨fun k o u h1 h2=>G.st k o u (F.st k o u h1 h2).1 (F.st k o u h1 h2).2,fun id L hL=>by
  obtain ⟨f1,f2,f3⟩:=F.id id L hL
  obtain ⟨g1,g2,g3⟩:=G.id id L f1
  refine ⟨g1,g2.trans f2,?_⟩
  rw [f2] at g3
  exact QE f3 g3⟩
theorem Rel.frozenBy(s0:St):∀ (srcs:List (Src × Nat)) {σ:St} {ω:Nat→Ow},Rel ren we ωe U O σ a w ω μ→∃ ω',Rel ren we ωe U O { σ with b:=zo s0 srcs σ.b } a w ω' μ∧Fr (env U σ w ω μ) (env U { σ with b:=zo s0 srcs σ.b } w ω' μ)
 | [],σ,ω,R=>⟨ω,R,⟨fun k o u h1 h2=>⟨h1,h2⟩,fun id L hL=>⟨hL,rfl,Wq _⟩⟩⟩
 | s::srcs,σ,ω,R=>by
  unfold zo
  by_cases hm:2≤s.2
  ·rw [if_pos hm]; exact Rel.frozenBy s0 srcs R
  rw [if_neg hm]
  cases hid:zag (s.1.get s0) with
  | none=>simp only; exact Rel.frozenBy s0 srcs R
  | some id=>
   simp only
   obtain ⟨ω1,R1,F1⟩:=R.freeze id
   obtain ⟨ω2,R2,F2⟩:=Rel.frozenBy s0 srcs R1
   exact ⟨ω2,R2,F1.trans F2⟩
theorem zpZ(s0:St):∀ (srcs:List (Src × Nat)) (b:List B) (k:Nat),(zo s0 srcs b)[k]?=b[k]?∨(∃ cs,b[k]?=some (.live true cs)∧(zo s0 srcs b)[k]?=some (.fz cs))
 | [],b,k=>.inl rfl
 | s::srcs,b,k=>by
  unfold zo
  by_cases hm:2≤s.2
  ·rw [if_pos hm]; exact zpZ s0 srcs b k
  rw [if_neg hm]
  cases hid:zag (s.1.get s0) with
  | none=>exact zpZ s0 srcs b k
  | some id=>
   simp only
   rcases zpZ s0 srcs (xV b id) k with h | ⟨cs,h1,h2⟩
   ·rcases zzn b id k with g | ⟨cs,g1,_,_,g2⟩
    ·exact .inl (h.trans g)
    ·exact .inr ⟨cs,g1,h.trans g2⟩
   ·rcases zzn b id k with g | ⟨cs',g1,_,_,g2⟩
    ·exact .inr ⟨cs,g.symm.trans h1,h2⟩
    ·rw [g2] at h1; cases h1
theorem zpK(s0:St):∀ (srcs:List (Src × Nat)) (b:List B) (s:Src × Nat),s∈srcs→¬ 2≤s.2→∀ id off len sz,s.1.get s0=.own id off len sz→∀ cs,((b[id]?).getD .gone).cs?=some cs→cs≠[]→(zo s0 srcs b)[id]?=some (.fz cs)
 | [],b,s,hs,hm,id,off,len,sz,h,cs,hc,hne=>by cases hs
 | s'::srcs,b,s,hs,hm,id,off,len,sz,h,cs,hc,hne=>by
  unfold zo
  have hb:b[id]?=some (.live true cs)∨b[id]?=some (.fz cs):=by
   cases hx:b[id]? with
   | none=>simp [hx,B.cs?] at hc
   | some x=>
    cases x with
    | gone=>simp [hx,B.cs?] at hc
    | live p cs'=>
     cases p with
     | false=>simp [hx,B.cs?] at hc
     | true=>simp [hx,B.cs?] at hc; subst hc; exact .inl rfl
    | fz cs'=>simp [hx,B.cs?] at hc; subst hc; exact .inr rfl
    | mp es=>simp [hx,B.cs?] at hc
    | dead n=>simp [hx,B.cs?] at hc
  have done:∀ b',b'[id]?=some (.fz cs)→(zo s0 srcs b')[id]?=some (.fz cs):=by
   intro b' hb'
   rcases zpZ s0 srcs b' id with h | ⟨cs',h1,_⟩
   ·exact h.trans hb'
   ·rw [hb'] at h1; cases h1
  rcases List.mem_cons.1 hs with rfl | hs'
  ·rw [if_neg hm,h]
   simp only [zag]
   refine done _ ?_
   rcases hb with hb | hb
   ·rw [zFl hb hne]; exact WF (Wi.1 hb).1
   ·unfold xV; rw [hb]; exact hb
  ·by_cases hm':2≤s'.2
   ·rw [if_pos hm']; exact zpK s0 srcs b s hs' hm id off len sz h cs hc hne
   rw [if_neg hm']
   cases hid:zag (s'.1.get s0) with
   | none=>exact zpK s0 srcs b s hs' hm id off len sz h cs hc hne
   | some id'=>
    simp only
    refine zpK s0 srcs (xV b id') s hs' hm id off len sz h cs ?_ hne
    rcases zzn b id' id with g | ⟨cs',g1,_,_,g2⟩
    ·rw [g]; exact hc
    ·rw [g2]
     rw [g1] at hc
     exact hc
def zQu(v:V):Prop:=(∃ id off,v=.ptr id off)∨(∃ n cs,v=.fp n cs)∨(∃ f caps,v=.fn f caps)∨(∃ id,v=.mp id)∨(∃ id off len sz,v=.own id off len sz)∨(∃ sz,v=.fr sz [])∨(∃ cs,v=.st cs)
theorem zO0{s:Src × Nat}{v:V}(h:zuk s=some v):∃ sz,s.1=.const (.gs sz [])∧v=.fr sz []:=by
 unfold zuk at h
 split at h
 ·rename_i sz e
  split at h
  ·cases h; exact ⟨sz,e,rfl⟩
  ·cases h
 ·cases h
theorem zWl{x:Operand}{ty:TypeId}{sz:Nat}(hx:xj P ren ty x=some (.const (.gs sz []))):∃ A,a.eval x=.slice A 0 0:=by
 cases x with
 | tmp t=>simp [xj] at hx
 | func f=>simp [xj] at hx
 | global g=>simp [xj] at hx
 | const c=>
  simp only [xj,Wj,Src.const.injEq,exists_eq_right] at hx
  unfold zx8 at hx
  split at hx <;> first | (cases hx; done) | skip
  exact ⟨none,rfl⟩
theorem zTc(R:Rel ren we ωe U O σ a w ω μ){srcs:List (Src × Nat)}{ω1:Nat→Ow}(R1:Rel ren we ωe U O { σ with b:=zo σ srcs σ.b } a w ω1 μ)(F1:Fr (env U σ w ω μ) (env U { σ with b:=zo σ srcs σ.b } w ω1 μ)){s:Src × Nat}(hs:s∈srcs){x:Operand}{ty:TypeId}(hx:xj P ren ty x=some s.1){v:V}(hv:zbo σ s=some v) :
  (RepP ren w (wr U ω1) v (a.eval x)∨(∀ l,Rep ren (env U { σ with b:=zo σ srcs σ.b } w ω1 μ) l v (a.eval x)∧zQu v)):=by
 have hr:=R.opnd hx
 unfold zbo at hv
 cases hnil:zuk s with
 | some v'=>
  rw [hnil] at hv
  cases hv
  right
  intro l
  obtain ⟨sz,e1,rfl⟩:=zO0 hnil
  rw [e1] at hx
  obtain ⟨A,eu⟩:=zWl (P:=P) (ren:=ren) (a:=a) hx
  rw [eu]
  exact ⟨.fr0 sz _,.inr (.inr (.inr (.inr (.inr (.inl ⟨sz,rfl⟩)))))⟩
 | none=>
 rw [hnil] at hv
 simp only at hv
 unfold zyo at hv
 cases hlend:zpt s.2 (s.1.get σ) with
 | some v'=>
  rw [hlend] at hv
  cases hv
  unfold zpt at hlend
  split at hlend
  ·split at hlend
   ·rename_i id off len sz hg
    cases hlend
    rw [hg] at hr
    right
    intro l
    exact ⟨Rep.frame0 F1 (fun _=>hr.ownAt.rep _) (by simp) l,.inr (.inr (.inr (.inr (.inl ⟨id,off,len,sz,rfl⟩))))⟩
   ·rename_i cs hg
    cases hlend
    rw [hg] at hr
    right
    intro l
    obtain ⟨us,eu,h1,h2,h3⟩:=hr.st_inv
    exact ⟨Rep.frame0 F1 (fun _=>by rw [eu]; exact .st cs us h1 h2 h3) (by simp) l,.inr (.inr (.inr (.inr (.inr (.inr ⟨cs,rfl⟩)))))⟩
   ·cases hlend
  ·cases hlend
 | none=>
 have hmode:∀ id off len sz,s.1.get σ=.own id off len sz→¬ 2≤s.2:=by
  intro id off len sz hg hm
  rw [hg] at hlend
  simp [zpt,hm] at hlend
 rw [hlend] at hv
 simp only at hv
 cases hg:s.1.get σ with
 | own id off len sz=>
  rw [hg] at hr hv
  simp only [za0,Wb] at hv
  cases hcs:((σ.b[id]?).getD .gone).cs? with
  | none=>simp [hcs] at hv
  | some cs=>
   simp only [hcs,QT,Wl,V.plain,Wg] at hv
   subst hv
   left
   obtain ⟨c,L,A,eu,hL,hl,hc,hA⟩:=hr.own_inv
   have hLc:L=cs.length:=by
    have h1:yq σ.b id=some L:=hL
    have:=(R.blk hcs).1
    rw [this] at h1; cases h1; rfl
   subst hLc
   rw [eu]
   by_cases hne:cs=[]
   ·subst hne
    have hnil:∀ (i:Nat) (v:V),¬ (zf sz len (([]:List V).drop off)).flatten[i]?=some v:=by
     intro i v hv
     rw [xZ,Wn] at hv
     split at hv
     ·simp at hv
     ·cases hv
    have key:=RepP.sl (ren:=ren) (w:=w) (Wr:=wr U ω1) sz (zf sz len (([]:List V).drop off)) A c (fun _=>undef) (by rw [xx]; exact hc.1) (zaR _ _ _ (by simp at hl ⊢; omega)) (μ id) off
     (fun hne=>by
      rcases hA with ⟨h1,_⟩ | ⟨h1,_⟩
      ·exact h1
      ·subst h1; simp [zf] at hne)
     (fun i v hv=>absurd hv (hnil i v)) (fun i v hv=>absurd hv (hnil i v)) (fun i v hv=>absurd hv (hnil i v))
    rw [xx] at key
    exact key
   have hfz:=zpK σ srcs σ.b s hs (hmode _ _ _ _ hg) id off len sz hg cs hcs hne
   obtain ⟨q0,arr,T,fr,q1,q2,q3⟩:=R1.fs id cs hfz
   have key:=RepP.sl (ren:=ren) (w:=w) (Wr:=wr U ω1) sz (zf sz len (cs.drop off)) A c (fun i=>arr.toList.getD (off+i) undef) (by rw [xx]; exact hc.1) (zaR _ _ _ (by simp; omega)) (μ id) off
    (fun hne=>by
     rcases hA with ⟨h1,_⟩ | ⟨h1,_⟩
     ·exact h1
     ·subst h1; simp [zf] at hne)
   have seg:∀ (i:Nat) (v:V),(zf sz len (cs.drop off)).flatten[i]?=some v→∃ u,arr.toList.getD (off+i) undef=u∧arr[off+i]?=some u∧u.oneCell'=true∧RepP ren w (wr U ω1) v u:=by
    intro i v hv
    rw [xZ,Wn] at hv
    split at hv
    ·rw [List.getElem?_drop] at hv
     obtain ⟨u,g1,g2,g3⟩:=q3 _ _ hv
     have g1':arr.toList[off+i]?=some u:=by simpa using g1
     exact ⟨u,by rw [Ws,g1']; rfl,g1,g2,g3⟩
    ·cases hv
   have key:=key (fun i v hv=>by obtain ⟨u,e,g1,g2,g3⟩:=seg i v hv; exact ⟨q0 _,by rw [cell_of_row _ _ _ _ _ _ q1,e]; exact g1⟩)
    (fun i v hv=>by obtain ⟨u,e,g1,g2,g3⟩:=seg i v hv; rw [e]; exact g2) (fun i v hv=>by obtain ⟨u,e,g1,g2,g3⟩:=seg i v hv; rw [e]; exact g3)
   rw [xx] at key
   exact key
 | ptr id off=>
  rw [hg] at hr hv
  cases hv
  right
  intro l
  obtain ⟨L,hL,eu⟩:=hr.ptr_inv
  exact ⟨Rep.frame0 F1 (fun _=>by rw [eu]; exact .ptr id off L hL) (by simp) l,.inl ⟨id,off,rfl⟩⟩
 | fp n cs=>
  rw [hg] at hr hv
  cases hv
  right
  intro l
  obtain ⟨k,q,f,eu,g1,g2,g3,g4⟩:=hr.fp_inv
  exact ⟨Rep.frame0 F1 (fun _=>by rw [eu]; exact .fp n cs k q f g1 g2 g3 g4) (by simp) l,.inr (.inl ⟨n,cs,rfl⟩)⟩
 | fn g caps=>
  rw [hg] at hr hv
  cases hv
  right
  intro l
  obtain ⟨f,us,eu,g1,g2,g3⟩:=hr.fn_inv
  exact ⟨Rep.frame0 F1 (fun _=>by rw [eu]; exact .fn f g caps us g1 g2 g3) (by simp) l,.inr (.inr (.inl ⟨g,caps,rfl⟩))⟩
 | agg cs=>
  rw [hg] at hr hv
  simp only [za0] at hv
  cases hv
  left
  have h0:=hr.agg_eq
  obtain ⟨us,eu,hcp⟩:=CellsP.of_agg h0
  have hcp1:=hcp.mono (w':=w) (Wr':=wr U ω1) F1.st
  rw [eu]
  split
  ·exact (zkX hcp1).agg
  ·exact hcp1.agg
 | sc x=>
  rw [hg] at hr hv
  simp only [za0] at hv
  left
  exact (hr.plain R.hU hv).mono F1.st
 | sl sz es=>
  rw [hg] at hr hv
  simp only [za0] at hv
  left
  exact (hr.plain R.hU hv).mono F1.st
 | gs sz es=>
  rw [hg] at hr hv
  simp only [za0] at hv
  left
  have h0:=(hr.plain R.hU (v':=.sl sz es) rfl)
  cases hv
  exact h0.mono F1.st
 | mp id=>
  rw [hg] at hr hv
  cases hv
  right
  intro l
  obtain ⟨L,hL,eu⟩:=hr.mp_inv
  exact ⟨Rep.frame0 F1 (fun _=>by rw [eu]; exact .mp id L hL) (by simp) l,.inr (.inr (.inr (.inl ⟨id,rfl⟩)))⟩
 | tup vs=>rw [hg] at hv; simp [za0,V.plain] at hv
 | st cs=>rw [hg] at hv; simp [za0,V.plain] at hv
 | bx p cs=>rw [hg] at hv; simp [za0,V.plain] at hv
 | fr sz es=>rw [hg] at hv; simp [za0,V.plain] at hv
 | cut id off len cap sz=>rw [hg] at hv; simp [za0,V.plain] at hv
 | ub=>rw [hg] at hv; simp [za0,V.plain] at hv
 | junk=>rw [hg] at hv; simp [za0,V.plain] at hv
end
section
variable {ren:Rn} {we:World} {ωe:Nat→Ow} {U:Nat→Nat→Prop} {O:Nat→Prop} {σ:St} {a:Act} {w:World} {ω:Nat→Ow} {μ:Nat→Nat} {P:Program}
theorem zsu(b:List B):∀ (n:Nat) (todo acc:List Nat),acc.Nodup→(ze3 b n todo acc).Nodup
 | 0,_,acc,h=>by simpa [ze3] using h
 | n+1,[],acc,h=>by simpa [ze3] using h
 | n+1,id::todo,acc,h=>by
  unfold ze3
  split
  ·exact zsu b n todo acc h
  ·rename_i hc
   refine zsu b n _ _ ?_
   rw [QR]
   refine ⟨h,by simp,fun x hx y hy=>?_⟩
   simp at hy; subst hy
   rintro rfl
   exact hc (by simpa using hx)
theorem zkT{ids:List Nat}{id:Nat}(h:id∈ids):yM ids id<ids.length∧ids[yM ids id]?=some id:=by
 have h1:yM ids id<ids.length:=List.idxOf_lt_length_of_mem h
 exact ⟨h1,by rw [Wc h1]; exact congrArg some (List.getElem_idxOf h1)⟩
theorem zkA{ids:List Nat}(hn:ids.Nodup){i id:Nat}(h:ids[i]?=some id):yM ids id=i:=by
 have h1:=zkT (WW h)
 have hi:i<ids.length:=(Wi.1 h).1
 have e1:ids[yM ids id]'h1.1=id:=by have:=h1.2; rw [Wc h1.1] at this; exact QV this
 have e2:ids[i]=id:=by rw [Wc hi] at h; exact QV h
 exact (List.getElem_inj hn).1 (e1.trans e2.symm)
theorem zh2{b:List B}{ids:List Nat}:∀ (l:List Nat) (bor:Bor),ze6 b ids l=some bor→bor.length=l.length∧∀ (i id:Nat),l[i]?=some id→(∃ p cs,b[id]?=some (.live p cs)∧bor[i]?=some (.live p (if p then cs else cs.map (zdQ (yM ids))))∧(p=false→∀ c∈cs,zb5 ids c=true))∨(∃ es,b[id]?=some (.mp es)∧bor[i]?=some (.mp es))
 | [],bor,h=>by cases h; exact ⟨rfl,by simp⟩
 | id0::l,bor,h=>by
  simp only [ze6] at h
  split at h
  ·rename_i cs hb
   simp only [Wb,Wa,Wl,Wg] at h
   obtain ⟨bor',h',rfl⟩:=h
   obtain ⟨e,ih⟩:=zh2 l bor' h'
   refine ⟨by simp [e],fun i id hi=>?_⟩
   cases i with
   | zero=>simp at hi; subst hi; exact .inl ⟨true,cs,hb,by simp,by simp⟩
   | succ i=>simp at hi; simpa using ih i id hi
  ·rename_i cs hb
   split at h
   ·rename_i hall
    simp only [Wb,Wa,Wl,Wg] at h
    obtain ⟨bor',h',rfl⟩:=h
    obtain ⟨e,ih⟩:=zh2 l bor' h'
    refine ⟨by simp [e],fun i id hi=>?_⟩
    cases i with
    | zero=>simp at hi; subst hi; exact .inl ⟨false,cs,hb,by simp,fun _ c hc=>QO.1 hall c hc⟩
    | succ i=>simp at hi; simpa using ih i id hi
   ·cases h
  ·rename_i es hb
   simp only [Wb,Wa,Wl,Wg] at h
   obtain ⟨bor',h',rfl⟩:=h
   obtain ⟨e,ih⟩:=zh2 l bor' h'
   refine ⟨by simp [e],fun i id hi=>?_⟩
   cases i with
   | zero=>simp at hi; subst hi; exact .inr ⟨es,hb,by simp⟩
   | succ i=>simp at hi; simpa using ih i id hi
  ·cases h
theorem OwnAt.move{E E':En}{v:V}{u:Value}(h:OwnAt E v u)(g:Nat→Nat)(hid:∀ id,zag v=some id→∀ L,E.bl id=some L→E'.bl (g id)=some L∧E'.μ (g id)=E.μ id)(hrs:∀ k,zA E.w k≤zA E'.w k):OwnAt E' (zMP g v) u:=by
 obtain ⟨id,off,len,sz,c,L,A,rfl,rfl,hL,hl,hc,hz,hA⟩:=h
 obtain ⟨q1,q2⟩:=hid id rfl L hL
 refine ⟨g id,off,len,sz,c,L,A,rfl,rfl,q1,hl,hc,hz,?_⟩
 rcases hA with ⟨e,he⟩ | h
 ·exact .inl ⟨by rw [q2]; exact e,by rw [q2]; exact QE he (hrs _)⟩
 ·exact .inr h
theorem RepP.renOwn_same{w:World}{Wr:Nat→Nat→Prop}{v:V}{u:Value}(h:RepP ren w Wr v u)(g:Nat→Nat):zMP g v=v:=by
 cases h <;> rfl
theorem Rep.moveSt{E E':En}{l l':Loc}{cs:List V}{u:Value}(h:Rep ren E l (.st cs) u)(st:∀ k o u,¬ E.Wr k o→E.w.cell? ⟨k,o,none⟩=some u→¬ E'.Wr k o∧E'.w.cell? ⟨k,o,none⟩=some u)(g:Nat→Nat)
  (hid:∀ id∈yE (.st cs),∀ L,E.bl id=some L→E'.bl (g id)=some L∧E'.μ (g id)=E.μ id) (hrs:∀ k,zA E.w k≤zA E'.w k):Rep ren E' l' (zdQ g (.st cs)) u:=by
 obtain ⟨us,rfl,hl,h,h1⟩:=h.st_inv
 refine .st _ us (by simpa using hl) (fun i c u hc hu=>?_) h1
 rw [WJ] at hc
 cases hci:cs[i]? with
 | none=>simp [hci] at hc
 | some c0=>
  simp [hci] at hc; subst hc
  rcases h i c0 u hci hu with q | q
  ·left; rw [q.renOwn_same]; exact q.mono st
  ·right
   exact q.move g (fun id e=>hid id (by simp only [yE,QP]; exact ⟨c0,WW hci,e⟩)) hrs
theorem Rep.move{E E':En}{l l':Loc}{v:V}{u:Value}(h:Rep ren E l v u)(st:∀ k o u,¬ E.Wr k o→E.w.cell? ⟨k,o,none⟩=some u→¬ E'.Wr k o∧E'.w.cell? ⟨k,o,none⟩=some u)(g:Nat→Nat)
  (hid:∀ id∈yE v,∀ L,E.bl id=some L→E'.bl (g id)=some L∧E'.μ (g id)=E.μ id) (hg:∀ β h,E.ω β=.gs l h→E'.ω β=.gs l' h∧E'.w.heap[β]?=E.w.heap[β]?) (hrs:∀ k,zA E.w k≤zA E'.w k) (htup:∀ x xs,v≠.tup (x::xs)):Rep ren E' l' (zdQ g v) u:=by
 cases h with
 | pure h=>
  have h':=h.mono (w':=E'.w) (Wr':=E'.Wr) st
  cases h with
  | fn f g' hr=>exact .pure (.fn f g' hr)
  | sc _ _=>exact .pure h'
  | agg _ _ _ _ _=>exact .pure h'
  | sl _ _ _ _ _ _ _ _ _ _ _ _ _=>exact .pure h'
  | ful _ _ _ _ _ _ _ _ _ _ _ _=>exact .pure h'
 | gs sz es β c arr T f hω hb hc hn hsz hcell h1 h=>
  obtain ⟨g1,g2⟩:=hg _ _ hω
  exact .gs sz es β c arr T f g1 (by rw [g2]; exact hb) hc hn hsz hcell h1 (fun i v hv=>(h i v hv).mono st)
 | fr sz es β c arr T f hω hb hc hn hsz hcell h1 h=>
  obtain ⟨g1,g2⟩:=hg _ _ hω
  exact .fr sz es β c arr T f g1 (by rw [g2]; exact hb) hc hn hsz hcell h1 (fun i v hv=>(h i v hv).mono st)
 | fr0 sz A=>exact .fr0 sz A
 | ub b=>exact .ub b
 | mp id L hL=>
  obtain ⟨q1,q2⟩:=hid id (by simp [yE]) L hL
  rw [← q2]
  exact .mp (g id) L q1
 | bx p cs β arr T f hω hb hn hcell h1 h=>
  obtain ⟨g1,g2⟩:=hg _ _ hω
  exact .bx p cs β arr T f g1 (by rw [g2]; exact hb) hn hcell h1 (fun i v hv=>(h i v hv).mono st)
 | own id off len sz c L A hL hl hc hA=>
  exact (OwnAt.move ⟨id,off,len,sz,c,L,A,rfl,rfl,hL,hl,hc.1,hc.2,hA⟩ g (fun id' e=>by cases e; exact hid id (by simp [yE])) hrs).rep _
 | cut id off len cap sz c L A hL hl hc hA=>
  obtain ⟨q1,q2⟩:=hid id (by simp [yE]) L hL
  refine .cut (g id) off len cap sz c L A q1 hl hc ?_
  rcases hA with ⟨e,he⟩ | h
  ·exact .inl ⟨by rw [q2]; exact e,by rw [q2]; exact QE he (hrs _)⟩
  ·exact .inr h
 | ptr id off L hL=>
  obtain ⟨q1,q2⟩:=hid id (by simp [yE]) L hL
  rw [← q2]
  exact .ptr (g id) off L q1
 | fp n cs k o f hl hcell h1 h=>exact .fp n cs k o f hl (fun i v hv=>st _ _ _ (hcell i v hv).1 (hcell i v hv).2) h1 (fun i v hv=>(h i v hv).mono st)
 | fn f g' caps us hr hl h=>
  refine .fn f g' _ us hr (by simpa using hl) (fun i c hc=>?_)
  rw [WJ] at hc
  cases hci:caps[i]? with
  | none=>simp [hci] at hc
  | some c0=>
   simp [hci] at hc; subst hc
   obtain ⟨id,off,L,rfl,e2,e3⟩:=h i c0 hci
   obtain ⟨q1,q2⟩:=hid id (by
    simp only [yE,QP]
    exact ⟨.ptr id off,WW hci,rfl⟩) L e2
   exact ⟨g id,off,L,rfl,q1,by rw [q2]; exact e3⟩
 | tup vs us hl h=>
  cases vs with
  | nil=>
   cases us with
   | nil=>exact .tup [] [] rfl (by simp)
   | cons x xs=>simp at hl
  | cons x xs=>exact absurd rfl (htup x xs)
 | st cs us hl h h1=>exact (Rep.st (l:=l) cs us hl h h1).moveSt st g hid hrs
 | junk=>exact .junk
theorem zRb{v:V}(h:zuj v=true):∀ x xs,v≠.tup (x::xs):=by
 rintro x xs rfl
 simp [zuj] at h
theorem zrb{ids:List Nat}{v:V}(h:zb5 ids v=true):(∀ id∈yE v,id∈ids)∧(∀ x xs,v≠.tup (x::xs)):=by
 cases v with
 | ptr id off=>simp [zb5] at h; exact ⟨by simpa [yE] using h,by simp⟩
 | own id off len sz=>simp [zb5] at h; exact ⟨by simpa [yE] using h,by simp⟩
 | mp id=>simp [zb5] at h; exact ⟨by simpa [yE] using h,by simp⟩
 | fn f caps=>
  refine ⟨fun id hid=>?_,by simp⟩
  simp only [yE,QP] at hid
  obtain ⟨c,hc,e⟩:=hid
  simp only [zb5,QO] at h
  have:=h c hc
  cases c <;> simp at e
  subst e
  simpa using this
 | tup _=>simp [zb5] at h
 | bx _ _=>simp [zb5] at h
 | fr _ _=>simp [zb5] at h
 | cut _ _ _ _ _=>simp [zb5] at h
 | ub=>simp [zb5] at h
 | agg _=>simp [zb5] at h
 | st _=>simp [zb5] at h
 | _=>exact ⟨by simp [yE],by simp⟩
theorem RepP.renV_same{w:World}{Wr:Nat→Nat→Prop}{v:V}{u:Value}(h:RepP ren w Wr v u)(g:Nat→Nat):zdQ g v=v:=by
 cases h <;> rfl
def ωIn(ids:List Nat)(ω:Nat→Ow)(k:Nat):Ow:=match ω k with
 | .blk id=>if ids.contains id then .blk (yM ids id) else .no
 | .gs (.cell id j) h=>if ids.contains id then .gs (.cell (yM ids id) j) h else .no
 | _=>.no
def UIn(U:Nat→Nat→Prop)(ids:List Nat)(ω:Nat→Ow)(k o:Nat):Prop:=wr U ω k o∧ωIn ids ω k=.no
def OIn(ids:List Nat)(ω:Nat→Ow)(k:Nat):Prop:=ωIn ids ω k≠.no
theorem ωIn_no{ids:List Nat}{ω:Nat→Ow}{k:Nat}(h:ωIn ids ω k≠.no):ω k≠.no:=by
 intro e; apply h; simp [ωIn,e]
theorem Rel.noU(R:Rel ren we ωe U O σ a w ω μ){k:Nat}(h:ω k≠.no)(o:Nat):¬ U k o:=by
 intro hu
 have h1:=R.ul _ _ hu
 rcases (R.ow k h).1 with h | h
 ·omega
 ·exact h1.2 h
theorem Rel.wrIn(R:Rel ren we ωe U O σ a w ω μ)(ids:List Nat)(k o:Nat):wr (UIn U ids ω) (ωIn ids ω) k o↔wr U ω k o:=by
 have no:ωIn ids ω k=.no→(wr (UIn U ids ω) (ωIn ids ω) k o↔wr U ω k o):=by
  intro e
  constructor
  ·intro h
   rcases h with h | h
   ·exact h.1
   ·rw [e] at h; exact h.elim
  ·intro h; exact .inl ⟨h,e⟩
 cases hω:ω k with
 | no=>exact no (by unfold ωIn; rw [hω])
 | blk id=>
  by_cases hc:ids.contains id=true
  ·have e:ωIn ids ω k=.blk (yM ids id):=by unfold ωIn; rw [hω]; simp only [hc,if_true]
   exact ⟨fun _=>.inr (by rw [hω]; trivial),fun _=>.inr (by rw [e]; trivial)⟩
  ·exact no (by unfold ωIn; rw [hω]; simp only [hc,if_false,WP])
 | gs l hh=>
  cases l with
  | slot t j=>exact no (by unfold ωIn; rw [hω])
  | cell id j=>
   by_cases hc:ids.contains id=true
   ·have e:ωIn ids ω k=.gs (.cell (yM ids id) j) hh:=by unfold ωIn; rw [hω]; simp only [hc,if_true]
    have hu:=R.noU (k:=k) (by rw [hω]; simp) o
    constructor
    ·intro h
     rcases h with h | h
     ·exact h.1
     ·rw [e] at h; exact .inr (by rw [hω]; exact h)
    ·intro h
     rcases h with h | h
     ·exact absurd h hu
     ·rw [hω] at h; exact .inr (by rw [e]; exact h)
   ·exact no (by unfold ωIn; rw [hω]; simp only [hc,if_false,WP])
theorem Rel.wrIn_eq(R:Rel ren we ωe U O σ a w ω μ)(ids:List Nat):wr (UIn U ids ω) (ωIn ids ω)=wr U ω:=by
 funext k o; exact propext (R.wrIn ids k o)
theorem zXD{E:En}{sz:Nat}{u:Value}(h:∀ l,Rep ren E l (.fr sz []) u):∃ A,u=.slice A 0 0:=by
 have h1:=h (.slot 0 0)
 have h2:=h (.slot 1 0)
 cases h1 with
 | pure h=>cases h
 | fr0 _ A=>exact ⟨A,rfl⟩
 | fr _ _ β c arr T f hω hb hc hn hsz hcell h1' hh=>
  cases h2 with
  | pure h=>cases h
  | fr _ _ β' c' arr' T' f' hω' hb' hc' hn' hsz' hcell' h1'' hh'=>
   rw [hω] at hω'; cases hω'
  | fr0 _ A=>exact ⟨_,rfl⟩
theorem Rel.enterRel(R:Rel ren we ωe U O σ a w ω μ){ids:List Nat}(hn:ids.Nodup){bor:Bor}(hl:ze6 σ.b ids ids=some bor){args:List V}{us:List Value}(hlen:args.length=us.length)
  (hargs:∀ (i:Nat) (v:V) (u:Value),args[i]?=some v→us[i]?=some u→RepP ren w (wr U ω) v u∨(∀ l,Rep ren (env U σ w ω μ) l v u∧zQu v))
  (hrefs:args.all (fun a=>(yE a).all ids.contains)=true) :
  Rel ren w (ωIn ids ω) (UIn U ids ω) (OIn ids ω) ⟨args.map (zdQ (yM ids)),bor.map toB⟩ ⟨us.toArray,[]⟩ w (ωIn ids ω) (fun i=>μ (ids.getD i 0)):=by
 obtain ⟨hbl,hbor⟩:=zh2 ids bor hl
 have hw:=R.wrIn_eq ids
 have hidT:∀ id∈ids,∀ L,yq σ.b id=some L→yq (bor.map toB) (yM ids id)=some L∧μ (ids.getD (yM ids id) 0)=μ id:=by
  intro id hid L hL
  obtain ⟨h1,h2⟩:=zkT hid
  refine ⟨?_,by rw [Ws,h2]; rfl⟩
  rcases hbor _ _ h2 with ⟨p,cs,g1,g2,_⟩ | ⟨es,g1,g2⟩
  ·simp only [yq,g1,Wg] at hL
   simp only [yq,WJ,g2,QN,toB]
   cases p <;> simp [hL]
  ·simp only [yq,g1,Wg] at hL
   simp only [yq,WJ,g2,QN,toB,hL]
 have hst:∀ k o u,¬ wr U ω k o→w.cell? ⟨k,o,none⟩=some u→¬ wr (UIn U ids ω) (ωIn ids ω) k o∧w.cell? ⟨k,o,none⟩=some u:=by
  intro k o u h1 h2; rw [hw]; exact ⟨h1,h2⟩
 refine ⟨rfl,by simp [hlen],fun i v hi=>?_,fun i p cs hb=>?_,fun i cs hb=>?_,fun i es hb=>?_,Kept.refl _ w,fun k hk=>⟨.inr hk,(R.ow k (ωIn_no hk)).2⟩,fun k o hu=>?_,fun k o u h1 h2=>⟨h1,h2⟩,fun k=>Wq _,by rw [hw]; exact R.gvn⟩
 ·simp only [WJ] at hi
  cases hai:args[i]? with
  | none=>simp [hai] at hi
  | some v0=>
   simp [hai] at hi; subst hi
   have hlt:i<us.length:=by rw [← hlen]; exact (Wi.1 hai).1
   have hu:us[i]?=some us[i]:=Wc hlt
   have hgd:us.toArray.getD i undef=us[i]:=by simp [hlt]
   show Rep ren _ _ _ (us.toArray.getD i undef)
   rw [hgd]
   have hr0:=QO.1 hrefs v0 (WW hai)
   have hrf:∀ id∈yE v0,id∈ids:=fun id hid=>by have:=QO.1 hr0 id hid; simpa using this
   rcases hargs i v0 us[i] hai hu with h | h
   ·rw [h.renV_same]
    exact .pure (h.mono hst)
   ·have h0:=h (.slot i 0)
    rcases h0.2 with ⟨id,off,rfl⟩ | ⟨n,cs,rfl⟩ | ⟨f,caps,rfl⟩ | ⟨id,rfl⟩ | hform
    ·obtain ⟨L,hL,e⟩:=h0.1.ptr_inv
     obtain ⟨q1,q2⟩:=hidT id (hrf id (by simp [yE])) L hL
     have:Rep ren (env (UIn U ids ω) ⟨args.map (zdQ (yM ids)),bor.map toB⟩ w (ωIn ids ω) (fun i=>μ (ids.getD i 0))) (.slot i 0) (.ptr (yM ids id) off) (.pointer (some ⟨μ (ids.getD (yM ids id) 0),off,none⟩)):=.ptr _ off L q1
     rw [q2] at this
     rw [e]; exact this
    ·obtain ⟨k,q,f,e,g1,g2,g3,g4⟩:=h0.1.fp_inv
     rw [e]
     exact .fp n cs k q f g1 (fun i v hv=>hst _ _ _ (g2 i v hv).1 (g2 i v hv).2) g3 (fun i v hv=>(g4 i v hv).mono hst)
    ·obtain ⟨f',us',e,g1,g2,g3⟩:=h0.1.fn_inv
     rw [e]
     refine .fn f' f _ us' g1 (by simpa using g2) (fun j c hc=>?_)
     rw [WJ] at hc
     cases hcj:caps[j]? with
     | none=>simp [hcj] at hc
     | some c0=>
      simp [hcj] at hc; subst hc
      obtain ⟨id,off,L,rfl,e2,e3⟩:=g3 j c0 hcj
      obtain ⟨q1,q2⟩:=hidT id (hrf id (by simp only [yE,QP]; exact ⟨.ptr id off,WW hcj,rfl⟩)) L e2
      refine ⟨yM ids id,off,L,rfl,q1,?_⟩
      show us'[j]?=some (.pointer (some ⟨μ (ids.getD (yM ids id) 0),off,none⟩))
      rw [q2]; exact e3
    ·obtain ⟨L,hL,e⟩:=h0.1.mp_inv
     obtain ⟨q1,q2⟩:=hidT id (hrf id (by simp [yE])) L hL
     have:Rep ren (env (UIn U ids ω) ⟨args.map (zdQ (yM ids)),bor.map toB⟩ w (ωIn ids ω) (fun i=>μ (ids.getD i 0))) (.slot i 0) (.mp (yM ids id)) (.map (some (μ (ids.getD (yM ids id) 0)))):=.mp _ L q1
     rw [q2] at this
     rw [e]; exact this
    ·have hst':∀ k o u,¬ (env U σ w ω μ).Wr k o→(env U σ w ω μ).w.cell? ⟨k,o,none⟩=some u→¬ (env (UIn U ids ω) ⟨args.map (zdQ (yM ids)),bor.map toB⟩ w (ωIn ids ω) (fun i=>μ (ids.getD i 0))).Wr k o∧(env (UIn U ids ω) ⟨args.map (zdQ (yM ids)),bor.map toB⟩ w (ωIn ids ω) (fun i=>μ (ids.getD i 0))).w.cell? ⟨k,o,none⟩=some u:=hst
     rcases hform with ⟨id,off,len,sz,rfl⟩ | ⟨sz,rfl⟩ | ⟨cs,rfl⟩
     ·exact (h0.1.ownAt.move (E':=env (UIn U ids ω) ⟨args.map (zdQ (yM ids)),bor.map toB⟩ w (ωIn ids ω) (fun i=>μ (ids.getD i 0))) (yM ids) (fun id' e L hL=>by cases e; exact hidT id (hrf id (by simp [yE])) L hL) (fun k=>Wq _)).rep _
     ·obtain ⟨A,e⟩:=zXD (fun l=>(h l).1)
      rw [e]; exact .fr0 sz A
     ·exact h0.1.moveSt hst' (yM ids) (fun id hid L hL=>hidT id (hrf id hid) L hL) (fun k=>Wq _)
 ·simp only [WJ] at hb
  cases hbi:bor[i]? with
  | none=>simp [hbi] at hb
  | some x=>
   have hi:i<ids.length:=by rw [← hbl]; exact (Wi.1 hbi).1
   have hii:ids[i]?=some ids[i]:=Wc hi
   simp [hbi,toB] at hb
   subst hb
   obtain ⟨p',cs',g1,g2,g3⟩:∃ p' cs',σ.b[ids[i]]?=some (.live p' cs')∧bor[i]?=some (.live p' (if p' then cs' else cs'.map (zdQ (yM ids))))∧(p'=false→∀ c∈cs',zb5 ids c=true):=by
    rcases hbor i _ hii with h | ⟨es,g1,g2⟩
    ·exact h
    ·rw [hbi] at g2; cases g2
   rw [hbi] at g2; cases g2
   have hmu:μ (ids.getD i 0)=μ ids[i]:=by rw [Ws,hii]; rfl
   refine zCo fun hne=>?_
   have hne':cs'≠[]:=by rintro rfl; cases p <;> simp at hne
   obtain ⟨e0,arr,T,e1,e2,e3⟩:=R.live g1 hne'
   have hmem:ids.contains ids[i]=true:=by simp
   refine ⟨?_,arr,T,by rw [hmu]; exact e1,by cases p <;> simp [e2],fun j c hc=>?_⟩
   ·rw [hmu]; unfold ωIn; rw [e0]; simp only [hmem,if_true]; rw [zkA hn hii]
   ·cases p with
    | true=>
     simp at hc
     obtain ⟨u,q1,q2,q3,q4⟩:=e3 j c hc
     exact ⟨u,q1,q2,fun _=>(q3 rfl).mono hst,.pure ((q3 rfl).mono hst)⟩
    | false=>
     simp only [WP,if_false,WJ] at hc
     cases hcj:cs'[j]? with
     | none=>simp [hcj] at hc
     | some c0=>
      simp [hcj] at hc; subst hc
      obtain ⟨u,q1,q2,q3,q4⟩:=e3 j c0 hcj
      obtain ⟨f1,f3⟩:=zrb (g3 rfl c0 (WW hcj))
      refine ⟨u,q1,q2,by simp,q4.move (E':=env (UIn U ids ω) ⟨args.map (zdQ (yM ids)),bor.map toB⟩ w (ωIn ids ω) (fun i=>μ (ids.getD i 0))) (l':=.cell i j) hst (yM ids) (fun id hid L hL=>hidT id (f1 id hid) L hL) (fun β hh e=>⟨?_,rfl⟩) (fun k=>Wq _) f3⟩
      have e:ω β=.gs (.cell ids[i] j) hh:=e
      show ωIn ids ω β=_
      unfold ωIn
      rw [e]
      simp only [hmem,if_true]
      rw [zkA hn hii]
 ·simp only [WJ] at hb
  cases hbi:bor[i]? with
  | none=>simp [hbi] at hb
  | some x=>
   have hi:i<ids.length:=by rw [← hbl]; exact (Wi.1 hbi).1
   have hii:ids[i]?=some ids[i]:=Wc hi
   simp [hbi,toB] at hb
   subst hb
   rcases hbor i _ hii with ⟨_,_,_,g2,_⟩ | ⟨_,_,g2⟩ <;> (rw [hbi] at g2; cases g2)
 ·simp only [WJ] at hb
  cases hbi:bor[i]? with
  | none=>simp [hbi] at hb
  | some x=>
   have hi:i<ids.length:=by rw [← hbl]; exact (Wi.1 hbi).1
   have hii:ids[i]?=some ids[i]:=Wc hi
   simp [hbi,toB] at hb
   subst hb
   obtain ⟨es',g1,g2⟩:∃ es',σ.b[ids[i]]?=some (.mp es')∧bor[i]?=some (.mp es'):=by
    rcases hbor i _ hii with ⟨_,_,_,g2,_⟩ | h
    ·rw [hbi] at g2; cases g2
    ·exact h
   rw [hbi] at g2; cases g2
   have hmu:μ (ids.getD i 0)=μ ids[i]:=by rw [Ws,hii]; rfl
   obtain ⟨e0,arr,clock,e1,e2⟩:=R.ms ids[i] _ g1
   have hmem:ids.contains ids[i]=true:=by simp
   refine ⟨?_,arr,clock,by rw [hmu]; exact e1,e2.mono hst⟩
   rw [hmu]; unfold ωIn; rw [e0]; simp only [hmem,if_true]; rw [zkA hn hii]
 ·refine ⟨?_,fun ho=>ho hu.2⟩
  rcases hu.1 with h | h
  ·exact Nat.lt_of_lt_of_le (R.ul _ _ h).1 R.kp.size
  ·exact (R.ow k (by intro e; rw [e] at h; exact h)).2
end
section
variable {ren:Rn} {we:World} {ωe:Nat→Ow} {U:Nat→Nat→Prop} {O:Nat→Prop} {σ:St} {a:Act} {w:World} {ω:Nat→Ow} {μ:Nat→Nat} {P:Program}
theorem zqS(g:Nat→Nat):∀ (ids:List Nat) (bor:Bor) (b:List B) (id:Nat),id ∉ ids→(zar g ids bor b)[id]?=b[id]?
 | [],bor,b,id,h=>by cases bor <;> rfl
 | i0::ids,[],b,id,h=>rfl
 | i0::ids,x::bor,b,id,h=>by
  unfold zar
  rw [zqS g ids bor _ id (fun hm=>h (by simp [hm]))]
  exact WE (fun e=>h (by simp [e]))
theorem zrA(g:Nat→Nat):∀ (ids:List Nat) (bor:Bor) (b:List B) (i id:Nat) (x:B),ids.Nodup→ids[i]?=some id→bor[i]?=some x→id<b.length→(zar g ids bor b)[id]?=some (x.ren g)
 | [],bor,b,i,id,x,hn,h1,h2,h3=>by simp at h1
 | i0::ids,[],b,i,id,x,hn,h1,h2,h3=>by simp at h2
 | i0::ids,x0::bor,b,i,id,x,hn,h1,h2,h3=>by
  unfold zar
  rw [List.nodup_cons] at hn
  cases i with
  | zero=>
   simp at h1 h2
   subst h2
   subst h1
   rw [zqS g ids bor _ _ hn.1]
   exact WF h3
  | succ i=>exact zrA g ids bor _ i id x hn.2 (by simpa using h1) (by simpa using h2) (by simpa using h3)
def zze(ids:List Nat)(T:Nat):Ow→Ow
 | .blk i=>if i<ids.length then .blk (ids.getD i 0) else .no
 | .gs (.cell i j) h=>if i<ids.length then .gs (.cell (ids.getD i 0) j) h else .no
 | .gs (.slot 0 j) h=>.gs (.slot T j) h
 | _=>.no
def ωOut(ids ids':List Nat)(T:Nat)(w:World)(ω ω':Nat→Ow)(k:Nat):Ow:=
 if k<w.heap.size then match ωIn ids ω k with | .no=>ω k | _=>zze ids' T (ω' k) else zze ids' T (ω' k)
def owr:Ow→Nat→Prop
 | .no,_=>False
 | .gs _ h,o=>h≤o
 | .blk _,_=>True
theorem zuQ(U:Nat→Nat→Prop)(ω:Nat→Ow)(k o:Nat):wr U ω k o↔U k o∨owr (ω k) o:=by
 unfold wr owr
 cases ω k <;> exact Iff.rfl
theorem zQe{ids:List Nat}{T:Nat}{x:Ow}{o:Nat}(h:owr (zze ids T x) o):owr x o:=by
 cases x with
 | no=>exact h
 | blk i=>trivial
 | gs l hh=>
  cases l with
  | slot t j=>
   cases t with
   | zero=>exact h
   | succ t=>exact h.elim
  | cell i j=>
   simp only [zze] at h
   by_cases hi:i<ids.length
   ·simp only [hi,if_true] at h; exact h
   ·simp only [hi,if_false] at h; exact h.elim
theorem ωOut_cases(ids ids':List Nat)(T:Nat)(w:World)(ω ω':Nat→Ow)(k:Nat):(k<w.heap.size∧ωIn ids ω k=.no∧ωOut ids ids' T w ω ω' k=ω k)∨((w.heap.size≤k∨ωIn ids ω k≠.no)∧ωOut ids ids' T w ω ω' k=zze ids' T (ω' k)):=by
 unfold ωOut
 by_cases hk:k<w.heap.size
 ·rw [if_pos hk]
  cases h:ωIn ids ω k with
  | no=>exact .inl ⟨hk,rfl,rfl⟩
  | blk i=>exact .inr ⟨.inr (by simp),rfl⟩
  | gs l hh=>exact .inr ⟨.inr (by simp),rfl⟩
 ·rw [if_neg hk]; exact .inr ⟨.inl (by omega),rfl⟩
theorem zAU:∀ {l m:Bor},ziI l m=true→∀ (i:Nat) (x y:B),l[i]?=some x→m[i]?=some y→x.isMp=y.isMp
 | [],[],_,i,x,y,hx,_=>by simp at hx
 | [],_::_,h,_,_,_,_,_=>by simp [ziI] at h
 | _::_,[],h,_,_,_,_,_=>by simp [ziI] at h
 | a::l,b::m,h,i,x,y,hx,hy=>by
  simp only [ziI,Wh,beq_iff_eq] at h
  cases i with
  | zero=>simp at hx hy; subst hx; subst hy; exact h.1
  | succ i=>exact zAU h.2 i x y (by simpa using hx) (by simpa using hy)
theorem zHn{r:V}(h:∀ vs,r≠.tup vs):(∀ g,zpI g r=zdQ g r)∧zHH r=zuj r∧zj9 r=yE r:=by
 cases r <;> first | exact ⟨fun _=>rfl,rfl,rfl⟩ | exact absurd rfl (h _)
theorem Rel.leave(R:Rel ren we ωe U O σ a w ω μ){ids xs:List Nat}(hn:(ids++xs).Nodup)(hxs:∀ x∈xs,σ.b[x]?=some .gone){bor bor':Bor}(hl:ze6 σ.b ids ids=some bor){r:V}{u:Value}{w':World}{ω':Nat→Ow}{μ':Nat→Nat}
  (Rc:Rel ren w (ωIn ids ω) (UIn U ids ω) (OIn ids ω) ⟨[r],bor'.map toB⟩ ⟨#[u],[]⟩ w' ω' μ') (hμ:∀ k,k<bor.length→μ' k=μ (ids.getD k 0)) (hlen:(bor'.take ids.length).map B.len=bor.map B.len) (hlen':bor'.length=(ids++xs).length)
  (hlend:bor'.all (B.lend (List.range (ids++xs).length))=true) (hr:zHH r=true) (hrr:(zj9 r).all (fun k=>decide (k<(ids++xs).length))=true) (hkind:ziI (bor'.take ids.length) bor=true) (hrow:(bor'.drop ids.length).all B.isRow=true) :
  ∃ ω2 μ2,Rel ren we ωe U O { σ with b:=zar (fun k=>(ids++xs).getD k 0) (ids++xs) bor' σ.b } a w' ω2 μ2∧Rep ren (env U { σ with b:=zar (fun k=>(ids++xs).getD k 0) (ids++xs) bor' σ.b } w' ω2 μ2) (.slot σ.t.length 0) (zpI (fun k=>(ids++xs).getD k 0) r) u∧∀ k,k ∉ xs→μ2 k=μ k:=by
 obtain ⟨hbl,hbor⟩:=zh2 ids bor hl
 have hw:=R.wrIn_eq ids
 obtain ⟨ids',hids'⟩:∃ ids',ids'=ids++xs:=⟨_,rfl⟩
 rw [← hids'] at hn hlen' hlend hrr ⊢
 have hidsl:ids.length≤ids'.length:=by rw [hids']; simp
 have hat1:∀ i,i<ids.length→ids'[i]?=ids[i]?:=fun i hi=>by rw [hids',Wv hi]
 have hat2:∀ i,ids.length≤i→ids'[i]?=xs[i-ids.length]?:=fun i hi=>by rw [hids',Wt hi]
 have hgetD:∀ i id,ids'[i]?=some id→ids'.getD i 0=id:=fun i id h=>by rw [Ws,h]; rfl
 obtain ⟨μ2,hμ2⟩:∃ μ2:Nat→Nat,μ2=fun id=>if xs.contains id then μ' (yM ids' id) else μ id:=⟨_,rfl⟩
 have hμno:∀ k,k ∉ xs→μ2 k=μ k:=by
  intro k hk
  have:xs.contains k=false:=by simpa using hk
  rw [hμ2]; simp only [this,WP,if_false]
 have hnx:∀ id,id∈ids→id ∉ xs:=by
  intro id h1 h2
  rw [hids',QR] at hn
  exact hn.2.2 id h1 id h2 rfl
 have hμat:∀ i id,ids'[i]?=some id→μ2 id=μ' i:=by
  intro i id h
  by_cases hi:i<ids.length
  ·have h1:ids[i]?=some id:=by rw [← hat1 i hi]; exact h
   rw [hμno id (hnx id (WW h1)),hμ i (by rw [hbl]; exact hi),Ws,h1]; rfl
  ·have h1:xs[i-ids.length]?=some id:=by rw [← hat2 i (by omega)]; exact h
   have:xs.contains id=true:=by simpa using WW h1
   rw [hμ2]; simp only [this,if_true]
   rw [zkA hn h]
 generalize hσ2:({ σ with b:=zar (fun k=>ids'.getD k 0) ids' bor' σ.b }:St)=σ2
 have hσ2b:σ2.b=zar (fun k=>ids'.getD k 0) ids' bor' σ.b:=by rw [← hσ2]
 have hσ2t:σ2.t=σ.t:=by rw [← hσ2]
 have hk2:=zAU hkind
 have hlent:∀ (i id:Nat),ids'[i]?=some id→∃ y,bor'[i]?=some y∧σ2.b[id]?=some (y.ren (fun k=>ids'.getD k 0))∧y.lend (List.range ids'.length)=true ∧
   (σ.b[id]?=some .gone∨(∃ p cs p' cs',σ.b[id]?=some (.live p cs)∧y=.live p' cs'∧cs'.length=cs.length)∨(∃ es es',σ.b[id]?=some (.mp es)∧y=.mp es')∨(∃ p cs,σ.b[id]?=some (.live p cs)∧y=.dead cs.length)):=by
  intro i id hi
  have hib:i<bor'.length:=by rw [hlen']; exact (Wi.1 hi).1
  have hbi:bor'[i]?=some bor'[i]:=Wc hib
  have hy:=QO.1 hlend _ (WW hbi)
  generalize hyy:bor'[i]=y at hbi hy
  by_cases hil:i<ids.length
  ·have hi1:ids[i]?=some id:=by rw [← hat1 i hil]; exact hi
   have hbt:(bor'.take ids.length)[i]?=some y:=by rw [Wn,if_pos hil]; exact hbi
   have e1:((bor'.take ids.length).map B.len)[i]?=some y.len:=by rw [WJ,hbt]; rfl
   rw [hlen,WJ] at e1
   rcases hbor i id hi1 with ⟨p,cs,g1,g2,g3⟩ | ⟨es,g1,g2⟩
   ·refine ⟨y,hbi,?_,hy,?_⟩
    ·rw [hσ2b]; exact zrA _ ids' bor' σ.b i id y hn hi hbi (Wi.1 g1).1
    ·have hm:=hk2 i _ _ hbt g2
     rw [g2] at e1
     simp only [QN,Wg] at e1
     have e1':cs.length=y.len:=by rw [← e1]; cases p <;> simp [B.len]
     cases y with
     | gone=>simp [B.lend] at hy
     | fz _=>simp [B.lend] at hy
     | mp _=>simp [B.isMp] at hm
     | live p' cs'=>exact .inr (.inl ⟨p,cs,p',cs',g1,rfl,e1'.symm⟩)
     | dead n=>exact .inr (.inr (.inr ⟨p,cs,g1,by rw [e1']; rfl⟩))
   ·refine ⟨y,hbi,?_,hy,?_⟩
    ·rw [hσ2b]; exact zrA _ ids' bor' σ.b i id y hn hi hbi (Wi.1 g1).1
    ·have hm:=hk2 i _ _ hbt g2
     cases y with
     | gone=>simp [B.lend] at hy
     | fz _=>simp [B.lend] at hy
     | mp es'=>exact .inr (.inr (.inl ⟨es,es',g1,rfl⟩))
     | live p' cs'=>simp [B.isMp] at hm
     | dead n=>simp [B.isMp] at hm
  ·have hi2:xs[i-ids.length]?=some id:=by rw [← hat2 i (by omega)]; exact hi
   have g1:=hxs id (WW hi2)
   refine ⟨y,hbi,?_,hy,.inl g1⟩
   rw [hσ2b]; exact zrA _ ids' bor' σ.b i id y hn hi hbi (Wi.1 g1).1
 have hother:∀ id,id ∉ ids'→σ2.b[id]?=σ.b[id]?:=fun id h=>by rw [hσ2b]; exact zqS _ _ _ _ _ h
 have hblen:∀ id L,yq σ.b id=some L→yq σ2.b id=some L∧id ∉ xs:=by
  intro id L hL
  have hnotx:id ∉ xs:=by
   intro hx
   simp [yq,hxs id hx] at hL
  refine ⟨?_,hnotx⟩
  by_cases hid:id∈ids'
  ·obtain ⟨h1,h2⟩:=zkT hid
   obtain ⟨y,g2,g3,_,g4⟩:=hlent _ _ h2
   rcases g4 with g4 | ⟨p,cs,p',cs',g4,rfl,g5⟩ | ⟨es,es',g4,rfl⟩ | ⟨p,cs,g4,rfl⟩
   ·simp [yq,g4] at hL
   ·simp only [yq,g4,Wg] at hL
    unfold yq; rw [g3]
    cases p' <;> simp [B.ren,g5,hL]
   ·simp only [yq,g4,Wg] at hL
    unfold yq; rw [g3]
    simp [B.ren,hL]
   ·simp only [yq,g4,Wg] at hL
    unfold yq; rw [g3]
    simp [B.ren,hL]
  ·unfold yq at hL ⊢; rw [hother id hid]; exact hL
 have hst:∀ k o x,¬ wr U ω k o→w.cell? ⟨k,o,none⟩=some x→¬ wr U (ωOut ids ids' σ.t.length w ω ω') k o∧w'.cell? ⟨k,o,none⟩=some x:=by
  intro k o x h1 h2
  have h1':¬ wr (UIn U ids ω) (ωIn ids ω) k o:=by rw [hw]; exact h1
  obtain ⟨q1,q2⟩:=Rc.fr k o x h1' h2
  refine ⟨fun hwr=>?_,q2⟩
  rw [zuQ] at hwr
  rcases hwr with hu | hh
  ·exact h1 (.inl hu)
  ·rcases ωOut_cases ids ids' σ.t.length w ω ω' k with ⟨_,_,e⟩ | ⟨_,e⟩
   ·rw [e] at hh; exact h1 ((zuQ _ _ _ _).2 (.inr hh))
   ·rw [e] at hh; exact q1 ((zuQ _ _ _ _).2 (.inr (zQe hh)))
 have F:Fr (env U σ w ω μ) (env U σ2 w' (ωOut ids ids' σ.t.length w ω ω') μ2):=
  ⟨hst,fun id L hL=>⟨(hblen id L hL).1,hμno id (hblen id L hL).2,Rc.rs _⟩⟩
 have hout:∀ k o x,¬ wr (UIn U ids ω) ω' k o→w'.cell? ⟨k,o,none⟩=some x→¬ wr U (ωOut ids ids' σ.t.length w ω ω') k o∧w'.cell? ⟨k,o,none⟩=some x:=by
  intro k o x h1 h2
  refine ⟨fun hwr=>?_,h2⟩
  rcases ωOut_cases ids ids' σ.t.length w ω ω' k with ⟨hk,hno,e⟩ | ⟨hk,e⟩
  ·unfold wr at hwr
   rw [e] at hwr
   exact h1 (.inl ⟨hwr,hno⟩)
  ·rw [zuQ] at hwr
   rcases hwr with hu | hh
   ·have hklt:=(R.ul _ _ hu).1
    rcases hk with hk | hk
    ·have:=R.kp.size; omega
    ·exact R.noU (ωIn_no hk) o hu
   ·rw [e] at hh; exact h1 ((zuQ _ _ _ _).2 (.inr (zQe hh)))
 have hgapart:∀ l β h,ω β=.gs l h→ωIn ids ω β=.no→ωOut ids ids' σ.t.length w ω ω' β=.gs l h∧w'.heap[β]?=w.heap[β]?:=by
  intro l β h e hno
  have hlt:=(R.ow β (by rw [e]; simp)).2
  refine ⟨?_,Rc.kp.block β hlt (fun ho=>ho hno)⟩
  rcases ωOut_cases ids ids' σ.t.length w ω ω' β with ⟨_,_,e'⟩ | ⟨hk,_⟩
  ·rw [e']; exact e
  ·rcases hk with hk | hk
   ·omega
   ·exact absurd hno hk
 have hown':∀ k,ω' k≠.no→w.heap.size≤k∨ωIn ids ω k≠.no:=fun k hk=>(Rc.ow k hk).1
 have hback:∀ k x,ω' k=x→x≠.no→ωOut ids ids' σ.t.length w ω ω' k=zze ids' σ.t.length x:=by
  intro k x e hx
  rcases ωOut_cases ids ids' σ.t.length w ω ω' k with ⟨h1,h2,_⟩ | ⟨_,e'⟩
  ·rcases hown' k (by rw [e]; exact hx) with h | h
   ·omega
   ·exact absurd h2 h
  ·rw [e',e]
 have hidT:∀ i,i<ids'.length→∀ L,yq (bor'.map toB) i=some L→yq σ2.b (ids'.getD i 0)=some L∧μ2 (ids'.getD i 0)=μ' i:=by
  intro i hil L hL
  have hgi:ids'[i]?=some ids'[i]:=Wc hil
  obtain ⟨y,r2,r3,_,_⟩:=hlent i _ hgi
  rw [hgetD i _ hgi]
  refine ⟨?_,hμat i _ hgi⟩
  unfold yq at hL ⊢
  rw [WJ,r2] at hL
  rw [r3]
  simp only [QN,toB] at hL
  cases y with
  | gone=>cases hL
  | live p cs=>simp only [Wg] at hL; cases p <;> simp [B.ren,hL]
  | fz cs=>simpa [B.ren] using hL
  | mp es=>simpa [B.ren] using hL
  | dead n=>simpa [B.ren] using hL
 have hnotin:∀ id,id ∉ ids'→ids.contains id=false:=by
  intro id h
  have:id ∉ ids:=fun hm=>h (by rw [hids']; simp [hm])
  simpa using this
 refine ⟨ωOut ids ids' σ.t.length w ω ω',μ2,R.step F hσ2t (fun t j β h ht e=>hgapart _ β h e (by unfold ωIn; rw [e])) (fun id p cs hb hne=>?_) (fun id cs hb=>?_) (fun id es hb=>?_) Rc.kp (fun k hk ho=>?_) (fun k hk=>?_) Rc.rs,?_,hμno⟩
 ·by_cases hid:id∈ids'
  ·right
   obtain ⟨h1,h2⟩:=zkT hid
   obtain ⟨y0,g2,g3,hal,g4⟩:=hlent _ _ h2
   rw [g3] at hb
   obtain ⟨p',cs',rfl⟩:∃ p' cs',y0=.live p' cs':=by
    cases y0 with
    | live p' cs'=>exact ⟨p',cs',rfl⟩
    | gone=>simp [B.ren] at hb
    | fz _=>simp [B.ren] at hb
    | mp _=>simp [B.ren] at hb
    | dead _=>simp [B.ren] at hb
   simp only [B.ren,Wg,B.live.injEq] at hb
   obtain ⟨hbp,hbc⟩:=hb
   subst hbp
   subst hbc
   have hmu:μ2 id=μ' (yM ids' id):=hμat _ _ h2
   have hne':cs'≠[]:=by rintro rfl; cases p' <;> simp at hne
   obtain ⟨e0,arr,T,e1,e2,e3⟩:=Rc.live (id:=yM ids' id) (p:=p') (cs:=cs') (by simp only [WJ,g2,QN]; rfl) hne'
   rw [hmu]
   refine ⟨?_,arr,T,e1,by cases p' <;> simp [e2],fun j c hc=>?_⟩
   ·rw [hback _ _ e0 (by simp)]
    simp only [zze,h1,if_true]
    rw [hgetD _ _ h2]
   ·cases p' with
    | true=>
     simp at hc
     obtain ⟨x,q1,q2,q3,q4⟩:=e3 j c hc
     exact ⟨x,q1,q2,fun _=>(q3 rfl).mono hout,.pure ((q3 rfl).mono hout)⟩
    | false=>
     simp only [WP,if_false,WJ] at hc
     cases hcj:cs'[j]? with
     | none=>simp [hcj] at hc
     | some c0=>
      simp [hcj] at hc; subst hc
      obtain ⟨x,q1,q2,q3,q4⟩:=e3 j c0 hcj
      simp only [B.lend,Bool.false_or] at hal
      obtain ⟨f1,f3⟩:=zrb (QO.1 hal c0 (WW hcj))
      refine ⟨x,q1,q2,by simp,q4.move (E':=env U σ2 w' (ωOut ids ids' σ.t.length w ω ω') μ2) (l':=.cell id j) hout (fun k=>ids'.getD k 0) (fun i hi L hL=>hidT i (by simpa using f1 i hi) L hL) (fun β hh e=>⟨?_,rfl⟩) (fun k=>Wq _) f3⟩
      have e:ω' β=.gs (.cell (yM ids' id) j) hh:=e
      show ωOut ids ids' σ.t.length w ω ω' β=_
      rw [hback _ _ e (by simp)]
      simp only [zze,h1,if_true]
      rw [hgetD _ _ h2]
  ·left
   rw [hother id hid] at hb
   obtain ⟨e0,arr,T,e1,_⟩:=R.live hb hne
   have hcont:=hnotin id hid
   have hno:ωIn ids ω (μ id)=.no:=by unfold ωIn; rw [e0]; simp only [hcont,WP,if_false]
   have hlt:=(R.ow (μ id) (by rw [e0]; simp)).2
   refine ⟨hb,?_,Rc.kp.block _ hlt (fun ho=>ho hno),fun j β h e=>hgapart _ β h e (by unfold ωIn; rw [e]; simp only [hcont,WP,if_false])⟩
   rcases ωOut_cases ids ids' σ.t.length w ω ω' (μ id) with ⟨_,_,e'⟩ | ⟨hk,_⟩
   ·rw [e']; exact e0
   ·rcases hk with hk | hk
    ·omega
    ·exact absurd hno hk
 ·have hid:id ∉ ids':=by
   intro hid
   obtain ⟨h1,h2⟩:=zkT hid
   obtain ⟨y0,g2,g3,hal,g4⟩:=hlent _ _ h2
   rw [g3] at hb
   cases y0 with
   | fz _=>simp [B.lend] at hal
   | live p' cs'=>simp [B.ren] at hb
   | gone=>simp [B.ren] at hb
   | mp _=>simp [B.ren] at hb
   | dead _=>simp [B.ren] at hb
  left
  rw [hother id hid] at hb
  obtain ⟨e0,arr,T,fr,e1,e2,e3⟩:=R.fs id cs hb
  have hlt:μ id<w.heap.size:=(Array.getElem?_eq_some_iff.1 e1).1
  have hωno:ωIn ids ω (μ id)=.no∨ωIn ids ω (μ id)≠.no:=by
   cases ωIn ids ω (μ id) <;> simp
  have hno:ωIn ids ω (μ id)=.no:=by
   rcases hωno with h | h
   ·exact h
   ·exfalso
    have hne:=ωIn_no h
    cases hω:ω (μ id) with
    | no=>exact hne hω
    | blk i=>exact e0 0 (.inr (by rw [hω]; trivial))
    | gs l hh=>exact e0 hh (.inr (by rw [hω]; exact Wq _))
  refine ⟨hb,fun o ho=>e0 o ?_,Rc.kp.block _ hlt (fun ho=>ho hno)⟩
  rcases ωOut_cases ids ids' σ.t.length w ω ω' (μ id) with ⟨_,_,e'⟩ | ⟨hk,_⟩
  ·unfold wr at ho ⊢; rw [e'] at ho; exact ho
  ·rcases hk with hk | hk
   ·omega
   ·exact absurd hno hk
 ·by_cases hid:id∈ids'
  ·right
   obtain ⟨h1,h2⟩:=zkT hid
   obtain ⟨y0,g2,g3,hal,g4⟩:=hlent _ _ h2
   rw [g3] at hb
   obtain ⟨es',rfl⟩:∃ es',y0=.mp es':=by
    cases y0 with
    | mp es'=>exact ⟨es',rfl⟩
    | live p' cs'=>simp [B.ren] at hb
    | gone=>simp [B.ren] at hb
    | fz _=>simp [B.ren] at hb
    | dead _=>simp [B.ren] at hb
   simp only [B.ren,Wg,B.mp.injEq] at hb
   subst hb
   have hmu:μ2 id=μ' (yM ids' id):=hμat _ _ h2
   obtain ⟨e0,arr,clock,e1,e2⟩:=Rc.ms (yM ids' id) es' (by simp only [WJ,g2,QN]; rfl)
   rw [hmu]
   refine ⟨?_,arr,clock,e1,e2.mono hout⟩
   rw [hback _ _ e0 (by simp)]
   simp only [zze,h1,if_true]
   rw [hgetD _ _ h2]
  ·left
   rw [hother id hid] at hb
   obtain ⟨e0,arr,clock,e1,_⟩:=R.ms id es hb
   have hcont:=hnotin id hid
   have hno:ωIn ids ω (μ id)=.no:=by unfold ωIn; rw [e0]; simp only [hcont,WP,if_false]
   have hlt:=(R.ow (μ id) (by rw [e0]; simp)).2
   refine ⟨hb,?_,Rc.kp.block _ hlt (fun ho=>ho hno)⟩
   rcases ωOut_cases ids ids' σ.t.length w ω ω' (μ id) with ⟨_,_,e'⟩ | ⟨hk,_⟩
   ·rw [e']; exact e0
   ·rcases hk with hk | hk
    ·omega
    ·exact absurd hno hk
 ·have hne:=ωIn_no ho
  rcases (R.ow k hne).1 with h | h
  ·omega
  ·exact h
 ·rcases ωOut_cases ids ids' σ.t.length w ω ω' k with ⟨h1,h2,e⟩ | ⟨h1,e⟩
  ·rw [e] at hk
   exact ⟨(R.ow k hk).1,Nat.lt_of_lt_of_le (R.ow k hk).2 Rc.kp.size⟩
  ·rw [e] at hk
   have hk':ω' k≠.no:=by intro e'; rw [e'] at hk; exact hk rfl
   have:=Rc.ow k hk'
   refine ⟨?_,this.2⟩
   rcases h1 with h | h
   ·exact .inl (QE R.kp.size h)
   ·exact (R.ow k (ωIn_no h)).1
 ·have hr0:Rep ren (env (UIn U ids ω) ⟨[r],bor'.map toB⟩ w' ω' μ') (.slot 0 0) r u:=Rc.ts 0 r rfl
  have one:∀ (v:V) (x:Value) (j:Nat),zuj v=true→(∀ k∈yE v,k<ids'.length)→Rep ren (env (UIn U ids ω) ⟨[r],bor'.map toB⟩ w' ω' μ') (.slot 0 j) v x→Rep ren (env U σ2 w' (ωOut ids ids' σ.t.length w ω ω') μ2) (.slot σ.t.length j) (zdQ (fun k=>ids'.getD k 0) v) x:=by
   intro v x j hv hrf hx
   exact hx.move (E':=env U σ2 w' (ωOut ids ids' σ.t.length w ω ω') μ2) (l':=.slot σ.t.length j) hout (fun k=>ids'.getD k 0) (fun id hid L hL=>hidT id (hrf id hid) L hL) (fun β hh e=>⟨by
    have e:ω' β=.gs (.slot 0 j) hh:=e
    show ωOut ids ids' σ.t.length w ω ω' β=_
    rw [hback _ _ e (by simp)]; rfl,rfl⟩) (fun k=>Wq _) (zRb hv)
  have hrf:∀ k∈zj9 r,k<ids'.length:=fun k hk=>of_decide_eq_true (QO.1 hrr k hk)
  by_cases hnt:∀ vs,r≠.tup vs
  ·obtain ⟨t1,t2,t3⟩:=zHn hnt
   rw [t1]
   rw [t2] at hr
   rw [t3] at hrf
   exact one r u 0 hr hrf hr0
  ·obtain ⟨vs,rfl⟩:∃ vs,r=.tup vs:=by
    refine Classical.byContradiction fun hc=>hnt fun vs e=>hc ⟨vs,e⟩
   obtain ⟨us,e,hl,hel⟩:=hr0.tup_inv
   rw [e]
   refine .tup _ us (by simpa using hl) (fun j v x hv hx=>?_)
   rw [WJ] at hv
   cases hvj:vs[j]? with
   | none=>simp [hvj] at hv
   | some v0=>
    simp [hvj] at hv; subst hv
    have hv1:zuj v0=true:=QO.1 hr v0 (WW hvj)
    exact one v0 x (j+1) hv1 (fun k hk=>hrf k (by simp only [zj9,List.mem_flatMap]; exact ⟨v0,WW hvj,hk⟩)) (hel j v0 x hvj hx)
end
section
variable {ren:Rn} {we:World} {ωe:Nat→Ow} {U:Nat→Nat→Prop} {O:Nat→Prop} {σ:St} {a:Act} {w:World} {ω:Nat→Ow} {μ:Nat→Nat} {P:Program} {nb:Nat}
theorem zC2{b:List B}{nb:Nat}:∀ {xs:List Nat},zlI b nb xs=true→(xs.map (nb+·)).Nodup∧∀ x∈xs.map (nb+·),b[x]?=some .gone
 | [],_=>⟨by simp,by simp⟩
 | x::xs,h=>by
  simp only [zlI,Wh] at h
  obtain ⟨⟨h1,h2⟩,h3⟩:=h
  obtain ⟨i1,i2⟩:=zC2 h3
  have hg:b[nb+x]?=some .gone:=by
   split at h2
   ·assumption
   ·cases h2
  refine ⟨?_,?_⟩
  ·rw [QW,List.nodup_cons]
   refine ⟨fun hm=>?_,i1⟩
   simp only [List.mem_map] at hm
   obtain ⟨y,hy,e⟩:=hm
   have:y=x:=by omega
   subst this
   simp [hy] at h1
  ·intro y hy
   rw [QW] at hy
   rcases List.mem_cons.1 hy with rfl | hy
   ·exact hg
   ·exact i2 y hy
theorem zK1(R:Rel ren we ωe U O σ a w ω μ){cb:CB}(hcb:zhy P ren cb){f:FuncId}{g:Nat}(hf:ren f=some g){srcs:List (Src × Nat)}{args:List V}{us:List Value}(hlen:args.length=us.length)
  (hargs:∀ ω1,Rel ren we ωe U O { σ with b:=zo σ srcs σ.b } a w ω1 μ→Fr (env U σ w ω μ) (env U { σ with b:=zo σ srcs σ.b } w ω1 μ)→∀ (i:Nat) (v:V) (u:Value),args[i]?=some v→us[i]?=some u →
   RepP ren w (wr U ω1) v u∨(∀ l,Rep ren (env U { σ with b:=zo σ srcs σ.b } w ω1 μ) l v u∧zQu v))
  {nb:Nat} {dst:Option Nat} {pin:Bool} {σ':St} {xs:List Nat} (h:zea cb nb σ dst pin g args srcs xs=some σ') :
  zel P f=true∧Calls P f us.toArray w fun e w'=>∃ u,e=.returned u∧∃ ω' μ',Rel ren we ωe U O σ' (a.put dst u) w' ω' μ'∧∀ k,k<nb→μ' k=μ k:=by
 obtain ⟨ω1,R1,F1⟩:=R.frozenBy σ srcs
 have hargs1:=hargs ω1 R1 F1
 unfold zea at h
 simp only [Wb,Wa] at h
 obtain ⟨bor,hl,⟨r,bor'⟩,hr,h⟩:=h
 simp only at h hr
 split at h
 ·rename_i hc
  obtain ⟨c1,c1',c2,c3,c3',c4,c5,c6,c7⟩:=hc
  have hn:(zak (zo σ srcs σ.b) args).Nodup:=zsu _ _ _ _ (by simp)
  obtain ⟨k1',k2'⟩:=zC2 c7
  have k1:((xs.map (nb+·)).take (bor'.length-(zak (zo σ srcs σ.b) args).length)).Nodup:=k1'.sublist (List.take_sublist _ _)
  have k2:∀ x∈(xs.map (nb+·)).take (bor'.length-(zak (zo σ srcs σ.b) args).length),(zo σ srcs σ.b)[x]?=some .gone:=fun x hx=>k2' x (WV hx)
  have hn2:(zak (zo σ srcs σ.b) args++(xs.map (nb+·)).take (bor'.length-(zak (zo σ srcs σ.b) args).length)).Nodup:=by
   rw [QR]
   refine ⟨hn,k1,fun x hx y hy=>?_⟩
   rintro rfl
   have hgone:=k2 x hy
   obtain ⟨i,hi,e⟩:=List.getElem_of_mem hx
   rcases (zh2 _ bor hl).2 i x (by rw [Wc hi,e]) with ⟨p,cs,g1,_⟩ | ⟨es,g1,_⟩ <;> (rw [hgone] at g1; cases g1)
  obtain ⟨hcall,hp⟩:=hcb _ _ _ _ _ hr f hf
  refine ⟨hcall,(hp w us _ _ _ _ (R1.enterRel hn hl hlen hargs1 c2)).mono ?_⟩
  rintro e w' ⟨u,ω',μ',rfl,Rc,hμ⟩
  refine ⟨u,rfl,?_⟩
  obtain ⟨ω2,μ2,R2,hr2,hm2⟩:=R1.leave hn2 k2 hl Rc hμ c1 c1' c4 c3 c3' c5 c6
  obtain ⟨ω3,μ3,R3,hm3⟩:=R2.putR (Wq _) hr2 h
  refine ⟨ω3,μ3,R3,fun k hk=>(hm3 k hk).trans (hm2 k ?_)⟩
  intro hm
  have hm:=WV hm
  simp only [List.mem_map] at hm
  obtain ⟨y,_,e⟩:=hm
  omega
 ·cases h
theorem StepOk.enter{o:Oper}{σ':St}{f:FuncId}{us:Array Value}(h:(execOp a.eval o).run P w=.ok (.enter f us) w)(hc:Calls P f us w fun e w'=>∃ u,e=.returned u∧∃ ω' μ',Rel ren we ωe U O σ' (a.put o.dst u) w' ω' μ'∧∀ k,k<nb→μ' k=μ k):StepOk P ren we ωe U O a w o σ' nb μ:=by
 intro K Q hK
 unfold Oper.wp
 rw [h]
 refine hc.mono ?_
 rintro e w' ⟨u,rfl,ω',μ',R,hm⟩
 exact hK _ _ _ _ R hm
theorem zCa{f:FuncId}(h:zel P f=true)(us:Array Value)(w:World):(callFunc f us).run P w=.ok (.enter f us) w:=by
 unfold zel at h
 cases hf:P.funcs[f]? with
 | none=>simp [hf] at h
 | some fn=>
  simp only [hf,Wh,bne_iff_ne,ne_eq] at h
  have hb:fn.body.isNone=false:=by
   cases hb:fn.body with
   | none=>simp [hb] at h
   | some c=>rfl
  simp [callFunc,hf,h.2]
  intro e
  rw [e] at hb; cases hb
theorem zE7(ld:Nat):∀ (xs:List Operand) (ts:List TypeId) (ss:List (Src × Nat)),zrN P ren ld xs ts=some ss→ss.length=xs.length∧∀ (i:Nat) (s:Src × Nat),ss[i]?=some s→∃ x ty,xs[i]?=some x∧xj P ren ty x=some s.1
 | [],ts,ss,h=>by cases h; exact ⟨rfl,by simp⟩
 | x::xs,ts,ss,h=>by
  simp only [zrN,Wb,Wa,Wl,Wg] at h
  obtain ⟨s,hs,rest,hr,rfl⟩:=h
  obtain ⟨e,ih⟩:=zE7 ld xs ts.tail rest hr
  refine ⟨by simp [e],fun i s' hi=>?_⟩
  cases i with
  | zero=>simp at hi; subst hi; exact ⟨x,_,rfl,hs⟩
  | succ i=>simp at hi; simpa using ih i s' hi
theorem zMN(R:Rel ren we ωe U O σ a w ω μ){xs:List Operand}{ts:List TypeId}{ss:List (Src × Nat)}{ld:Nat}(h:zrN P ren ld xs ts=some ss){vs:List V}(hv:ss.mapM (zbo σ)=some vs) :
  vs.length=xs.length∧∀ ω1,Rel ren we ωe U O { σ with b:=zo σ ss σ.b } a w ω1 μ→Fr (env U σ w ω μ) (env U { σ with b:=zo σ ss σ.b } w ω1 μ)→∀ (i:Nat) (v:V) (u:Value),vs[i]?=some v→(xs.map a.eval)[i]?=some u →
   RepP ren w (wr U ω1) v u∨(∀ l,Rep ren (env U { σ with b:=zo σ ss σ.b } w ω1 μ) l v u∧zQu v):=by
 obtain ⟨e1,e2⟩:=zE7 ld xs ts ss h
 refine ⟨by rw [zbZ hv,e1],fun ω1 R1 F1 i v u hvi hui=>?_⟩
 have hlt:i<ss.length:=by rw [← zbZ hv]; exact (Wi.1 hvi).1
 obtain ⟨v',g1,g2⟩:=zhK hv i _ (Wc hlt)
 rw [hvi] at g1; cases g1
 obtain ⟨x,ty,g3,g4⟩:=e2 i _ (Wc hlt)
 rw [WJ,g3] at hui
 cases hui
 exact zTc R R1 F1 (List.getElem_mem hlt) g4 g2
theorem zST(R:Rel ren we ωe U O σ a w ω μ){cb:CB}(hcb:zhy P ren cb){o:Oper}{f:FuncId}{args:Array Operand}{ats:Array TypeId}(hop:o.op=.call { callee:=.value (.func f),args:=args,argTypes:=ats }){g:Nat}(hf:ren f=some g){ss:List (Src × Nat)}{ld:Nat}(hs:zrN P ren ld args.toList ats.toList=some ss){nb:Nat}{pin:Bool}{xs:List Nat}{σ':St}(h:zd cb nb σ o.dst pin (.call g ss xs)=some σ'):StepOk P ren we ωe U O a w o σ' nb μ:=by
 simp only [zd,Wb,Wa] at h
 obtain ⟨vs,hv,h⟩:=h
 obtain ⟨e1,e2⟩:=zMN R hs hv
 obtain ⟨hc,hcalls⟩:=zK1 R hcb hf (us:=args.toList.map a.eval) (by simpa using e1) e2 h
 refine .enter (us:=(args.toList.map a.eval).toArray) ?_ hcalls
 have ef:a.eval (.func f)=.func (.func f) #[] #[]:=rfl
 simp only [execOp,hop,resolve,ef,Deferred.ofValue,Sem.run_bind,Sem.run_pure,WD,invoke]
 rw [show #[]++args.map a.eval++#[]=(args.toList.map a.eval).toArray by apply Array.ext'; simp]
 exact zCa hc _ w
theorem zRu(R:Rel ren we ωe U O σ a w ω μ){cb:CB}(hcb:zhy P ren cb){o:Oper}{t:Nat}{args:Array Operand}{ats:Array TypeId}(hop:o.op=.call { callee:=.value (.tmp t),args:=args,argTypes:=ats }){ss:List (Src × Nat)}{ld:Nat}(hs:zrN P ren ld args.toList ats.toList=some ss){nb:Nat}{pin:Bool}{xs:List Nat}{σ':St}(h:zd cb nb σ o.dst pin (.callv (.tmp t) ss xs)=some σ'):StepOk P ren we ωe U O a w o σ' nb μ:=by
 simp only [zd] at h
 split at h
 ·rename_i g caps hg
  simp only [Wb,Wa] at h
  obtain ⟨vs,hv,h⟩:=h
  have hr:=R.slot t
  have hg:σ.t.getD t .junk=.fn g caps:=hg
  rw [hg] at hr
  obtain ⟨f,us,eu,hf,hcl,hcaps⟩:=hr.fn_inv
  obtain ⟨e1,e2⟩:=zMN R hs hv
  have hvl:vs.length=(args.toList.map a.eval).length:=by simpa using e1
  obtain ⟨hc,hcalls⟩:=zK1 R hcb hf (args:=vs++caps) (us:=args.toList.map a.eval++us) (by simp [hcl,← hvl]) (fun ω1 R1 F1 i v u hi hu=>by
   by_cases hlt:i<vs.length
   ·rw [Wv hlt] at hi
    rw [Wv (by omega)] at hu
    exact e2 ω1 R1 F1 i v u hi hu
   ·rw [Wt (by omega)] at hi
    rw [Wt (by omega),← hvl] at hu
    obtain ⟨id,off,L,rfl,q1,q2⟩:=hcaps _ v hi
    rw [q2] at hu; cases hu
    exact .inr fun l=>⟨Rep.frame0 F1 (fun _=>.ptr id off L q1) (by simp) l,.inl ⟨id,off,rfl⟩⟩) h
  refine .enter (us:=(args.toList.map a.eval++us).toArray) ?_ hcalls
  have ef:a.eval (.tmp t)=.func (.func f) #[] us.toArray:=eu
  simp only [execOp,hop,resolve,ef,Deferred.ofValue,Sem.run_bind,Sem.run_pure,WD,invoke]
  rw [show #[]++args.map a.eval++us.toArray=(args.toList.map a.eval++us).toArray by apply Array.ext'; simp]
  exact zCa hc _ w
 ·cases h
theorem zW2(R:Rel ren we ωe U O σ a w ω μ){cb:CB}(hcb:zhy P ren cb){o:Oper}{take:Bool}{xs:List Nat}{k:K}(hk:cK P ren o take xs=some k){nb:Nat}{pin:Bool}{σ':St}(h:zd cb nb σ o.dst pin k=some σ'):StepOk P ren we ωe U O a w o σ' nb μ:=by
 by_cases hc:(∃ f xs ys,k=.call f xs ys)∨(∃ f xs ys,k=.callv f xs ys)
 ·have hcc:∃ c,o.op=.call c:=by
   unfold cK at hk
   split at hk <;> (try simp only [Wb,Wa,Wg] at hk)
   all_goals first
    | exact ⟨_,by assumption⟩
    | (exfalso
       rcases hc with ⟨f,xs,ys,rfl⟩ | ⟨f,xs,ys,rfl⟩ <;> first
      | (rcases zr4 _ _ hk with ⟨_,_,_,e⟩ | ⟨_,_,e⟩ | ⟨_,_,e⟩ | ⟨_,_,e⟩ | ⟨_,_,_,_,_,e⟩ | ⟨_,_,e⟩ <;> cases e; done)
      | (obtain ⟨_,_,_,_,_,_,e⟩:=hk; unfold zR3 at e; split at e <;> cases e; done)
      | (rcases zCT _ _ hk with ⟨_,_,_,_,_,_,e⟩ | ⟨_,_,_,_,_,_,e⟩ | ⟨_,_,_,_,_,e⟩ <;> cases e; done)
      | (obtain ⟨_,_,hk⟩:=hk; cases hk; done)
      | (obtain ⟨_,_,_,_,hk⟩:=hk; cases hk; done)
      | (obtain ⟨_,_,_,_,_,_,hk⟩:=hk; cases hk; done)
      | (cases hk; done)
      | (repeat' (first | (split at hk) | (simp only [Wb,Wa,Wg] at hk) | (obtain ⟨_,_,hk⟩:=hk) | (cases hk; done))))
  obtain ⟨⟨callee,args,ats⟩,hop⟩:=hcc
  unfold cK at hk
  rw [hop] at hk
  simp only at hk
  split at hk <;> (try simp only [Wb,Wa,Wg] at hk)
  ·split at hk
   ·exfalso
    split at hk
    ·simp only [Wb,Wa,Wg] at hk
     obtain ⟨s1,h1,s2,h2,rfl⟩:=hk
     rcases hc with ⟨f,xs,ys,e⟩ | ⟨f,xs,ys,e⟩ <;> cases e
    ·cases hk
   ·split at hk
    ·exfalso
     split at hk
     ·simp only [Wb,Wa,Wg] at hk
      obtain ⟨s0,h0,s1,h1,s2,h2,s3,h3,rfl⟩:=hk
      rcases hc with ⟨f,xs,ys,e⟩ | ⟨f,xs,ys,e⟩ <;> cases e
     ·cases hk
    ·simp only [Wb,Wa,Wg] at hk
     obtain ⟨g,hg,ss,hs,rfl⟩:=hk; exact zST R hcb hop hg hs h
  ·obtain ⟨ss,hs,rfl⟩:=hk; exact zRu R hcb hop hs h
  ·exfalso
   obtain ⟨k0,hk,ek⟩:=hk
   rcases zOi xs k0 with e | ⟨_,_,_,_,_,e⟩
   rotate_left
   ·rw [e] at ek; subst ek
    rcases hc with ⟨f,xs,ys,e⟩ | ⟨f,xs,ys,e⟩ <;> cases e
   rw [e] at ek; subst ek
   unfold zus at hk
   rcases hc with ⟨f,xs,ys,rfl⟩ | ⟨f,xs,ys,rfl⟩ <;>
    (repeat' (first | (split at hk) | (simp only [Wb,Wa,Wg] at hk) | (obtain ⟨_,_,hk⟩:=hk) | (cases hk; done)))
  ·cases hk
 ·exact zUw R hk h (fun f xs ys e=>hc (.inl ⟨f,xs,ys,e⟩)) (fun f xs ys e=>hc (.inr ⟨f,xs,ys,e⟩))
end
section
variable {ren:Rn} {we:World} {ωe:Nat→Ow} {U:Nat→Nat→Prop} {O:Nat→Prop} {σ:St} {a:Act} {w:World} {ω:Nat→Ow} {μ:Nat→Nat} {P:Program} {nb:Nat}
theorem zCD(R:Rel ren we ωe U O σ a w ω μ){ops:Array Oper}{o:Oper}{g:Option (Nat × Bool)}(hg:zM8 ops o.guard=some g){b:Bool}(h:y8 σ g=some b):Region.wanted o (yielded ops a.tmps)=b:=by
 unfold Region.wanted
 cases hog:o.guard with
 | none=>
  rw [hog] at hg; cases hg
  simp [y8] at h; simp [h]
 | some jw=>
  obtain ⟨j,want⟩:=jw
  rw [hog] at hg
  simp only [zM8,Wb,Wa,Wg] at hg
  obtain ⟨o',ho',d,hd,rfl⟩:=hg
  have hy:yielded ops a.tmps j=match a.tmps[d]? with | some (.bool b)=>some b | _=>none:=by
   simp only [yielded,ho',hd,QT]
   rcases a.tmps[d]? with _ | v
   ·rfl
   ·cases v <;> rfl
  simp only [hy]
  simp only [y8] at h
  split at h
  ·rename_i b' hv
   cases h
   have hr:=R.ts d _ hv
   have hlt:d<a.tmps.size:=by rw [R.tl]; exact (Wi.1 hv).1
   have e:=hr.sc_eq.1
   have:a.tmps[d]?=some (.bool b'):=by
    rw [QQ] at e
    rw [QS hlt] at e ⊢
    simpa using e
   rw [this]
   cases b' <;> cases want <;> rfl
  ·rename_i hv
   cases h
   have hr:=R.ts d _ hv
   have hlt:d<a.tmps.size:=by rw [R.tl]; exact (Wi.1 hv).1
   obtain ⟨us,e,hl,_⟩:=hr.tup_inv
   have hus:us=[]:=by cases us with | nil=>rfl | cons x xs=>simp at hl
   subst hus
   have:a.tmps[d]?=some (.tuple #[]):=by
    rw [QQ] at e
    rw [QS hlt] at e ⊢
    simpa using e
   rw [this]
   cases want <;> rfl
  ·cases h
def Post(ren:Rn)(we:World)(ωe:Nat→Ow)(U:Nat→Nat→Prop)(O:Nat→Prop)(nb:Nat)(μ:Nat→Nat)(σ':St)(K:Act→World→Prop):Prop:=
 ∀ a' w' ω' μ',Rel ren we ωe U O σ' a' w' ω' μ'→(∀ k,k<nb→μ' k=μ k)→K a' w'
theorem Post.at{μ μ':Nat→Nat}{σ':St}{K:Act→World→Prop}(h:Post ren we ωe U O nb μ σ' K)(hm:∀ k,k<nb→μ' k=μ k):Post ren we ωe U O nb μ' σ' K:=
 fun a' w' ω' μ'' R hm'=>h a' w' ω' μ'' R (fun k hk=>(hm' k hk).trans (hm k hk))
theorem zK7(R:Rel ren we ωe U O σ a w ω μ){cb:CB}(hcb:zhy P ren cb){h:Hint}{rid i:Nat}{ops:Array Oper}{o:Oper}{c:COp}(hc:cOp P ren h rid ops i o=some c){σ':St}(hs:yk cb nb σ c=some σ'){K:Act→World→Prop}{Q:Exit→Act→World→Prop}(hK:Post ren we ωe U O nb μ σ' K) :
  if Region.wanted o (yielded ops a.tmps) then o.wp P a w K Q∨(o.asks P a w∧LetsOut Q) else K (a.put o.dst undef) w:=by
 simp only [cOp,Wb,Wa,Wg] at hc
 obtain ⟨g,hg,rfl⟩:=hc
 cases hk:cK P ren o (h.take.contains (rid,i)) (((h.xs.find? fun x=>x.1==rid&&x.2.1==i).map (·.2.2)).getD []) with
 | none=>
  rw [hk] at hs
  unfold yk at hs
  simp only [Option.getD_none] at hs
  split at hs
  ·simp [zd,zk] at hs
  ·rename_i hgo
   rw [zCD R hg hgo]
   cases hs
   exact hK _ _ ω μ (R.put o.dst (fun i _=>.tup [] [] rfl (by simp))) (fun _ _=>rfl)
  ·cases hs
 | some k=>
 rw [hk] at hs
 simp only [Option.getD_some] at hs
 unfold yk at hs
 simp only at hs
 split at hs
 ·rename_i hgo
  rw [zCD R hg hgo]
  exact .inl (zW2 R hcb hk hs K Q hK)
 ·rename_i hgo
  rw [zCD R hg hgo]
  cases hs
  exact hK _ _ ω μ (R.put o.dst (fun i _=>.tup [] [] rfl (by simp))) (fun _ _=>rfl)
 ·cases hs
theorem zzM{cb:CB}(hcb:zhy P ren cb){h:Hint}{rid:Nat}{ops:Array Oper}{Q:Exit→Act→World→Prop}{σ':St}:∀ (l:List Oper) (i:Nat) (cs:List COp),zCU P ren h rid ops l i=some cs→∀ {σ:St} {a:Act} {w:World} {ω:Nat→Ow} {μ:Nat→Nat},Rel ren we ωe U O σ a w ω μ→zid cb nb cs σ=some σ'→Post ren we ωe U O nb μ σ' (Q .normal)→wpList P ops Q l a w
 | [],i,cs,hc,σ,a,w,ω,μ,R,hs,hK=>by
  cases hc; cases hs
  exact hK _ _ _ _ R (fun _ _=>rfl)
 | o::l,i,cs,hc,σ,a,w,ω,μ,R,hs,hK=>by
  simp only [zCU,Wb,Wa,Wl,Wg] at hc
  obtain ⟨c,hc1,rest,hr,rfl⟩:=hc
  simp only [zid,Wa] at hs
  obtain ⟨σ1,h1,h2⟩:=hs
  exact zK7 (K:=wpList P ops Q l) (Q:=Q) R hcb hc1 h1 (fun a' w' ω' μ' R' hm=>zzM hcb l (i+1) rest hr R' h2 (hK.at hm))
theorem zK2(dead:Nat→Bool):∀ (kt:List Bool) (ts:List V) (i:Nat),(zpH dead kt ts)[i]?=(ts[i]?).map (fun v=>if kt.getD i false then zlQ dead v else .junk)
 | [],[],i=>by simp [zpH]
 | [],v::ts,i=>by
  rw [show zpH dead [] (v::ts)=(v::ts).map (fun _=>.junk) from rfl,WJ]; simp
 | k::kt,[],i=>by simp [zpH]
 | k::kt,v::ts,i=>by
  cases i with
  | zero=>cases k <;> simp [zpH]
  | succ i=>simp only [zpH,QU,zK2 dead kt ts i]; simp
theorem zsi(dead:Nat→Bool):∀ (kt:List Bool) (ts:List B) (i:Nat),(zvX dead kt ts)[i]?=(ts[i]?).map (fun v=>if kt.getD i false then zRG dead v else .gone)
 | [],[],i=>by simp [zvX]
 | [],v::ts,i=>by
  rw [show zvX dead [] (v::ts)=(v::ts).map (fun _=>.gone) from rfl,WJ]; simp
 | k::kt,[],i=>by simp [zvX]
 | k::kt,v::ts,i=>by
  cases i with
  | zero=>cases k <;> simp [zvX]
  | succ i=>simp only [zvX,QU,zsi dead kt ts i]; simp
theorem zLu(dead:Nat→Bool):∀ (kt:List Bool) (ts:List V),(zpH dead kt ts).length=ts.length
 | [],[]=>rfl
 | [],v::ts=>by simp [zpH]
 | k::kt,[]=>rfl
 | k::kt,v::ts=>by simp [zpH,zLu dead kt ts]
theorem zoC(kt kb:List Bool)(σ:St)(id:Nat)(h:kb.getD id false=true):yq (mask kt kb σ).b id=yq σ.b id:=by
 unfold yq
 simp only [mask,zsi,h,if_true]
 cases hb:σ.b[id]? with
 | none=>rfl
 | some x=>
  cases x with
  | gone=>rfl
  | live p cs=>cases p <;> simp [zRG]
  | fz cs=>rfl
  | mp es=>rfl
  | dead n=>rfl
theorem Rep.kill{kt kb:List Bool}{l:Loc}{v:V}{u:Value}(h:Rep ren (env U σ w ω μ) l v u):Rep ren (env U (mask kt kb σ) w ω μ) l (zlQ (fun id=>!(kb.getD id false)) v) u:=by
 cases h with
 | pure h=>
  cases h with
  | sc _ h=>exact .pure (.sc _ h)
  | agg cs us hl h h1=>exact .pure (.agg cs us hl h h1)
  | sl sz es A c f hc hsz k o hA hcell h1 h=>exact .pure (.sl sz es A c f hc hsz k o hA hcell h1 h)
  | ful sz es A f hsz k o hA hcell h1 h hon=>exact .pure (.ful sz es A f hsz k o hA hcell h1 h hon)
  | fn f g h=>exact .pure (.fn f g h)
 | gs sz es β c arr T f hω hb hc hn hsz hcell h1 h=>exact .gs sz es β c arr T f hω hb hc hn hsz hcell h1 h
 | fr sz es β c arr T f hω hb hc hn hsz hcell h1 h=>exact .fr sz es β c arr T f hω hb hc hn hsz hcell h1 h
 | fr0 sz A=>exact .fr0 sz A
 | ub b=>exact .ub b
 | mp id L hL=>
  simp only [zlQ]
  split
  ·exact .junk
  ·rename_i hd
   exact .mp (E:=env U (mask kt kb σ) w ω μ) id L ((zoC kt kb σ id (by simpa using hd)).trans hL)
 | bx p cs β arr T f hω hb hn hcell h1 h=>exact .bx p cs β arr T f hω hb hn hcell h1 h
 | own id off len sz c L A hL hl hc hA=>
  simp only [zlQ]
  split
  ·exact .junk
  ·rename_i hd
   exact .own id off len sz c L A ((zoC kt kb σ id (by simpa using hd)).trans hL) hl hc hA
 | cut id off len cap sz c L A hL hl hc hA=>
  simp only [zlQ]
  split
  ·exact .junk
  ·rename_i hd
   exact .cut id off len cap sz c L A ((zoC kt kb σ id (by simpa using hd)).trans hL) hl hc hA
 | ptr id off L hL=>
  simp only [zlQ]
  split
  ·exact .junk
  ·rename_i hd
   exact .ptr (E:=env U (mask kt kb σ) w ω μ) id off L ((zoC kt kb σ id (by simpa using hd)).trans hL)
 | fp n cs k o f hl hcell h1 h=>exact .fp n cs k o f hl hcell h1 h
 | fn f g caps us hr hl h=>
  simp only [zlQ]
  split
  ·exact .junk
  ·rename_i hd
   refine .fn f g caps us hr hl (fun i c hc=>?_)
   obtain ⟨id,off,L,rfl,q1,q2⟩:=h i c hc
   refine ⟨id,off,L,rfl,?_,q2⟩
   simp only [Bool.not_eq_true,List.any_eq_false] at hd
   have:=hd _ (WW hc)
   exact (zoC kt kb σ id (by simpa using this)).trans q1
 | tup vs us hl h=>
  cases vs with
  | nil=>exact .tup [] us hl (by simp)
  | cons x xs=>exact .junk
 | st cs us hl h h1=>
  simp only [zlQ]
  split
  ·exact .junk
  ·rename_i hd
   refine .st cs us hl (fun i c u hc hu=>?_) h1
   rcases h i c u hc hu with q | q
   ·exact .inl q
   ·right
    obtain ⟨id,off,len,sz,c',L,A,rfl,rfl,hL,hl',hc',hz,hA⟩:=q
    simp only [Bool.not_eq_true,List.any_eq_false] at hd
    have:=hd _ (WW hc)
    exact ⟨id,off,len,sz,c',L,A,rfl,rfl,(zoC kt kb σ id (by simpa using this)).trans hL,hl',hc',hz,hA⟩
 | junk=>exact .junk
theorem Rel.mask(R:Rel ren we ωe U O σ a w ω μ)(kt kb:List Bool):Rel ren we ωe U O (mask kt kb σ) a w ω μ:=by
 refine ⟨R.df,by simp [Go.Proofs.YtgmhijonllockaaGreatDoor.mask,zLu,R.tl],fun i v hv=>?_,fun id p cs hb=>?_,fun id cs hb=>?_,fun id es hb=>?_,R.kp,R.ow,R.ul,R.fr,R.rs,R.gv⟩
 ·simp only [Go.Proofs.YtgmhijonllockaaGreatDoor.mask,zK2] at hv
  cases hi:σ.t[i]? with
  | none=>simp [hi] at hv
  | some v'=>
   simp only [hi,QN,Wg] at hv
   subst hv
   split
   ·exact (R.ts i v' hi).kill
   ·exact .junk
 ·simp only [Go.Proofs.YtgmhijonllockaaGreatDoor.mask,zsi] at hb
  cases hi:σ.b[id]? with
  | none=>simp [hi] at hb
  | some x=>
   simp only [hi,QN,Wg] at hb
   split at hb
   ·cases x with
    | gone=>cases hb
    | fz cs'=>cases hb
    | mp es=>cases hb
    | dead n=>cases hb
    | live p' cs'=>
     refine zCo fun hne=>?_
     have hne':cs'≠[]:=by
      rintro rfl
      cases p' <;> (cases hb; exact hne rfl)
     obtain ⟨e1,arr,T,e2,e3,e4⟩:=R.live hi hne'
     cases p' with
     | true=>
      cases hb
      exact ⟨e1,arr,T,e2,e3,fun j c hc=>by
       obtain ⟨u,g1,g2,g3,g4⟩:=e4 j c hc
       exact ⟨u,g1,g2,g3,.pure (g3 rfl)⟩⟩
     | false=>
      cases hb
      refine ⟨e1,arr,T,e2,by simpa using e3,fun j c hc=>?_⟩
      rw [WJ] at hc
      cases hcj:cs'[j]? with
      | none=>simp [hcj] at hc
      | some c'=>
       simp only [hcj,QN,Wg] at hc
       subst hc
       obtain ⟨u,g1,g2,g3,g4⟩:=e4 j c' hcj
       exact ⟨u,g1,g2,by simp,g4.kill⟩
   ·cases hb
 ·simp only [Go.Proofs.YtgmhijonllockaaGreatDoor.mask,zsi] at hb
  cases hi:σ.b[id]? with
  | none=>simp [hi] at hb
  | some x=>
   simp only [hi,QN,Wg] at hb
   split at hb
   ·cases x with
    | gone=>cases hb
    | fz cs'=>cases hb; exact R.fs id cs hi
    | mp es=>cases hb
    | dead n=>cases hb
    | live p' cs'=>cases p' <;> cases hb
   ·cases hb
 ·simp only [Go.Proofs.YtgmhijonllockaaGreatDoor.mask,zsi] at hb
  cases hi:σ.b[id]? with
  | none=>simp [hi] at hb
  | some x=>
   simp only [hi,QN,Wg] at hb
   split at hb
   ·cases x with
    | gone=>cases hb
    | fz cs'=>cases hb
    | mp es=>cases hb; exact R.ms id _ hi
    | dead n=>cases hb
    | live p' cs'=>cases p' <;> cases hb
   ·cases hb
theorem Rel.fzAll:∀ (fz:List Nat) {σ:St} {ω:Nat→Ow},Rel ren we ωe U O σ a w ω μ→∃ ω',Rel ren we ωe U O (znt nb fz σ) a w ω' μ
 | [],σ,ω,R=>⟨ω,R⟩
 | d::fz,σ,ω,R=>by
  unfold znt
  split
  ·obtain ⟨ω1,R1,_⟩:=R.freeze (nb+d)
   exact Rel.fzAll fz R1
  ·obtain ⟨ω1,R1,_⟩:=R.freezeF (nb+(d-100000))
   exact Rel.fzAll fz R1
def Ex.to:Ex→Exit
 | .normal=>.normal
 | .exit id=>.exit id
 | .ret=>.ret
def zG0(P:Program)(ren:Rn)(cb:CB):Prop:=
 ∀ (h:Hint) (id:Nat) (ops:Array Oper) (cs:List COp),zCU P ren h id ops ops.toList 0=some cs→(zDD ops&&zDS (Region.before ops) (zdO (h.rt.lookup id) (Region.before ops) cs))=true →
  ∀ (nb:Nat) (we:World) (ωe:Nat→Ow) (U:Nat→Nat→Prop) (O:Nat→Prop) (σ σ':St) (a:Act) (w:World) (ω:Nat→Ow) (μ:Nat→Nat),Rel ren we ωe U O σ a w ω μ→znE cb nb (zdO (h.rt.lookup id) (Region.before ops) cs) σ=some σ' →
  ∀ Q:Exit→Act→World→Prop,Post ren we ωe U O nb μ σ' (Q .normal)→(Code.region id ops true).wp P Q a w
theorem zPV{cb:CB}{L:Nat}{c:CC}{m:Msk}{σ σ':St}{ex:Ex}{Q:Exit→Act→World→Prop}(hr:run cb nb L (c.msk m) σ=some (ex,σ'))(hQ:Post ren we ωe U O nb μ σ' (Q ex.to)) :
  ∃ ex0 σ0,run cb nb L c σ=some (ex0,σ0)∧Post ren we ωe U O nb μ σ0 (Q ex0.to):=by
 rcases m with _ | ⟨kt,kb⟩
 ·exact ⟨ex,σ',hr,hQ⟩
 ·simp only [CC.msk,run] at hr
  split at hr
  ·rename_i σ1 hx
   cases hr
   exact ⟨_,_,hx,fun a' w' ω' μ' R hm=>hQ a' w' ω' μ' (R.mask kt _) hm⟩
  ·exact ⟨ex,σ',hr,hQ⟩
theorem zQb(R:Rel ren we ωe U O σ a w ω μ){cb:CB}{L:Nat}{c:CC}{m:Msk}{ex:Ex}{σ':St}(hr:run cb nb L (c.pre m) σ=some (ex,σ')):∃ σ1,Rel ren we ωe U O σ1 a w ω μ∧run cb nb L c σ1=some (ex,σ'):=by
 rcases m with _ | ⟨kt,kb⟩
 ·exact ⟨σ,R,hr⟩
 ·simp only [CC.pre,run] at hr
  exact ⟨_,R.mask kt _,hr⟩
theorem Rep.ub_inv{E:En}{l:Loc}{u:Value}(h:Rep ren E l .ub u):∃ b,u=.bool b:=by
 cases h with
 | pure h=>cases h
 | ub b=>exact ⟨b,rfl⟩
theorem zNy{c:CC}{m:Msk}(hc:c≠.skip):c.msk m≠.skip:=by
 rcases m with _ | ⟨kt,kb⟩
 ·exact hc
 ·simp [CC.msk]
theorem zOs{c:CC}{m:Msk}(hc:c≠.skip):c.pre m≠.skip:=by
 rcases m with _ | ⟨kt,kb⟩
 ·exact hc
 ·simp [CC.pre]
theorem zrK(a b:CC):zIf a b=.seq a b∨∃ ops s x,a=.seq (.reg ops) (.cond s x .skip)∧zIf a b=.fork (.reg ops) s x b:=by
 unfold zIf
 split
 ·rename_i p s x hf
  unfold zTn at hf
  split at hf
  ·split at hf
   ·cases hf; exact .inr ⟨_,_,_,rfl,rfl⟩
   ·cases hf
  ·cases hf
 ·exact .inl rfl
theorem zRd{h:Hint}{c:Code}{ms ms':List Msk}(hc:zas P ren h c ms=some (.skip,ms')):c=.skip:=by
 cases c with
 | skip=>rfl
 | region id ops draw=>
  simp only [zas,Wb,Wa] at hc
  obtain ⟨cs,hcs,hc⟩:=hc
  split at hc
  ·split at hc <;> cases hc
  ·split at hc <;> cases hc
 | seq x y=>
  simp only [zas,Wb,Wa,Prod.exists] at hc
  obtain ⟨a',ms1,h1,b',ms2,h2,h3⟩:=hc
  rcases zrK a' b' with e | ⟨ops,s,x,e1,e⟩ <;> (rw [e] at h3; cases h3)
 | cond c x y=>
  cases ms with
  | nil=>cases hc
  | cons m ms=>
   simp only [zas,Wb,Wa,Prod.exists,Wg,QM] at hc
   obtain ⟨s,hs,a',ms1,h1,b',ms2,h2,h3,_⟩:=hc
   exact absurd h3 (zNy (by simp))
 | block id x=>
  cases ms with
  | nil=>cases hc
  | cons m ms=>
   simp only [zas,Wb,Wa,Prod.exists,Wg,QM] at hc
   obtain ⟨a',ms1,h1,h3,_⟩:=hc
   exact absurd h3 (zNy (by simp))
 | loop x=>
  cases ms with
  | nil=>cases hc
  | cons m ms=>
   rcases m with _ | ⟨kt,kb⟩
   ·cases hc
   simp only [zas,Wb,Wa,Prod.exists,Wg,QM] at hc
   obtain ⟨a',ms1,h1,h3,_⟩:=hc
   cases h3
 | exit id=>
  cases ms with
  | nil=>cases hc
  | cons m ms=>simp only [zas,Wg,QM] at hc; exact absurd hc.1 (zOs (by simp))
 | ret=>
  cases ms with
  | nil=>cases hc
  | cons m ms=>simp only [zas,Wg,QM] at hc; exact absurd hc.1 (zOs (by simp))
 | _=>cases hc
theorem zPr{c:CC}{m:Msk}{ops:List COp}{s:Src}{x:CC}(hc:∀ a b,c≠.seq a b):c.msk m≠.seq (.reg ops) (.cond s x .skip):=by
 rcases m with _ | ⟨kt,kb⟩
 ·exact hc _ _
 ·simp [CC.msk]
theorem zPn{c:CC}{m:Msk}{ops:List COp}{s:Src}{x:CC}(hc:∀ a b,c≠.seq a b):c.pre m≠.seq (.reg ops) (.cond s x .skip):=by
 rcases m with _ | ⟨kt,kb⟩
 ·exact hc _ _
 ·simp [CC.pre]
theorem zQT{h:Hint}{c:Code}{ms ms':List Msk}{ops:List COp}{s:Src}{x:CC}(hc:zas P ren h c ms=some (.seq (.reg ops) (.cond s x .skip),ms')) :
  ∃ p c0 x0 ms1 ms2 m,c=.seq p (.cond c0 x0 .skip)∧zas P ren h p ms=some (.reg ops,ms1)∧xj P ren 0 c0=some s∧zas P ren h x0 m=some (x,ms2):=by
 cases c with
 | skip=>cases hc
 | region id ops draw=>
  simp only [zas,Wb,Wa] at hc
  obtain ⟨cs,hcs,hc⟩:=hc
  split at hc
  ·split at hc <;> cases hc
  ·split at hc <;> cases hc
 | seq p q=>
  simp only [zas,Wb,Wa,Prod.exists] at hc
  obtain ⟨a',ms1,h1,b',ms2,h2,h3⟩:=hc
  rcases zrK a' b' with e | ⟨ops,s,x,e1,e⟩
  ·rw [e] at h3
   cases h3
   cases q with
   | cond c0 x0 y0=>
    cases ms1 with
    | nil=>cases h2
    | cons m ms1=>
     simp only [zas,Wb,Wa,Prod.exists,Wg,QM] at h2
     obtain ⟨s,hs,a',ms3,h4,b',ms4,h5,h6,_⟩:=h2
     rcases m with _ | ⟨kt,kb⟩
     ·cases h6
      cases zRd h5
      exact ⟨_,_,_,_,_,_,rfl,h1,hs,h4⟩
     ·cases h6
   | skip=>cases h2
   | region id ops draw=>
    simp only [zas,Wb,Wa] at h2
    obtain ⟨cs,hcs,hc⟩:=h2
    split at hc
    ·split at hc <;> cases hc
    ·split at hc <;> cases hc
   | seq x y=>
    simp only [zas,Wb,Wa,Prod.exists] at h2
    obtain ⟨a',ms1,h1,b',ms2,h2,h3⟩:=h2
    rcases zrK a' b' with e | ⟨ops,s,x,e1,e⟩ <;> (rw [e] at h3; cases h3)
   | block id x=>
    cases ms1 with
    | nil=>cases h2
    | cons m ms=>
     simp only [zas,Wb,Wa,Prod.exists,Wg,QM] at h2
     obtain ⟨a',ms1,h1,h3,_⟩:=h2
     rcases m with _ | ⟨kt,kb⟩ <;> cases h3
   | loop x=>
    cases ms1 with
    | nil=>cases h2
    | cons m ms=>
     rcases m with _ | ⟨kt,kb⟩
     ·cases h2
     simp only [zas,Wb,Wa,Prod.exists,Wg,QM] at h2
     obtain ⟨a',ms1,h1,h3,_⟩:=h2
     cases h3
   | exit id=>
    cases ms1 with
    | nil=>cases h2
    | cons m ms=>
     simp only [zas,Wg,QM] at h2
     rcases m with _ | ⟨kt,kb⟩ <;> cases h2.1
   | ret=>
    cases ms1 with
    | nil=>cases h2
    | cons m ms=>
     simp only [zas,Wg,QM] at h2
     rcases m with _ | ⟨kt,kb⟩ <;> cases h2.1
   | _=>cases h2
  ·rw [e] at h3; cases h3
 | cond c x y=>
  cases ms with
  | nil=>cases hc
  | cons m ms=>
   simp only [zas,Wb,Wa,Prod.exists,Wg,QM] at hc
   obtain ⟨s,hs,a',ms1,h1,b',ms2,h2,h3,_⟩:=hc
   exact absurd h3 (zPr (by simp))
 | block id x=>
  cases ms with
  | nil=>cases hc
  | cons m ms=>
   simp only [zas,Wb,Wa,Prod.exists,Wg,QM] at hc
   obtain ⟨a',ms1,h1,h3,_⟩:=hc
   exact absurd h3 (zPr (by simp))
 | loop x=>
  cases ms with
  | nil=>cases hc
  | cons m ms=>
   rcases m with _ | ⟨kt,kb⟩
   ·cases hc
   simp only [zas,Wb,Wa,Prod.exists,Wg,QM] at hc
   obtain ⟨a',ms1,h1,h3,_⟩:=hc
   cases h3
 | exit id=>
  cases ms with
  | nil=>cases hc
  | cons m ms=>simp only [zas,Wg,QM] at hc; exact absurd hc.1 (zPn (by simp))
 | ret=>
  cases ms with
  | nil=>cases hc
  | cons m ms=>simp only [zas,Wg,QM] at hc; exact absurd hc.1 (zPn (by simp))
 | _=>cases hc
theorem zKP{cb:CB}:∀ (cs:List COp) {σ σ':St},znE cb nb (cs.map fun c=>(c,q0)) σ=some σ'→zid cb nb cs σ=some σ'
 | [],σ,σ',h=>h
 | c::cs,σ,σ',h=>by
  simp only [QW,znE] at h
  split at h
  ·rename_i σ1 h1
   split at h
   ·simp only [zid,h1,QT]
    exact zKP cs h
   ·cases h
  ·cases h
def zQC(P:Program)(ren:Rn)(cb:CB)(nb:Nat)(h:Hint)(L:Nat)(we:World)(ωe:Nat→Ow)(U:Nat→Nat→Prop)(O:Nat→Prop)(c:Code):Prop:=∀ (ms ms':List Msk) (cc:CC),zas P ren h c ms=some (cc,ms') →
  ∀ {σ σ':St} {a:Act} {w:World} {ω:Nat→Ow} {μ:Nat→Nat} {ex:Ex},Rel ren we ωe U O σ a w ω μ→run cb nb L cc σ=some (ex,σ')→∀ Q:Exit→Act→World→Prop,Post ren we ωe U O nb μ σ' (Q ex.to)→c.wp P Q a w
def zXy(R:Code→Prop):Code→Prop
 | .cond _ x _=>R x
 | _=>True
def zZZ(R:Code→Prop):Code→Prop
 | .seq p q=>R p∧zXy R q
 | _=>True
theorem zVU{cb:CB}(hcb:zhy P ren cb)(hd:zG0 P ren cb){h:Hint}{L:Nat}:∀ (c:Code),zQC P ren cb nb h L we ωe U O c∧zXy (zQC P ren cb nb h L we ωe U O) c∧zZZ (zQC P ren cb nb h L we ωe U O) c:=by
 intro c
 induction c with
 | skip=>
  refine ⟨?_,trivial,trivial⟩
  intro ms ms' cc hc σ σ' a w ω μ ex R hr Q hQ
  cases hc; cases hr
  exact wp_skip (hQ _ _ _ _ R (fun _ _=>rfl))
 | region id ops draw=>
  refine ⟨?_,trivial,trivial⟩
  intro ms ms' cc hc σ σ' a w ω μ ex R hr Q hQ
  simp only [zas,Wb,Wa] at hc
  obtain ⟨cs,hcs,hc⟩:=hc
  cases draw with
  | true=>
   simp only [if_true] at hc
   split at hc
   ·rename_i hp
    cases hc
    simp only [run,Wj] at hr
    obtain ⟨σ1,h1,h2⟩:=hr
    cases h2
    obtain ⟨ω1,R1⟩:=Rel.fzAll (nb:=nb) ((h.fz.lookup id).getD []) R
    exact hd h id ops cs hcs hp nb we ωe U O _ σ' a w ω1 μ R1 h1 Q hQ
   ·cases hc
  | false=>
   simp only [WP,if_false] at hc
   split at hc
   ·rename_i fz hfz
    cases hc
    simp only [run,Wj] at hr
    obtain ⟨σ1,h1,h2⟩:=hr
    cases h2
    obtain ⟨ω1,R1⟩:=Rel.fzAll (nb:=nb) fz R
    exact wp_region_list (zzM hcb _ _ _ hcs R1 (zKP cs h1) hQ)
   ·cases hc
    simp only [run,Wj] at hr
    obtain ⟨σ1,h1,h2⟩:=hr
    cases h2
    exact wp_region_list (zzM hcb _ _ _ hcs R h1 hQ)
 | seq x y ihx ihy=>
  refine ⟨?_,trivial,ihx.1,ihy.2.1⟩
  intro ms ms' cc hc σ σ' a w ω μ ex R hr Q hQ
  simp only [zas,Wb,Wa,Prod.exists] at hc
  obtain ⟨a',ms1,h1,b',ms2,h2,h3⟩:=hc
  have h3:zIf a' b'=cc:=congrArg Prod.fst (QV h3)
  subst h3
  refine wp_seq ?_
  rcases zrK a' b' with e | ⟨ops,s,z,e1,e⟩
  rotate_left
  ·subst e1
   rw [e] at hr
   obtain ⟨p,c0,x0,ms3,ms4,m,rfl,hp,hs,hx⟩:=zQT h1
   obtain ⟨ihp,ihx0⟩:=ihx.2.2
   refine wp_seq ?_
   simp only [run] at hr
   split at hr
   ·rename_i σ1 hpr
    refine ihp _ _ _ hp R (by simp only [run]; exact hpr) _ (fun a1 w1 ω1 μ1 R1 hm=>?_)
    split at hr
    ·rename_i hub
     split at hr
     ·rename_i hsame
      obtain ⟨hsame,σr,hret⟩:=zGs hsame
      have hr0:=R1.opnd hs
      rw [hub] at hr0
      obtain ⟨t,hv⟩:∃ t,a1.eval c0=.bool t:=hr0.ub_inv
      rw [hret] at hr
      cases hr
      refine wp_cond hv ?_
      cases t with
      | true=>
       simp only [if_true]
       exact ihx0 _ _ _ hx R1 (hsame.trans hret) _ (hQ.at hm)
      | false=>
       simp only [WP,if_false]
       refine wp_skip ?_
       exact ihy.1 _ _ _ h2 R1 hret Q (hQ.at hm)
     ·cases hr
    ·split at hr
     ·rename_i ht
      have hv:=(R1.opnd hs).bool ht
      refine wp_cond hv ?_
      simp only [if_true]
      split at hr
      ·rename_i σ2 hx2
       exact ihx0 _ _ _ hx R1 hx2 _ (fun a2 w2 ω2 μ2 R2 hm2=>ihy.1 _ _ _ h2 R2 hr Q ((hQ.at hm).at hm2))
      ·rename_i hne
       refine ihx0 _ _ _ hx R1 hr _ ?_
       cases ex with
       | normal=>exact absurd hr (hne _)
       | exit id=>exact hQ.at hm
       | ret=>exact hQ.at hm
     ·rename_i ht
      have hv:=(R1.opnd hs).bool ht
      refine wp_cond hv ?_
      simp only [WP,if_false]
      refine wp_skip ?_
      exact ihy.1 _ _ _ h2 R1 hr Q (hQ.at hm)
     ·cases hr
   ·rename_i hne
    refine ihp _ _ _ hp R (by simp only [run]; exact hr) _ ?_
    cases ex with
    | normal=>exact absurd hr (hne _)
    | exit id=>exact hQ
    | ret=>exact hQ
  rw [e] at hr
  simp only [run] at hr
  split at hr
  ·rename_i σ1 hx
   exact ihx.1 _ _ _ h1 R hx _ (fun a1 w1 ω1 μ1 R1 hm=>ihy.1 _ _ _ h2 R1 hr Q (hQ.at hm))
  ·rename_i hne
   refine ihx.1 _ _ _ h1 R hr _ ?_
   cases ex with
   | normal=>exact absurd hr (hne _)
   | exit id=>exact hQ
   | ret=>exact hQ
 | cond c x y ihx ihy=>
  refine ⟨?_,ihx.1,trivial⟩
  intro ms ms' cc hc σ σ' a w ω μ ex R hr Q hQ
  cases ms with
  | nil=>cases hc
  | cons m ms=>
  simp only [zas,Wb,Wa,Prod.exists] at hc
  obtain ⟨s,hs,a',ms1,h1,b',ms2,h2,h3⟩:=hc
  cases h3
  obtain ⟨ex0,σ0,hr,hQ⟩:=zPV hr hQ
  simp only [run] at hr
  split at hr
  ·rename_i hub
   split at hr
   ·rename_i hsame
    have hsame:=zz1 hsame
    have hr0:=R.opnd hs
    rw [hub] at hr0
    obtain ⟨t,hv⟩:∃ t,a.eval c=.bool t:=hr0.ub_inv
    refine wp_cond hv ?_
    cases t with
    | true=>simp only [if_true]; exact ihx.1 _ _ _ h1 R (hsame.trans hr) Q hQ
    | false=>simp only [WP,if_false]; exact ihy.1 _ _ _ h2 R hr Q hQ
   ·cases hr
  rename_i hnub
  split at hr
  ·rename_i t ht
   have hv:=(R.opnd hs).bool ht
   refine wp_cond hv ?_
   cases t with
   | true=>simp only [if_true] at hr ⊢; exact ihx.1 _ _ _ h1 R hr Q hQ
   | false=>simp only [WP,if_false] at hr ⊢; exact ihy.1 _ _ _ h2 R hr Q hQ
  ·cases hr
 | block id x ih=>
  refine ⟨?_,trivial,trivial⟩
  intro ms ms' cc hc σ σ' a w ω μ ex R hr Q hQ
  cases ms with
  | nil=>cases hc
  | cons m ms=>
  simp only [zas,Wb,Wa,Prod.exists] at hc
  obtain ⟨a',ms1,h1,h3⟩:=hc
  cases h3
  obtain ⟨ex,σ',hr,hQ⟩:=zPV hr hQ
  simp only [run] at hr
  refine wp_block ?_
  split at hr
  ·rename_i j σ1 hx
   refine ih.1 _ _ _ h1 R hx _ ?_
   split at hr
   ·rename_i hj
    cases hr
    intro a1 w1 ω1 μ1 R1 hm
    simp only [Ex.to,Exit.inBlock,hj,if_true]
    exact hQ _ _ _ _ R1 hm
   ·rename_i hj
    cases hr
    intro a1 w1 ω1 μ1 R1 hm
    simp only [Ex.to,Exit.inBlock,hj,if_false]
    exact hQ _ _ _ _ R1 hm
  ·rename_i hne
   refine ih.1 _ _ _ h1 R hr _ ?_
   cases ex with
   | normal=>exact hQ
   | exit id=>exact absurd hr (hne _ _)
   | ret=>exact hQ
 | loop x ih=>
  refine ⟨?_,trivial,trivial⟩
  intro ms ms' cc hc σ σ' a w ω μ ex R hr Q hQ
  cases ms with
  | nil=>cases hc
  | cons m ms=>
   rcases m with _ | ⟨kt,kb⟩
   ·cases hc
   simp only [zas,Wb,Wa,Prod.exists] at hc
   obtain ⟨a',ms1,h1,h3⟩:=hc
   cases h3
   simp only [run] at hr
   refine wp_loop_rounds L ?_
   have key:∀ (n:Nat) {σ:St} {a:Act} {w:World} {ω:Nat→Ow} {μ:Nat→Nat},Rel ren we ωe U O σ a w ω μ→zo9 (run cb nb L a') (zM nb kt kb) n σ=some (ex,σ')→Post ren we ωe U O nb μ σ' (Q ex.to)→Code.rounds P x Q n a w:=by
    intro n
    induction n with
    | zero=>intro σ a w ω μ R hr; cases hr
    | succ n ihn=>
     intro σ a w ω μ R hr hQ
     rw [rounds_succ]
     simp only [zo9] at hr
     split at hr
     ·rename_i σ1 hx
      exact ih.1 _ _ _ h1 (R.mask kt _) hx _ (fun a1 w1 ω1 μ1 R1 hm=>ihn R1 hr (hQ.at hm))
     ·rename_i hne
      refine ih.1 _ _ _ h1 (R.mask kt _) hr _ ?_
      cases ex with
      | normal=>exact absurd hr (hne _)
      | exit id=>exact hQ
      | ret=>exact hQ
   exact key L R hr hQ
 | exit id=>
  refine ⟨?_,trivial,trivial⟩
  intro ms ms' cc hc σ σ' a w ω μ ex R hr Q hQ
  cases ms with
  | nil=>cases hc
  | cons m ms=>
   cases hc
   obtain ⟨σ1,R1,hr⟩:=zQb R hr
   cases hr
   exact wp_exit (hQ _ _ _ _ R1 (fun _ _=>rfl))
 | ret=>
  refine ⟨?_,trivial,trivial⟩
  intro ms ms' cc hc σ σ' a w ω μ ex R hr Q hQ
  cases ms with
  | nil=>cases hc
  | cons m ms=>
   cases hc
   obtain ⟨σ1,R1,hr⟩:=zQb R hr
   cases hr
   exact wp_ret (hQ _ _ _ _ R1 (fun _ _=>rfl))
 | rangeFunc=>exact ⟨(by intro ms ms' cc hc; cases hc),trivial,trivial⟩
 | scope=>exact ⟨(by intro ms ms' cc hc; cases hc),trivial,trivial⟩
 | label=>exact ⟨(by intro ms ms' cc hc; cases hc),trivial,trivial⟩
 | goto=>exact ⟨(by intro ms ms' cc hc; cases hc),trivial,trivial⟩
 | refuse=>exact ⟨(by intro ms ms' cc hc; cases hc),trivial,trivial⟩
theorem zXl{cb:CB}(hcb:zhy P ren cb)(hd:zG0 P ren cb){h:Hint}{L:Nat}:∀ (c:Code) (ms ms':List Msk) (cc:CC),zas P ren h c ms=some (cc,ms') →
  ∀ {σ σ':St} {a:Act} {w:World} {ω:Nat→Ow} {μ:Nat→Nat} {ex:Ex},Rel ren we ωe U O σ a w ω μ→run cb nb L cc σ=some (ex,σ')→∀ Q:Exit→Act→World→Prop,Post ren we ωe U O nb μ σ' (Q ex.to)→c.wp P Q a w:=
 fun c=>(zVU hcb hd c).1
end
end Go.Proofs.YtgmhijonllockaaGreatDoor
