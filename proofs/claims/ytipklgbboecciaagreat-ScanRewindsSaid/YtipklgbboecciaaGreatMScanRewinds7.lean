/- Part 7 of the proof of ScanRewinds: an abstract machine over plain values, its soundness, and the functions of the program on plain values. -/
import Derived.ProofKit
import Derived.OpenShut
import Derived.ChangeOld
import Derived.Deep.Slices
import Derived.SizedLaws
import Derived.Test.YtipklgbboecciaaGreatMScanRewinds6
namespace Go.Proofs.YtipklgbboecciaaGreat
set_option maxRecDepth 100000
set_option linter.unusedVariables false
set_option linter.unusedSimpArgs false
open List renaming getElem?_set_ne->Waw,range->Waq,getElem?_eq_getElem->Wac,getElem?_set_self->Wax,getElem?_eq_some_iff->Wam,getElem?_set->WbB,all_eq_true->Wbj,replicate->Wad,mem_append->Wbt,ext_getElem?->Wby,mem_range->WbP,mem_of_find?_eq_some->WbQ,length_eq_zero_iff->WaT,take_of_length_le->WbR,getElem?_eq_none->Wbu,getElem?_modify->WaJ,pairwise_append->WbS,set_comm->WbT,filter_eq_self->WbU,length_modify->WbV,pairwise_cons->WbW,mem_map->WbX
open Option renaming bind_eq_some_iff->Waa,bind_eq_bind->Wab,map_eq_some_iff->Wag,getD_some->WbN
open Bool renaming false_eq_true->WaR,and_eq_true->WaG
open _root_.Array renaming getD_eq_getD_getElem?->Wbk,getElem?_eq_getElem->Wbp,getElem?_eq_some_iff->WaL,foldl_toList->Wat
open Nat renaming eq_of_beq_eq_true->Wao,beq->Wae,zero_add->Wau
section
variable {b:List B}{τ σ2:St}{id n:Nat}{d:Option Nat}{ah take:Bool}{v m v0:V}{xs:List (Src × Nat)}{a:Src}{o:COp}{fl qa qb:Fl}{cs t:List V}
variable {cb:CB} {nb:Nat} {Z σ' σ1:St} {b':List B} {K:List Nat}
structure FB (K:List Nat) (σ1:St) (b':List B) (σ1':St):Prop where
 t:σ1'.t=σ1.t
 on:∀ j∈K,σ1'.b[j]?=σ1.b[j]?
 off:∀ j,j ∉ K->σ1'.b[j]?=b'[j]?
theorem zeP{i j:Nat}(x:B)(h:b'[j]?=b[j]?):(b'.set i x)[j]?=(b.set i x)[j]?:=by
 by_cases e:i=j
 ·subst e;by_cases h1:i<b.length
  ·have h2:i<b'.length:=by
    grind
   rw [Wax h1,Wax h2]
  ·have h2:b'.length<=i:=by
    grind
   rw [Wbu (by simp; omega),Wbu (by simp; omega)]
 ·rw [Waw e,Waw e]; exact h
theorem tD(s:Src)(Z:St)(b':List B):s.get { Z with b:=b' }=s.get Z:=by cases s <;> rfl
theorem zlY(Z τ:St)(h:τ.t=Z.t)(d:Option Nat)(v:V):(τ.put d v).t=(Z.put d v).t:=by cases d <;> simp [St.put,h]
theorem FB.bc(h:FB K Z b' τ)(d:Option Nat)(v:V):FB K (Z.put d v) b' (τ.put d v):=
 ⟨zlY _ _ h.t d v,λj hj=>by rw [gz,gz]; exact h.on j hj,λj hj=>by rw [gz]; exact h.off j hj⟩
theorem FB.base(hb:∀ j∈K,b'[j]?=Z.b[j]?):FB K Z b' { Z with b:=b' }:=⟨rfl,hb,λ_ _=>rfl⟩
theorem FB.set(h:FB K Z b' τ)(hid:id∈K)(x:B):FB K (Z.ab id x) b' (τ.ab id x):=by
 refine ⟨h.t,λj hj=>zeP x (h.on j hj),λj hj=>?_⟩
 ·simp [St.ab];rw [Waw (λe=>hj (by rw [<- e]; exact hid))];exact h.off j hj
theorem FB.ag(h:FB K Z b' τ)(s:Src):FB K (Z.ac s) b' (τ.ac s):=by
 cases s with
 | const v=>exact h
 | tmp t=>exact ⟨by simp [St.ac,h.t],h.on,h.off⟩
theorem A3(F:FB K Z b' τ){x:B}{f:Nat->V}(hd:∀ k,d=some k->nb+k∈K)(h:Z.ao nb d x f=some σ1):∃ σ1',τ.ao nb d x f=some σ1'/\FB K σ1 b' σ1':=by
 cases d with
 | none=>cases h
 | some d=>
  simp [St.ao] at h ⊢;rw [F.on _ (hd d rfl)];split at h
  ·rename_i hg;cases h;exact ⟨_,rfl,(F.set (hd d rfl) x).bc _ _⟩
  ·cases h
theorem AV(F:FB K Z b' τ){sz:Nat}{es:Ls}(hd:∀ k,d=some k->nb+k∈K)(h:Z.aq nb d ah sz es=some σ1):∃ σ1',τ.aq nb d ah sz es=some σ1'/\FB K σ1 b' σ1':=by
 grind [FB.bc,St.aq,A3]
theorem V3(F:FB K Z b' τ)(hd:∀ k,d=some k->nb+k∈K)(h:Z.au nb d ah v=some σ1):∃ σ1',τ.au nb d ah v=some σ1'/\FB K σ1 b' σ1':=by
 cases v <;> grind [FB.bc,St.au,AV,A3]
theorem zap(h:b'[id]?=b[id]?):Ut b' id=Ut b id:=by unfold Ut; rw [h]
theorem Jx(b:List B):∀ (n:Nat) (todo acc:List Nat) (x:Nat),x∈acc->x∈o7 b n todo acc
 | 0,todo,acc,x,h=>by cases todo <;> exact h
 | n+1,[],acc,x,h=>h
 | n+1,id::todo,acc,x,h=>by
  simp only [o7];split
  ·exact Jx b n todo acc x h
  ·exact Jx b n _ _ x (List.mem_append_left _ h)
theorem EU{b b':List B}(hb:∀ j∈K,b'[j]?=b[j]?):∀ (n:Nat) (todo acc:List Nat),(∀ x∈o7 b n todo acc,x∈K)->o7 b' n todo acc=o7 b n todo acc
 | 0,todo,acc,h=>by cases todo <;> rfl
 | n+1,[],acc,h=>rfl
 | n+1,id::todo,acc,h=>by
  simp only [o7] at h ⊢;split
  ·rename_i hc;rw [if_pos hc] at h;exact EU hb n todo acc h
  ·rename_i hc;rw [if_neg hc] at h;have hid:id∈K:=h id (Jx b n _ _ id (by simp));rw [zap (hb id hid)];exact EU hb n _ _ h
theorem zfu{j:Nat}(h:b'[id]?=b[id]?)(hj:b'[j]?=b[j]?):(fQ b' id)[j]?=(fQ b id)[j]?:=by
 grind [fQ]
theorem w5{Z τ:St}(ht:τ.t=Z.t):∀ (ss:List (Src × Nat)) (b b':List B),(∀ j∈K,b'[j]?=b[j]?)->(∀ s∈ss,∀ id,gS (s.1.get Z)=some id->id∈K) ->
  (∀ j∈K,(dG τ ss b')[j]?=(dG Z ss b)[j]?)/\(∀ j,j ∉ K->(dG τ ss b')[j]?=b'[j]?)
 | [],b,b',hb,hs=>⟨hb,λ_ _=>rfl⟩
 | s::ss,b,b',hb,hs=>by
  have hg:s.1.get τ=s.1.get Z:=by cases hh:s.1 <;> simp [Src.get,ht]
  unfold dG;rw [hg];by_cases h2:2<=s.2
  ·rw [if_pos h2,if_pos h2];exact w5 ht ss b b' hb (λs' h'=>hs s' (by simp [h']))
  ·rw [if_neg h2,if_neg h2];cases ho:gS (s.1.get Z) with
   | none=>exact w5 ht ss b b' hb (λs' h'=>hs s' (by simp [h']))
   | some id=>
    have hid:=hs s (by simp) id ho;simp only;obtain ⟨q2,q3⟩:=w5 ht ss (fQ b id) (fQ b' id) (λj hj=>zfu (hb id hid) (hb j hj)) (λs' h'=>hs s' (by simp [h']));refine ⟨q2,λj hj=>?_⟩;rw [q3 j hj,ND (λe=>hj (by rw [e]; exact hid))]
theorem MV{b b':List B}(ids:List Nat):∀ (l:List Nat),(∀ x∈l,b'[x]?=b[x]?)->oh b' ids l=oh b ids l
 | [],h=>rfl
 | id::l,h=>by
  simp [oh,h id (by simp),MV ids l (λx hx=>h x (by simp [hx]))]
theorem M1{b b':List B}:∀ (xs:List Nat),(∀ x∈xs,b'[nb+x]?=b[nb+x]?)->w7 b' nb xs=w7 b nb xs
 | [],h=>rfl
 | x::xs,h=>by
  simp [w7,h x (by simp),M1 xs (λy hy=>h y (by simp [hy]))]
theorem Lb(g:Nat->Nat):∀ (ids:List Nat) (bor:Bor) (b b':List B),(∀ x∈ids,x∈K)->(∀ j∈K,b'[j]?=b[j]?) ->
  (∀ j∈K,(iF g ids bor b')[j]?=(iF g ids bor b)[j]?)/\(∀ j,j ∉ K->(iF g ids bor b')[j]?=b'[j]?)
 | [],bor,b,b',hi,hb=>by cases bor <;> exact ⟨hb,λ_ _=>rfl⟩
 | id::ids,[],b,b',hi,hb=>⟨hb,λ_ _=>rfl⟩
 | id::ids,x::bor,b,b',hi,hb=>by
  simp [iF];obtain ⟨q2,q3⟩:=Lb g ids bor (b.set id (x.aa g)) (b'.set id (x.aa g)) (λy hy=>hi y (by simp [hy])) (λj hj=>zeP _ (hb j hj))
  grind
theorem zbC(ht:τ.t=Z.t){s:Src × Nat}(hb:∀ id,gS (s.1.get Z)=some id->τ.b[id]?=Z.b[id]?):jh τ s=jh Z s:=by
 have hg:s.1.get τ=s.1.get Z:=by cases hh:s.1 <;> simp [Src.get,ht]
 unfold jh;cases BU s with
 | some v=>rfl
 | none=>
 simp only;unfold wF;rw [hg];cases hl:wK s.2 (s.1.get Z) with
 | some v=>rfl
 | none=>
  simp only;have:i4 τ.b (s.1.get Z)=i4 Z.b (s.1.get Z):=by
   cases hx:s.1.get Z with
   | own id off len sz=>
    grind [gS,i4]
   | _=>rfl
  rw [this]
theorem Pw(F:FB K Z b' τ){f:Nat}{args:List V}{ss:List (Src × Nat)}{xs:List Nat}(hK:∀ x∈jA nb Z d args ss xs,x∈K)
  (h:nu cb nb Z d ah f args ss xs=some σ1):∃ σ1',nu cb nb τ d ah f args ss xs=some σ1'/\FB K σ1 b' σ1'/\jA nb τ d args ss xs=jA nb Z d args ss xs:=by
 have h1:∀ x∈gZ (dG Z ss Z.b) args,x∈K:=λx hx=>hK x (by simp [jA,hx]);have h2:∀ s∈ss,∀ id,gS (s.1.get Z)=some id->id∈K:=λs hs id hid=>hK id (by grind [jA]);have h3:∀ x∈xs,nb+x∈K:=λx hx=>hK _ (by grind [jA]);have h4:∀ k,d=some k->nb+k∈K:=λk hk=>hK _ (by subst hk; simp [jA]);obtain ⟨z2,z3⟩:=w5 (K:=K) F.t ss Z.b τ.b F.on h2;have hids:gZ (dG τ ss τ.b) args=gZ (dG Z ss Z.b) args:=by
  unfold gZ;exact EU z2 40 _ _ (λx hx=>h1 x hx)
 have hget:∀ s:Src × Nat,gS (s.1.get τ)=gS (s.1.get Z):=λs=>by
  have hg:s.1.get τ=s.1.get Z:=by cases hh:s.1 <;> simp [Src.get,F.t]
  rw [hg]
 have hc:jA nb τ d args ss xs=jA nb Z d args ss xs:=by
  unfold jA
  simp_all
 unfold nu at h ⊢;simp only [hids];simp only [Wab,Waa] at h;obtain ⟨bor,hbor,⟨r,bor'⟩,hcb,h⟩:=h;simp only at h hcb;rw [MV _ _ (λx hx=>z2 x (h1 x hx)),hbor];simp only [Wab,Option.bind_some,hcb];rw [M1 (nb:=nb) (b:=dG Z ss Z.b) (b':=dG τ ss τ.b) xs (λx hx=>z2 _ (h3 x hx))];split at h
 ·rename_i hcond;rw [if_pos hcond];have hids':∀ x∈gZ (dG Z ss Z.b) args++(xs.map (nb+·)).take (bor'.length-(gZ (dG Z ss Z.b) args).length),x∈K:=by
   grind
  generalize hG:(λk=>(gZ (dG Z ss Z.b) args++(xs.map (nb+·)).take (bor'.length-(gZ (dG Z ss Z.b) args).length)).getD k 0)=G at h ⊢;obtain ⟨y2,y3⟩:=Lb (K:=K) G _ bor' (dG Z ss Z.b) (dG τ ss τ.b) hids' z2;have F':FB K { Z with b:=iF G (gZ (dG Z ss Z.b) args++(xs.map (nb+·)).take (bor'.length-(gZ (dG Z ss Z.b) args).length)) bor' (dG Z ss Z.b) } b' { τ with b:=iF G (gZ (dG Z ss Z.b) args++(xs.map (nb+·)).take (bor'.length-(gZ (dG Z ss Z.b) args).length)) bor' (dG τ ss τ.b) }:=
   ⟨F.t,y2,λj hj=>by rw [y3 j hj,z3 j hj]; exact F.off j hj⟩
  obtain ⟨σ1',e1,e2⟩:=V3 F' h4 h;exact ⟨σ1',e1,e2,hc⟩
 ·cases h
theorem zdw(hv:∀ id,gS v=some id->b'[id]?=b[id]?):i4 b' v=i4 b v:=by
 cases v with
 | own id off len sz=>simp [i4,hv id rfl]
 | _=>rfl
theorem zeu{agg:Bool}(hK:∀ id off,a.get Z=.ptr id off->id∈K)(hb:∀ j∈K,b'[j]?=Z.b[j]?)(h:ck cb nb Z d ah (.load agg n a take)=some σ1) :
  ∃ σ1',ck cb nb { Z with b:=b' } d ah (.load agg n a take)=some σ1'/\FB K σ1 b' σ1':=by
 have F:=FB.base (K:=K) hb;by_cases hq:(agg||!take)=true
 ·obtain ⟨v,rfl,h2⟩:=Tj (σ':={ Z with b:=b' }) hq (tD _ _ _) (λid off hh=>hb id (hK id off hh)) h;exact ⟨_,h2,F.bc _ _⟩
 ·have e1:agg=false:=by cases agg <;> simp_all
  have e2:take=true:=by cases take <;> simp_all
  subst e1; subst e2;simp only [ck,tD] at h ⊢;cases hx:a.get Z with
  | ptr id off=>
   rw [hx] at h;have hid:=hK id off hx;simp only [hb id hid] at h ⊢;cases hbb:Z.b[id]? with
   | none=>rw [hbb] at h; cases h
   | some x=>
    rw [hbb] at h;cases x with
    | live p cs=>
     simp only [WaR,if_false,if_true] at h ⊢;cases hv:cs[off]? with
     | none=>rw [hv] at h; cases h
     | some v=>
      rw [hv] at h;simp only at h ⊢;split at h
      ·cases h
      ·rename_i hp;rw [if_neg hp];cases h;exact ⟨_,rfl,(F.set hid _).bc _ _⟩
    | fz cs=>
     simp only [WaR,if_false] at h ⊢;cases hv:cs[off]? with
     | none=>rw [hv] at h; cases h
     | some v=>rw [hv] at h; simp only at h ⊢; cases h; exact ⟨_,rfl,F.bc _ _⟩
    | _=>cases h
  | fp m cs=>
   rw [hx] at h;simp only [WaR,if_false] at h ⊢;cases hv:cs[0]? with
   | none=>rw [hv] at h; cases h
   | some v=>rw [hv] at h; simp only at h ⊢; cases h; exact ⟨_,rfl,F.bc _ _⟩
  | _=>rw [hx] at h; cases h
theorem zbz{x:Src}(hK:∀ id off,a.get Z=.ptr id off->id∈K)(hb:∀ j∈K,b'[j]?=Z.b[j]?)(h:ck cb nb Z d ah (.store n a x)=some σ1) :
  ∃ σ1',ck cb nb { Z with b:=b' } d ah (.store n a x)=some σ1'/\FB K σ1 b' σ1':=by
 have F:=FB.base (K:=K) hb;simp only [ck,tD] at h ⊢;split at h
 ·cases h
 ·rename_i hd;rw [if_neg hd];cases hx:a.get Z with
  | ptr id off=>
   rw [hx] at h;have hid:=hK id off hx;simp only [hb id hid] at h ⊢;cases hbb:Z.b[id]? with
   | none=>rw [hbb] at h; cases h
   | some y=>
    rw [hbb] at h;cases y with
    | live p cs=>
     cases p with
     | true=>
      simp only [Wab,Waa] at h ⊢;obtain ⟨v,h1,h2⟩:=h;split at h2
      ·rename_i hc;cases h2;exact ⟨_,⟨v,h1,by rw [if_pos hc]⟩,F.set hid _⟩
      ·cases h2
     | false=>
      simp only at h ⊢;cases hv:x.get Z with
      | agg us=>
       rw [hv] at h;simp only at h ⊢;split at h
       ·rename_i hc; rw [if_pos hc]; cases h; exact ⟨_,rfl,F.set hid _⟩
       ·cases h
      | st us=>
       rw [hv] at h;simp only at h ⊢;split at h
       ·rename_i hc; rw [if_pos hc]; cases h; exact ⟨_,rfl,F.set hid _⟩
       ·cases h
      | ae vs=>rw [hv] at h; cases h
      | bx p cs=>rw [hv] at h; cases h
      | af=>rw [hv] at h; cases h
      | _=>
       rw [hv] at h;simp only at h ⊢;split at h
       ·rename_i hc; rw [if_pos hc]; cases h; exact ⟨_,rfl,(F.ag x).set hid _⟩
       ·cases h
    | _=>cases h
  | _=>rw [hx] at h; cases h
theorem zeH(hv:∀ id,gS v=some id->b'[id]?=b[id]?):yv b' v=yv b v:=by
 cases v with
 | own id off len sz=>simp [yv,hv id rfl]
 | _=>rfl
theorem zbU(hK:∀ id off,a.get Z=.ptr id off->id∈K/\∀ j∈TN Z.b id off n,j∈K)(hb:∀ j∈K,b'[j]?=Z.b[j]?)(h:ck cb nb Z d ah (.aE n a)=some σ1) :
  ∃ σ1',ck cb nb { Z with b:=b' } d ah (.aE n a)=some σ1'/\FB K σ1 b' σ1':=by
 have F:=FB.base (K:=K) hb;simp only [ck,tD] at h ⊢;cases hx:a.get Z with
 | ptr id off=>
  rw [hx] at h;obtain ⟨h1,h2⟩:=hK id off hx;simp only [hb id h1] at h ⊢;cases hbl:Z.b[id]? with
  | none=>rw [hbl] at h; cases h
  | some B=>
   rw [hbl] at h;cases B with
   | live p cs=>
    cases p with
    | true=>cases h
    | false=>
     simp only at h ⊢;split at h
     ·rename_i hc;rw [if_pos hc];have e:((cs.drop off).take n).mapM (yv b')=((cs.drop off).take n).mapM (yv Z.b):=oB _ (λv hv=>zeH λj hj=>hb j (h2 j (by simp only [TN,hbl]; exact List.mem_filterMap.2 ⟨v,hv,hj⟩)));rw [e];cases hm:((cs.drop off).take n).mapM (yv Z.b) with
      | none=>rw [hm] at h; cases h
      | some vs=>rw [hm] at h; cases h; exact ⟨_,rfl,F.bc _ _⟩
     ·cases h
   | _=>cases h
 | _=>rw [hx] at h; cases h
theorem Vd(hb:∀ j∈K,b'[j]?=Z.b[j]?)(hK:∀ s∈xs,∀ id,gS (s.1.get Z)=some id->id∈K):xs.mapM (jh { Z with b:=b' })=xs.mapM (jh Z):=
 oB xs (λs hs=>zbC (Z:=Z) (τ:={ Z with b:=b' }) rfl (λid hid=>hb id (hK s hs id hid)))
theorem Q7{vs:List V}{ys:List Nat}:∀ s∈xs,∀ id,gS (s.1.get Z)=some id->id∈jA nb Z d vs xs ys:=λs hs id hid=>by
 grind [jA]
theorem zhL(hk:(d.map λd=>[nb+d])=some K):∀ k,d=some k->nb+k∈K:=λk hd=>by
 grind
theorem Hf(hk:kOf nb Z o=some K)(hb:∀ j∈K,b'[j]?=Z.b[j]?)(h:dz cb nb Z o=some σ1) :
  ∃ σ1',dz cb nb { Z with b:=b' } o=some σ1'/\FB K σ1 b' σ1'/\kOf nb { Z with b:=b' } o=some K:=by
 have F:=FB.base (K:=K) hb;unfold dz at h ⊢;unfold kOf at hk ⊢;rw [jv (σ':={ Z with b:=b' }) (Z:=Z) (λ_ _ _=>rfl)];cases hg:iS Z o.guard with
 | none=>rw [hg] at h; cases h
 | some g=>
  rw [hg] at h hk;cases g with
  | false=>grind [FB.bc]
  | true=>
   simp only at h hk ⊢;cases hkk:o.k with
   | load agg n a take=>
    rw [hkk] at h hk;simp [tD] at hk ⊢;obtain ⟨σ1',e1,e2⟩:=zeu (K:=K) (λid off hx=>by grind) hb h;exact ⟨σ1',e1,e2,hk⟩
   | aE n a=>
    rw [hkk] at h hk;simp [tD] at hk ⊢;obtain ⟨σ1',e1,e2⟩:=zbU (K:=K) (λid off hx=>by grind) hb h;refine ⟨σ1',e1,e2,?_⟩;cases hx:a.get Z with
    | ptr id off=>
     grind [TN]
    | _=>rw [hx] at hk; cases hk
   | store n a x=>
    rw [hkk] at h hk;simp [tD] at hk ⊢;obtain ⟨σ1',e1,e2⟩:=zbz (K:=K) (λid off hx=>by grind) hb h;exact ⟨σ1',e1,e2,hk⟩
   | alloc p cs=>
    grind [A3,ck]
   | box p x=>
    rw [hkk] at h hk;simp only at hk ⊢;simp only [ck,tD] at h ⊢;have gen:∀ y,Z.ao nb o.dst y (λid=>.ptr id 0)=some σ1->∃ σ1',({ Z with b:=b' }:St).ao nb o.dst y (λid=>.ptr id 0)=some σ1'/\FB K σ1 b' σ1'/\(o.dst.map λd=>[nb+d])=some K:=λy hy=>by
     obtain ⟨σ1',e1,e2⟩:=A3 F (zhL hk) hy;exact ⟨σ1',e1,e2,hk⟩
    cases hx:x.get Z with
    | st cs=>
     rw [hx] at h;simp only at h ⊢;split at h
     ·cases h
     ·rename_i hp; rw [if_neg hp]; exact gen _ h
    | _=>
     rw [hx] at h;simp only at h ⊢;split at h
     ·exact gen _ h
     ·cases h
   | buildSlice sz n z ps=>
    rw [hkk] at h hk;simp only at hk ⊢;simp only [ck,vn (Z:=Z) (σ':={ Z with b:=b' }) ps _ (λ_ _=>rfl),Wab,Waa] at h ⊢
    grind [FB.bc,AV]
   | makeSlice sz bytes z l c=>
    rw [hkk] at h hk
    grind [tD,A3,AV,ck]
   | extract x i=>
    rw [hkk] at h hk;simp only at hk ⊢;simp only [ck,tD] at h ⊢;cases hx:x.get Z with
    | ae vs=>
     rw [hx] at h;simp only at h ⊢;split at h
     ·rename_i v t hvi;split at h
      ·rename_i hc;rw [if_pos hc];split at h
       ·rename_i hh;rw [if_pos hh];have F':FB K { Z with t:=Z.t.set t (.ae (vs.set i .af)) } b' { t:=Z.t.set t (.ae (vs.set i .af)),b:=b' }:=⟨rfl,F.on,F.off⟩;obtain ⟨σ1',e1,e2⟩:=V3 F' (zhL hk) h;exact ⟨σ1',e1,e2,hk⟩
       ·rename_i hh;rw [if_neg hh];split at h
        ·cases h
        ·rename_i hp;rw [if_neg hp];cases h;exact ⟨_,rfl,F.bc _ _,hk⟩
      ·cases h
     ·cases h
    | _=>rw [hx] at h; cases h
   | move x take=>
    rw [hkk] at h hk;simp only at hk ⊢;simp only [ck,tD] at h ⊢;split at h
    ·cases h
    ·rename_i hp;rw [if_neg hp];split at h
     ·rename_i ht; rw [if_pos ht]; cases h; exact ⟨_,rfl,(F.ag x).bc _ _,hk⟩
     ·grind [FB.bc]
   | append sz bytes s x=>
    rw [hkk] at h hk;simp [tD] at hk ⊢;have hx:gS (x.get Z)=none:=by
     cases hx:x.get Z with
     | own id off len sz=>grind
     | _=>rfl
    have hv:i4 b' (x.get Z)=i4 Z.b (x.get Z):=zdw (λid hid=>by rw [hx] at hid; cases hid);have hd:∀ k,o.dst=some k->nb+k∈K:=by
     refine zhL ?_;split at hk <;> first | exact hk | cases hk
    simp only [ck,tD,hv] at h ⊢;split at h
    ·rename_i sz1 es sz2 es2 hs hvx;split at h
     ·rename_i hc;rw [if_pos hc];split at h
      ·rename_i hp;rw [if_pos hp];split at h
       ·obtain ⟨σ1',e1,e2⟩:=AV F hd h;exact ⟨σ1',e1,e2,hk⟩
       ·cases h
      ·rename_i hp;rw [if_neg hp];cases h;exact ⟨_,rfl,(F.ag s).bc _ _,hk⟩
     ·cases h
    ·rename_i sz1 sz2 es2 hs hvx;split at h
     ·rename_i hc;rw [if_pos hc];obtain ⟨σ1',e1,e2⟩:=AV (F.ag s) hd h;exact ⟨σ1',e1,e2,hk⟩
     ·cases h
    ·rename_i hs hvx;rw [hs] at hk
     exfalso
     split at hk <;> simp_all
    ·rename_i hs hvx;rw [hs] at hk
     exfalso
     split at hk <;> simp_all
    ·cases h
   | call f xs ys=>
    rw [hkk] at h hk;simp only at hk ⊢;simp [ck,Waa] at h ⊢;obtain ⟨vs,h1,h2⟩:=h;rw [h1] at hk;simp at hk;have hm:xs.mapM (jh { Z with b:=b' })=some vs:=by
     rw [Vd hb (λs hs id hid=>by grind [Q7]),h1]
    grind [Pw]
   | aQ f xs ys=>
    rw [hkk] at h hk;simp [tD] at hk ⊢;simp only [ck,tD] at h ⊢;cases hf:f.get Z with
    | fn g caps=>
     rw [hf] at h hk;simp [Waa] at h hk ⊢;obtain ⟨vs,h1,h2⟩:=h;rw [h1] at hk;simp at hk;have hm:xs.mapM (jh { Z with b:=b' })=some vs:=by
      rw [Vd hb (λs hs id hid=>by grind [Q7]),h1]
     grind [Pw]
    | _=>rw [hf] at h; cases h
   | _=>rw [hkk] at hk; cases hk
theorem TC(hk:kOf nb Z o=some K)(h:dz cb nb Z o=some σ1):∀ j,j ∉ K->σ1.b[j]?=Z.b[j]?:=by
 obtain ⟨σ1',e1,e2,_⟩:=Hf (b':=Z.b) hk (λ_ _=>rfl) h;rw [h] at e1;cases e1;exact e2.off
theorem zfR{r:Nat}(h:O0 Z r id=true):(Z.t[r]?).bind BE=some id:=by
 unfold O0 at h;split at h
 ·rename_i v hr;split at h
  ·simp_all
  ·cases h
 ·cases h
theorem zbG{r:Nat}(h:yD Z K r=true)(hr:(Z.t[r]?).bind BE=some id):id ∉ K:=by
 grind [yD]
theorem DO{r:Option Nat}{w:List Nat}(h:uk r w=true):∃ x,r=some x/\x∈w:=by
 cases r with
 | none=>cases h
 | some x=>grind [uk]
structure Loc1 (nb:Nat) (Z:St) (o:COp) (fl:Fl) (K:List Nat):Prop where
 k:kOf nb Z o=some K
 root:∀ r,fl.root=some r->∀ id∈K,(Z.t[r]?).bind BE=some id
 nw:fl.nw=true->∃ d,Ji o=some d/\∀ id∈K,id=nb+d
 w:∀ r∈fl.w,∀ id,(Z.t[r]?).bind BE=some id->id ∉ K
 wn:∀ n∈fl.wn,nb+n ∉ K
theorem Rh(h:ux nb Z o fl=true):∃ K,Loc1 nb Z o fl K:=by
 unfold ux at h;split at h
 ·rename_i K hk;simp only [WaG] at h;obtain ⟨⟨⟨h1,h2⟩,h3⟩,h4⟩:=h;refine ⟨K,hk,λr hr id hid=>?_,λhn=>?_,λr hr id hs=>?_,λn hn hh=>?_⟩
  ·grind [zfR]
  ·rw [hn] at h2;simp at h2;split at h2
   ·rename_i d hd;exact ⟨d,hd,λid hid=>Wao (Wbj.1 h2 id hid)⟩
   ·cases h2
  ·grind [zbG]
  ·grind
 ·cases h
theorem zgl(h:zew o.k=true)(hk:kOf nb Z o=some K):K=[]:=by
 unfold kOf at hk;split at hk
 ·cases hk
 ·cases hk; rfl
 ·cases hkk:o.k <;> rw [hkk] at h hk <;> first | (cases h; done) | (cases hk; rfl)
theorem Q5(hl:WE o.k=true)(h:ux nb Z o fl=true):j7 Z o σ1=true:=by
 grind [WE,ux,j7,hI,zhf,kOf]
theorem zmi{A B:COp}{KA KB:List Nat}(ha:dz cb nb Z A=some σ1)(hb:dz cb nb σ1 B=some σ2)(hA:kOf nb Z A=some KA)(hB:kOf nb σ1 B=some KB)(hd:∀ j∈KA,j ∉ KB)
  (wa:∀ k∈Wo A,k ∉ fC B/\k ∉ Wo B) (wb:∀ k∈Wo B,k ∉ fC A/\k ∉ Wo A) :
  ∃ σ1',dz cb nb Z B=some σ1'/\dz cb nb σ1' A=some σ2/\kOf nb Z B=some KB/\kOf nb σ1' A=some KA/\(∀ k,k ∉ Wo B->σ1'.t[k]?=Z.t[k]?):=by
 obtain ⟨_,_,oa⟩:=ge A rfl rfl (λ_ _=>rfl) ha;obtain ⟨_,_,ob⟩:=ge B rfl rfl (λ_ _=>rfl) hb;have fA:=TC hA ha;have fB:=TC hB hb;have rB:∀ t∈fC B,Z.t[t]?=σ1.t[t]?:=λt ht=>(oa.fr t (λhh=>(wa t hh).1 ht)).symm
 let τ:St:={ t:=Z.t,b:=σ1.b }
 obtain ⟨τ1,g1,o1⟩:=ge B (σ':=τ) oa.len.symm rfl rB hb;have kB:kOf nb τ B=some KB:=by grind [OA]
 obtain ⟨σ1',e1,F1,k1⟩:=Hf (b':=Z.b) kB (λj hj=>(fA j (λhh=>hd j hh hj)).symm) g1
 let τ2:St:={ t:=σ1'.t,b:=Z.b }
 have hoff:∀ k,k ∉ Wo B->σ1'.t[k]?=Z.t[k]?:=λk hk=>by rw [F1.t]; exact o1.off k hk
 have rA:∀ t∈fC A,τ2.t[t]?=Z.t[t]?:=λt ht=>hoff t (λhh=>(wb t hh).1 ht);have hlen:τ2.t.length=Z.t.length:=by show σ1'.t.length=_; rw [F1.t]; exact o1.a7
 obtain ⟨σ3,g2,o2⟩:=ge A (σ':=τ2) hlen rfl rA ha;have kA:kOf nb τ2 A=some KA:=by rw [OA (Z:=Z) (σ':=τ2) (.inl rfl) rA,hA]
 obtain ⟨σ4,e2,F2,k2⟩:=Hf (b':=σ1'.b) kA (λj hj=>F1.off j (hd j hj)) g2;have e:σ4=σ2:=by
  have et:σ4.t=σ2.t:=by
   rw [F2.t];apply Wby;intro k;by_cases hA:k∈Wo A
   ·rw [o2.on k hA,ob.fr k (wa k hA).2]
   ·rw [o2.off k hA];show σ1'.t[k]?=_;rw [F1.t];by_cases hB:k∈Wo B
    ·exact o1.on k hB
    ·rw [o1.off k hB,ob.fr k hB,oa.fr k hA]
  have eb:σ4.b=σ2.b:=by
   apply Wby;intro j;by_cases hj:j∈KA
   ·rw [F2.on j hj,o2.b,fB j (hd j hj)]
   ·rw [F2.off j hj];by_cases hk:j∈KB
    ·rw [F1.on j hk,o1.b]
    ·rw [F1.off j hk,fB j hk,fA j hj]
  cases σ4; simp_all
 rw [e] at e2;exact ⟨σ1',e1,e2,k1,k2,hoff⟩
def ldV(agg:Bool)(n:Nat)(take:Bool)(a:V)(b:List B):Option V:=match a with
 | .ptr id off=>match b[id]? with
  | some (.live p cs)=>if agg then (if off+n<=cs.length then (if p then some (.agg ((cs.drop off).take n)) else if take then (((cs.drop off).take n).mapM V.aN).map .st else (((cs.drop off).take n).mapM V.plain).map .agg) else none) else (cs[off]?).map V.ag
  | some (.fz cs)=>if agg then (if off+n<=cs.length then some (.agg ((cs.drop off).take n)) else none) else cs[off]?
  | _=>none
 | .fp m cs=>if agg then (if n<=m then some (.agg (cs.take n)) else none) else cs[0]?
 | _=>none
theorem zax{agg:Bool}{s:Src}(hq:(agg||!take)=true):ck cb nb Z d ah (.load agg n s take)=(ldV agg n take (s.get Z) Z.b).map (λv=>Z.put d v):=by
 simp only [ck,ldV];cases s.get Z with
 | ptr id off=>
  simp only;cases Z.b[id]? with
  | none=>rfl
  | some x=>
   cases x with
   | live p cs=>
    simp only;cases agg with
    | true=>
     simp only [if_true];split
     ·cases p with
      | true=>simp
      | false=>
       cases take with
       | true=>simp only [WaR,if_false,if_true]; cases ((cs.drop off).take n).mapM V.aN <;> rfl
       | false=>simp only [WaR,if_false]; cases ((cs.drop off).take n).mapM V.plain <;> rfl
     ·rfl
    | false=>
     grind
   | fz cs=>
    grind
   | _=>rfl
 | fp m cs=>
  grind
 | _=>rfl
def Dm(b b1:List B):Prop:=∀ j:Nat,b1[j]?=b[j]?∨∃ (cs:List V) (off:Nat) (v:V),b[j]?=some (B.live false cs)/\cs[off]?=some v/\b1[j]?=some (B.live false (cs.set off v.ag))
theorem Xx(v:V):v.ag.ag=v.ag:=by
 cases v with
 | ae vs=>cases vs <;> rfl
 | _=>rfl
theorem zf8(v:V):v.ag.plain=v.plain:=by
 cases v with
 | ae vs=>cases vs <;> rfl
 | _=>rfl
theorem zg3(v:V):v.ag.aN=v.aN:=by
 cases v with
 | ae vs=>cases vs <;> rfl
 | _=>rfl
theorem zb9{f:V->Option V}:∀ (l1 l2:List V),(∀ i:Nat,(l1[i]?).map f=(l2[i]?).map f)->l1.mapM f=l2.mapM f
 | [],[],_=>rfl
 | [],b::l2,h=>by have:=h 0; simp at this
 | a::l1,[],h=>by have:=h 0; simp at this
 | a::l1,b::l2,h=>by
  have h0:f a=f b:=by have:=h 0; simpa using this
  have ih:=zb9 l1 l2 (λi=>by have:=h (i+1); simpa using this)
  grind
theorem zfG{f:V->Option V}(hf:∀ v:V,f v.ag=f v){k:Nat}(hk:cs[k]?=some v)(off n:Nat):(((cs.set k v.ag).drop off).take n).mapM f=((cs.drop off).take n).mapM f:=by
 grind [zb9]
theorem zlh{agg:Bool}{a:V}{b1:List B}(hd:Dm b b1):ldV agg n take a b1=ldV agg n take a b:=by
 cases a with
 | ptr id off=>
  simp [ldV];rcases hd id with e | ⟨cs,k,v,e1,e2,e3⟩
  ·rw [e]
  ·rw [e1,e3];simp [zfG zg3 e2,zfG zf8 e2];congr 1;by_cases e:k=off
   ·subst e;have hlt:=(Wam.1 e2).1;rw [Wax hlt,e2];simp [Xx]
   ·rw [Waw e]
 | _=>rfl
theorem WU(hl:hI o.k=true)(hr:∀ t∈fC o,σ'.t[t]?=Z.t[t]?)(hd:Dm Z.b σ'.b∨Dm σ'.b Z.b)(h:dz cb nb Z o=some σ1):∃ v,σ1=Z.put o.dst v/\dz cb nb σ' o=some (σ'.put o.dst v):=by
 unfold dz at h ⊢;rw [jv (λj w hg=>hr j (jT hg))];split at h
 ·cases hk:o.k with
  | load agg n a take=>
   rw [hk] at h hl;have hg:a.get σ'=a.get Z:=dr (λt ht=>hr t (oK (by rw [hk]; exact ht)));rw [zax hl] at h;rw [zax hl,hg];have e:ldV agg n take (a.get Z) σ'.b=ldV agg n take (a.get Z) Z.b:=by
    grind [zlh]
   rw [e];rw [Wag] at h;obtain ⟨v,h1,rfl⟩:=h;exact ⟨v,rfl,by rw [h1]; rfl⟩
  | _=>rw [hk] at hl; cases hl
 ·cases h; exact ⟨_,rfl,rfl⟩
 ·cases h
theorem Dm.rfl':Dm b b:=λ_=>.inl rfl
theorem zc6(ht:DB o.k=true)(h:dz cb nb Z o=some σ1):Dm Z.b σ1.b:=by
 unfold dz at h;split at h
 ·cases hk:o.k with
  | load agg n a take=>
   rw [hk] at h ht;cases agg with
   | true=>cases ht
   | false=>
    cases take with
    | false=>cases ht
    | true=>
     simp only [ck] at h;cases hx:a.get Z with
     | ptr id off=>
      rw [hx] at h;simp only at h;cases hb:Z.b[id]? with
      | none=>rw [hb] at h; cases h
      | some x=>
       rw [hb] at h;cases x with
       | live p cs=>
        simp only [WaR,if_false,if_true] at h;cases hv:cs[off]? with
        | none=>rw [hv] at h; cases h
        | some v=>
         rw [hv] at h;simp only at h;split at h
         ·cases h
         ·rename_i hp;have hp:p=false:=by cases p <;> simp_all
          subst hp;cases h;rw [gz];intro j;by_cases e:id=j
          ·subst e;refine .inr ⟨cs,off,v,hb,hv,?_⟩;simp only [St.ab];rw [Wax (Wam.1 hb).1]
          ·refine .inl ?_;simp only [St.ab];rw [Waw e]
       | fz cs=>
        simp only [WaR,if_false] at h;cases hv:cs[off]? with
        | none=>rw [hv] at h; cases h
        | some v=>rw [hv] at h; cases h; rw [gz]; exact Dm.rfl'
       | _=>cases h
     | fp m cs=>
      rw [hx] at h;simp only [WaR,if_false] at h;cases hv:cs[0]? with
      | none=>rw [hv] at h; cases h
      | some v=>rw [hv] at h; cases h; rw [gz]; exact Dm.rfl'
     | _=>rw [hx] at h; cases h
  | _=>rw [hk] at ht; cases ht
 ·cases h; rw [gz]; exact Dm.rfl'
 ·cases h
theorem zkp{A B:COp}(ha:dz cb nb Z A=some σ1)(hb:dz cb nb σ1 B=some σ2)(hl:hI A.k=true)(ht:DB B.k=true)
  (wa:∀ k∈Wo A,k ∉ fC B/\k ∉ Wo B) (wb:∀ k∈Wo B,k ∉ fC A/\k ∉ Wo A) :
  ∃ σ1',dz cb nb Z B=some σ1'/\dz cb nb σ1' A=some σ2/\(∀ k,k ∉ Wo B->σ1'.t[k]?=Z.t[k]?):=by
 obtain ⟨_,_,oa⟩:=ge A rfl rfl (λ_ _=>rfl) ha;obtain ⟨_,_,ob⟩:=ge B rfl rfl (λ_ _=>rfl) hb;have rB:∀ t∈fC B,Z.t[t]?=σ1.t[t]?:=λt ht=>(oa.fr t (λhh=>(wa t hh).1 ht)).symm;obtain ⟨v,e3,_⟩:=WU (σ':=Z) hl (λ_ _=>rfl) (.inl Dm.rfl') ha;have hb1:σ1.b=Z.b:=by rw [e3,gz]
 obtain ⟨σ1',f1,f2⟩:=ge B (σ':=Z) oa.len.symm hb1.symm rB hb;obtain ⟨v',e3',e4⟩:=WU (σ':=σ1') hl (λt ht=>f2.off t (λhh=>(wb t hh).1 ht)) (.inl (zc6 ht f1)) ha;have e:σ1'.put A.dst v'=σ2:=by
  have eb:(σ1'.put A.dst v').b=σ2.b:=by rw [gz,f2.b]
  have et:(σ1'.put A.dst v').t=σ2.t:=by
   apply Wby;intro k;rw [gP,f2.a7];by_cases hA:A.dst=some k/\k<Z.t.length
   ·rw [if_pos hA];have hkA:k∈Wo A:=eP k hA.1;rw [ob.fr k (wa k hkA).2,e3',gP,if_pos hA]
   ·rw [if_neg hA];by_cases hB:k∈Wo B
    ·exact f2.on k hB
    ·rw [f2.off k hB,ob.fr k hB,e3',gP,if_neg hA]
  cases hz:σ1'.put A.dst v'; simp_all
 exact ⟨σ1',f1,by rw [e4,e],f2.off⟩
theorem zlF{A B:COp}(ha:dz cb nb Z A=some σ1)(hb:dz cb nb σ1 B=some σ2)(ht:DB A.k=true)(hl:hI B.k=true)
  (wa:∀ k∈Wo A,k ∉ fC B/\k ∉ Wo B) (wb:∀ k∈Wo B,k ∉ fC A/\k ∉ Wo A) :
  ∃ σ1',dz cb nb Z B=some σ1'/\dz cb nb σ1' A=some σ2/\(∀ k,k ∉ Wo B->σ1'.t[k]?=Z.t[k]?):=by
 obtain ⟨_,_,oa⟩:=ge A rfl rfl (λ_ _=>rfl) ha;have rB:∀ t∈fC B,Z.t[t]?=σ1.t[t]?:=λt ht=>(oa.fr t (λhh=>(wa t hh).1 ht)).symm;obtain ⟨v,e1,e2⟩:=WU (σ':=Z) hl rB (.inr (zc6 ht ha)) hb;have hoff:∀ k,k ∉ Wo B->(Z.put B.dst v).t[k]?=Z.t[k]?:=λk hk=>by rw [gP,if_neg (λh=>hk (eP k h.1))]
 have hlen:(Z.put B.dst v).t.length=Z.t.length:=xm _ _ _;obtain ⟨σ2',f1,f2⟩:=ge A (σ':=Z.put B.dst v) hlen (gz _ _ _) (λt ht=>hoff t (λhh=>(wb t hh).1 ht)) ha;have e:σ2'=σ2:=by
  have eb:σ2'.b=σ2.b:=by rw [f2.b,e1,gz]
  have et:σ2'.t=σ2.t:=by
   apply Wby;intro k;rw [e1,gP,oa.len];by_cases hB:B.dst=some k/\k<Z.t.length
   ·rw [if_pos hB];have hkB:k∈Wo B:=eP k hB.1;rw [f2.off k (wb k hkB).2,gP,if_pos hB]
   ·rw [if_neg hB];by_cases hA:k∈Wo A
    ·exact f2.on k hA
    ·rw [f2.off k hA,oa.fr k hA,gP,if_neg hB]
  cases σ2'; simp_all
 subst e;exact ⟨_,e2,f1,hoff⟩
theorem MG(hl:(hI o.k||DB o.k)=true)(hr:∀ t∈fC o,σ'.t[t]?=Z.t[t]?):kOf nb σ' o=kOf nb Z o:=by
 unfold kOf;rw [jv (λj w hg=>hr j (jT hg))];have hrk:∀ t∈dU o.k,σ'.t[t]?=Z.t[t]?:=λt ht=>hr t (oK ht);cases hk:o.k with
 | load agg n x take=>
  rw [hk] at hrk;simp only [dr (s:=x) hrk]
 | _=>simp [hk,hI,DB] at hl
theorem zl2{A B:COp}(ha:dz cb nb Z A=some σ1)(hb:dz cb nb σ1 B=some σ2)(fa:kW nb Z A qa σ1=true)(fb:kW nb σ1 B qb σ2=true)(pk:Dp (A,qa) (B,qb)=true) :
  ∃ σ1',dz cb nb Z B=some σ1'/\dz cb nb σ1' A=some σ2/\kW nb Z B qb σ1'=true/\kW nb σ1' A qa σ2=true:=by
 by_cases hL:(qa.l&&qb.l)=false∨eN A.k=true∨eN B.k=true
 ·exact zl7 ha hb fa fb pk hL
 simp only [not_or,Bool.not_eq_false,Bool.not_eq_true] at hL;obtain ⟨hl,hpa,hpb⟩:=hL;rw [WaG] at hl;obtain ⟨hla,hlb⟩:=hl;simp only [Dp,WaG] at pk;obtain ⟨⟨hs,hroots⟩,hq⟩:=pk;have hroots:=kV hroots;have rr:∀ t,t∈qa.roots∨t∈qb.roots->t ∉ Wo A/\t ∉ Wo B:=by
  intro t ht;constructor
  ·intro hh;exact hroots t (Wbt.2 (.inl hh)) (Wbt.2 ht)
  ·intro hh;exact hroots t (Wbt.2 (.inr hh)) (Wbt.2 ht)
 have hs0:=hs;simp only [pE,WaG] at hs;have s1:=kV hs.1;have s2:=kV hs.2;have wa:∀ k∈Wo A,k ∉ fC B/\k ∉ Wo B:=λk hk=>by
  grind [Wk,Wo]
 have wb:∀ k∈Wo B,k ∉ fC A/\k ∉ Wo A:=λk hk=>by
  grind [Wk,Wo]
 obtain ⟨_,_,oa⟩:=ge A rfl rfl (λ_ _=>rfl) ha;have fa':ux nb Z A qa=true:=by grind [kW]
 have fb':ux nb σ1 B qb=true:=by grind [kW]
 obtain ⟨KA,LA⟩:=Rh fa';obtain ⟨KB,LB⟩:=Rh fb';have rt:∀ t,t∈qa.roots∨t∈qb.roots->σ1.t[t]?=Z.t[t]?:=λt ht=>oa.fr t (rr t ht).1;have dis:((hI A.k=true/\DB B.k=true)∨(DB A.k=true/\hI B.k=true))∨(WE A.k=true/\WE B.k=true)∨∀ j∈KA,j ∉ KB:=by
  simp [hpa,hpb,hla,hlb] at hq;rcases hq with (((((((h | h) | h) | h) | h) | h) | h) | h) | h
  ·exact .inr (.inl h)
  ·exact .inl (.inl h)
  ·exact .inl (.inr h)
  ·exact .inr (.inr λj hj=>by rw [zgl h LA.k] at hj; cases hj)
  ·exact .inr (.inr λj hj=>by rw [zgl h LB.k]; exact List.not_mem_nil)
  ·obtain ⟨x,hx,hm⟩:=DO h;refine .inr (.inr λj hj=>?_);have hp:=LA.root x hx j hj;exact LB.w x hm j (by grind [Fl.roots])
  ·obtain ⟨x,hx,hm⟩:=DO h;refine .inr (.inr λj hj hj2=>?_);have hp:=LB.root x hx j hj2;exact LA.w x hm j (by grind [Fl.roots]) hj
  ·obtain ⟨d,hd,hn⟩:=LA.nw h.1;obtain ⟨x,hx,hm⟩:=DO h.2;rw [hd] at hx; cases hx;exact .inr (.inr λj hj=>by rw [hn j hj]; exact LB.wn _ hm)
  ·obtain ⟨d,hd,hn⟩:=LB.nw h.1;obtain ⟨x,hx,hm⟩:=DO h.2;rw [hd] at hx; cases hx;exact .inr (.inr λj hj hj2=>by rw [hn j hj2] at hj; exact LA.wn _ hm hj)
 have fin:(hI A.k||DB A.k)=true->(hI B.k||DB B.k)=true->(∃ σ1',dz cb nb Z B=some σ1'/\dz cb nb σ1' A=some σ2/\(∀ k,k ∉ Wo B->σ1'.t[k]?=Z.t[k]?))->∃ σ1',dz cb nb Z B=some σ1'/\dz cb nb σ1' A=some σ2/\kW nb Z B qb σ1'=true/\kW nb σ1' A qa σ2=true:=by
  rintro lA lB ⟨σ1',k1,k2,hoff⟩
  refine ⟨σ1',k1,k2,?_,?_⟩
  ·simp [kW,hlb];rw [<- fb'];exact qd (MG lB (λt ht=>(oa.fr t (λhh=>(wa t hh).1 ht)).symm)) (λt ht=>(rt t (.inr ht)).symm)
  ·grind [kW,MG,qd]
 rcases dis with (⟨l1,l2⟩ | ⟨l1,l2⟩) | ⟨l1,l2⟩ | dis
 ·exact fin (by rw [l1]; rfl) (by rw [l2]; simp) (zkp ha hb l1 l2 wa wb)
 ·exact fin (by rw [l1]; simp) (by rw [l2]; rfl) (zlF ha hb l1 l2 wa wb)
 ·obtain ⟨σ1',k1,k2,S⟩:=zkZ ha hb hs0 (.inr (.inr ⟨Q5 l1 fa',Q5 l2 fb'⟩));have S:=S (qa.s&&!qa.l) (qb.s&&!qb.l);refine ⟨σ1',k1,k2,?_,?_⟩
  ·rw [<- fb];exact xl S.bB (λt ht=>(oa.fr t (λhh=>(wa t hh).1 ht)).symm) (λt ht=>(rt t (.inr ht)).symm) S.dB
  ·rw [<- fa];exact xl S.bA (λt ht=>S.fB t (λhh=>(wb t hh).1 ht)) (λt ht=>S.fB t (rr t (.inl ht)).2) S.dA
 ·obtain ⟨σ1',k1,k2,kB,kA,hoff⟩:=zmi ha hb LA.k LB.k dis wa wb;refine ⟨σ1',k1,k2,?_,?_⟩
  ·simp only [kW,hlb,cond_true];rw [<- fb'];exact qd (by rw [kB,LB.k]) (λt ht=>(rt t (.inr ht)).symm)
  ·simp only [kW,hla,cond_true];rw [<- fa'];exact qd (by rw [kA,LA.k]) (λt ht=>hoff t (rr t (.inl ht)).2)
theorem Lx{A B:COp}(h:Kh (A,qa) (B,qb)=true):∃ da db x,A=⟨some da,false,none,.move (.tmp x) true⟩/\B=⟨some db,false,none,.move (.tmp x) false⟩/\da≠x/\db≠x/\da≠db/\(∀ t∈qa.roots,t≠db)/\qb.l=false/\qb.s=false/\qb.q=false/\qb.root=none/\qb.w=[]/\qa.tk=false/\qb.tk=false:=by
 unfold Kh at h;split at h
 ·rename_i da x db y hA hB;simp only at hA hB;simp only [WaG,Bool.not_eq_true',Option.isNone_iff_eq_none,List.isEmpty_iff] at h;obtain ⟨⟨⟨⟨⟨⟨⟨⟨⟨⟨⟨h1,h2⟩,h3⟩,h4⟩,h5⟩,h6⟩,h7⟩,h8⟩,h9⟩,h10⟩,h11⟩,h12⟩:=h;have e:=Wao h1;subst e;have ne:∀ {a b:Nat},Wae a b=false->a≠b:=λh e=>by rw [e] at h; simp at h
  refine ⟨da,db,x,hA,hB,ne h2,ne h3,ne h4,λt ht e=>?_,h6,h7,h8,h9,h10,h11,h12⟩;exact kV h5 db (by simp) (e ▸ ht)
 ·cases h
theorem zc5{q:Fl}(h1:q.l=false)(h2:q.s=false)(h3:q.q=false)(h4:q.root=none)(h5:q.w=[])(Z τ:St):kW nb Z o q τ=true:=by
 grind [uo,kW]
theorem zcG{x a b:Nat}{d:V}(ha:a≠x)(hb:b≠x)(hab:a≠b):((t.modify x V.ag).set a m).set b d=((t.set b d).modify x V.ag).set a m:=by
 apply Wby;intro k;simp only [WbB,WaJ,List.length_set,WbV];by_cases h1:b=k
 ·subst h1;have h2:¬ x=b:=λh=>hb h.symm;simp only [if_true,hab,h2,if_false];by_cases hl:b<t.length <;> simp [hl]
 ·simp only [h1,if_false]
theorem zcb{x a:Nat}(ha:a≠x):Src.get ⟨(Z.t.modify x V.ag).set a m,b⟩ (.tmp x)=(Src.get Z (.tmp x)).ag:=by
 grind [Src.get,V.ag]
theorem zcv{x a:Nat}(ha:a≠x):Src.get (Z.put (some a) m) (.tmp x)=Src.get Z (.tmp x):=by
 grind [Src.get,St.put]
theorem zmf{A B:COp}(ha:dz cb nb Z A=some σ1)(hb:dz cb nb σ1 B=some σ2)(fa:kW nb Z A qa σ1=true)(fb:kW nb σ1 B qb σ2=true)(pk:Kh (A,qa) (B,qb)=true∨Kh (B,qb) (A,qa)=true∨Dp (A,qa) (B,qb)=true) :
  ∃ σ1',dz cb nb Z B=some σ1'/\dz cb nb σ1' A=some σ2/\kW nb Z B qb σ1'=true/\kW nb σ1' A qa σ2=true:=by
 rcases pk with h | h | h
 ·obtain ⟨da,db,x,rfl,rfl,n1,n2,n3,hr,g1,g2,g3,g4,g5,_,_⟩:=Lx h;simp [dz,iS,ck] at ha hb;subst ha;have e1:Src.get ((Z.ac (.tmp x)).put (some da) (Src.get Z (.tmp x)).mv) (.tmp x)=(Src.get Z (.tmp x)).ag:=zcb n1;rw [e1,Xx] at hb;subst hb;have e2:((Z.put (some db) (Src.get Z (.tmp x)).ag).ac (.tmp x)).put (some da) (Src.get Z (.tmp x)).mv=((Z.ac (.tmp x)).put (some da) (Src.get Z (.tmp x)).mv).put (some db) (Src.get Z (.tmp x)).ag:=by
   grind [St.ac,St.put,zcG]
  refine ⟨Z.put (some db) (Src.get Z (.tmp x)).ag,by simp [dz,iS,ck],?_,zc5 g1 g2 g3 g4 g5 _ _,?_⟩
  ·simp only [dz,iS,ck,if_true,WaR,if_false,zcv n2,e2]
  ·refine Eq.trans ?_ fa;refine xl (.inl rfl) (λt ht=>?_) (λt ht=>?_) (λd hd=>?_)
   ·have:t=x:=by grind [Src.tmps,dU,fC]
    subst this;simp only [St.put,WbB,if_neg n2]
   ·simp only [St.put,WbB,if_neg (λ(e:db=t)=>hr t ht e.symm)]
   ·cases hd;simp only [St.put,WbB,if_neg (λ(e:db=da)=>n3 e.symm)]
 ·obtain ⟨db,da,x,rfl,rfl,n1,n2,n3,hr,g1,g2,g3,g4,g5,_,_⟩:=Lx h;simp only [dz,iS,ck,if_true,WaR,if_false,Option.some.injEq] at ha hb;subst ha;rw [zcv n2] at hb;subst hb;refine ⟨(Z.ac (.tmp x)).put (some db) (Src.get Z (.tmp x)).mv,by simp [dz,iS,ck],?_,?_,zc5 g1 g2 g3 g4 g5 _ _⟩
  ·have e1:Src.get ((Z.ac (.tmp x)).put (some db) (Src.get Z (.tmp x)).mv) (.tmp x)=(Src.get Z (.tmp x)).ag:=zcb n1;simp only [dz,iS,ck,if_true,WaR,if_false,e1,Xx];simp only [St.put,St.ac,zcG n1 n2 n3]
  ·refine Eq.trans ?_ fb;refine xl (.inl rfl) (λt ht=>?_) (λt ht=>?_) (λd hd=>?_)
   ·have:t=x:=by grind [Src.tmps,dU,fC]
    subst this;simp only [St.put,WbB,if_neg n2]
   ·simp only [St.put,WbB,if_neg (λ(e:da=t)=>hr t ht e.symm)]
   ·cases hd;simp only [St.put,St.ac,WbB,WaJ,List.length_set,WbV];simp
 ·exact zl2 ha hb fa fb h
def qp(p:V)(b:List B):Option (V × List B):=match p with
 | .ptr id off=>match b[id]? with
  | some (.live false cs)=>(cs[off]?).map λv=>(v.tk,b.set id (.live false (cs.set off v.ag)))
  | some (.fz cs)=>(cs[off]?).map λv=>(v,b)
  | _=>none
 | .fp _ cs=>(cs[0]?).map λv=>(v,b)
 | _=>none
theorem Zo{d:Nat}(Z:St):dz cb nb Z ⟨some d,false,none,.load false n a true⟩=(qp (a.get Z) Z.b).map λx=>⟨Z.t.set d x.1,x.2⟩:=by
 simp only [dz,iS,ck,qp];cases a.get Z with
 | ptr id off=>
  simp only;cases Z.b[id]? with
  | none=>rfl
  | some x=>
   cases x with
   | live p cs=>cases p <;> (simp only [WaR,if_false,if_true]; cases cs[off]? <;> rfl)
   | fz cs=>simp only [WaR,if_false]; cases cs[off]? <;> rfl
   | _=>rfl
 | fp m cs=>simp only [WaR,if_false]; cases cs[0]? <;> rfl
 | _=>rfl
theorem zlA(v:V):zaa (v.ag).tk=false:=by
 cases v <;> try rfl
 rename_i vs;cases vs <;> rfl
theorem zaY{m:Nat}(b b':List B)(h:qp (.fp m cs) b=some (v,b')):b'=b/\∀ c,qp (.fp m cs) c=some (v,c):=by
 simp [qp] at h
 grind [qp]
theorem Oz{off:Nat}(h:qp (.ptr id off) b=some (v,b')):(∃ cs v0,b[id]?=some (.live false cs)/\cs[off]?=some v0/\v=v0.tk/\b'=b.set id (.live false (cs.set off v0.ag)))∨(∃ cs,b[id]?=some (.fz cs)/\cs[off]?=some v/\b'=b):=by
 grind [qp]
theorem Cj{off:Nat}(hb:b[id]?=some (.live false cs))(hv:cs[off]?=some v0):qp (.ptr id off) b=some (v0.tk,b.set id (.live false (cs.set off v0.ag))):=by
 grind [qp]
theorem Mg{off:Nat}(hb:b[id]?=some (.fz cs))(hv:cs[off]?=some v0):qp (.ptr id off) b=some (v0,b):=by
 grind [qp]
theorem zeh{p q w:V}{b1 b2:List B}(h1:qp p b=some (v,b1))(h2:qp q b1=some (w,b2))(gw:zaa w=true):∃ b1',qp q b=some (w,b1')/\qp p b1'=some (v,b2):=by
 have hp:(∃ m cs,p=.fp m cs)∨(∃ id off,p=.ptr id off):=by
  cases p <;> grind [qp]
 have hq:(∃ m cs,q=.fp m cs)∨(∃ id off,q=.ptr id off):=by
  cases q <;> grind [qp]
 rcases hp with ⟨m,cs,rfl⟩ | ⟨id,off,rfl⟩
 ·grind [zaY]
 rcases hq with ⟨m,cs,rfl⟩ | ⟨id',off',rfl⟩
 ·grind [zaY]
 rcases Oz h1 with ⟨cs,v0,e1,e2,rfl,rfl⟩ | ⟨cs,e1,e2,rfl⟩
 ·have hlt:id<b.length:=(Wam.1 e1).1;rcases Oz h2 with ⟨ds,w0,f1,f2,rfl,rfl⟩ | ⟨ds,f1,f2,rfl⟩
  ·by_cases hid:id=id'
   ·subst hid;rw [Wax hlt] at f1;cases f1;have hoff:off≠off':=by
     grind [zlA]
    rw [Waw hoff] at f2;refine ⟨_,Cj e1 f2,?_⟩;rw [Cj (b:=b.set id (.live false (cs.set off' w0.ag))) (Wax hlt) (by rw [Waw (Ne.symm hoff)]; exact e2)];rw [List.set_set,List.set_set,WbT _ _ hoff]
   ·rw [Waw hid] at f1;refine ⟨_,Cj f1 f2,?_⟩;rw [Cj (b:=b.set id' (.live false (ds.set off' w0.ag))) (by grind) e2,WbT _ _ hid]
  ·have hid:id≠id':=by
    grind
   rw [Waw hid] at f1;exact ⟨_,Mg f1 f2,h1⟩
 ·rcases Oz h2 with ⟨ds,w0,f1,f2,rfl,rfl⟩ | ⟨ds,f1,f2,rfl⟩
  ·have hid:id'≠id:=by
    grind
   exact ⟨_,Cj f1 f2,Mg (by grind) e2⟩
  ·exact ⟨_,Mg f1 f2,Mg e1 e2⟩
theorem zjS{d:Nat}{Z:St}(hd:o.dst=some d)(ht:fl.tk=true)(h:BT fl o ⟨t.set d v,b⟩=true):zaa v=true:=by
 simp only [BT,ht,hd,Bool.not_true,Bool.false_or,List.getElem?_set_self'] at h;split at h
 ·rename_i u hu;cases hx:t[d]? with
  | none=>rw [hx] at hu; cases hu
  | some y=>rw [hx] at hu; cases hu; exact h
 ·cases h
theorem zbO{A B:COp}(ha:dz cb nb Z A=some σ1)(hb:dz cb nb σ1 B=some σ2)(fa:flT nb Z A qa σ1=true)(fb:flT nb σ1 B qb σ2=true)(pk:VF (A,qa) (B,qb)=true) :
  ∃ σ1',dz cb nb Z B=some σ1'/\dz cb nb σ1' A=some σ2/\kW nb Z B qb σ1'=true/\kW nb σ1' A qa σ2=true:=by
 unfold VF at pk;split at pk
 ·rename_i da na a db n' b' hA hB;simp only at hA hB;subst hA; subst hB;simp at pk;obtain ⟨⟨⟨⟨⟨hs,hroots⟩,hla⟩,hlb⟩,hta⟩,htb⟩:=pk;simp [flT] at fa fb;have hroots:=kV hroots;simp only [pE,WaG] at hs;have s1:=kV hs.1;have s2:=kV hs.2;have nd:da≠db:=λe=>by have:=s1 da (by simp); simp [e] at this
  have rb:∀ t∈b'.tmps,t≠da:=λt ht e=>by have:=s1 da (by simp); grind [dU,fC]
  have ra:∀ t∈a.tmps,t≠db:=λt ht e=>by have:=s2 db (by simp); grind [dU,fC]
  have rr:∀ t,t∈qa.roots∨t∈qb.roots->t≠da/\t≠db:=by
   intro t ht;constructor
   ·intro e; exact hroots da (by simp [Dl]) (Wbt.2 (e ▸ ht))
   ·intro e; exact hroots db (by simp [Dl]) (Wbt.2 (e ▸ ht))
  rw [Zo,Wag] at ha;obtain ⟨⟨v,b1⟩,h1,rfl⟩:=ha;rw [Zo,Wag] at hb;obtain ⟨⟨w,b2⟩,h2,rfl⟩:=hb;have gb:Src.get (⟨Z.t.set da v,b1⟩:St) b'=Src.get Z b':=dr λt ht=>by
   grind
  rw [gb] at h2;obtain ⟨b1',k1,k2⟩:=zeh h1 h2 (zjS (Z:=Z) rfl htb fb.2);have ga:Src.get (⟨Z.t.set db w,b1'⟩:St) a=Src.get Z a:=dr λt ht=>by
   grind
  have fa1:=fa.1;have fb1:=fb.1;simp only [kW,hla,hlb,cond_true] at fa1 fb1;refine ⟨⟨Z.t.set db w,b1'⟩,?_,?_,?_,?_⟩
  ·rw [Zo,k1]; rfl
  ·rw [Zo,ga,k2,WbT _ _ nd]; rfl
  ·simp only [kW,hlb,cond_true];refine Eq.trans ?_ fb1;refine qd (MG rfl λt ht=>?_) λt ht=>?_
   ·show Z.t[t]?=(Z.t.set da v)[t]?;rw [Waw (Ne.symm (rb t (by grind [dU,fC])))]
   ·show Z.t[t]?=(Z.t.set da v)[t]?;rw [Waw (Ne.symm (rr t (.inr ht)).1)]
  ·simp only [kW,hla,cond_true];refine Eq.trans ?_ fa1;refine qd (MG rfl λt ht=>?_) λt ht=>?_
   ·show (Z.t.set db w)[t]?=Z.t[t]?;rw [Waw (Ne.symm (ra t (by grind [dU,fC])))]
   ·show (Z.t.set db w)[t]?=Z.t[t]?;rw [Waw (Ne.symm (rr t (.inl ht)).2)]
 ·cases pk
theorem UF(h:∀ d,o.dst=some d->σ'.t[d]?=Z.t[d]?):BT fl o σ'=BT fl o Z:=by
 grind [BT]
theorem zg9{A B:COp}{σ1':St}(hb:dz cb nb σ1 B=some σ2)(hb':dz cb nb σ1' A=some σ2)(na:∀ d,A.dst=some d->d ∉ Wo B)(nb':∀ d,B.dst=some d->d ∉ Wo A)(fa:BT qa A σ1=true)(fb:BT qb B σ2=true):BT qb B σ1'=true/\BT qa A σ2=true:=by
 obtain ⟨_,_,ob⟩:=ge B rfl rfl (λ_ _=>rfl) hb;obtain ⟨_,_,oa⟩:=ge A rfl rfl (λ_ _=>rfl) hb';exact ⟨by rw [<- fb]; exact (UF λd hd=>oa.fr d (nb' d hd)).symm,by rw [<- fa]; exact UF λd hd=>ob.fr d (na d hd)⟩
theorem zmk{A B:COp}(ha:dz cb nb Z A=some σ1)(hb:dz cb nb σ1 B=some σ2)(fa:flT nb Z A qa σ1=true)(fb:flT nb σ1 B qb σ2=true)(pk:O4 (A,qa) (B,qb)=true) :
  ∃ σ1',dz cb nb Z B=some σ1'/\dz cb nb σ1' A=some σ2/\flT nb Z B qb σ1'=true/\flT nb σ1' A qa σ2=true:=by
 have fa0:=fa;have fb0:=fb;simp [flT] at fa fb ⊢;have dsts:(∀ d,A.dst=some d->d ∉ Wo B)/\(∀ d,B.dst=some d->d ∉ Wo A)∨(qa.tk=false/\qb.tk=false):=by
  have ap:pE A B=true->(∀ d,A.dst=some d->d ∉ Wo B)/\(∀ d,B.dst=some d->d ∉ Wo A):=by
   intro hs;simp only [pE,WaG] at hs;have s1:=kV hs.1;have s2:=kV hs.2
   grind [Wk,Wo]
  grind [Lx,O4,Dp,VF]
 have main:∃ σ1',dz cb nb Z B=some σ1'/\dz cb nb σ1' A=some σ2/\kW nb Z B qb σ1'=true/\kW nb σ1' A qa σ2=true:=by
  grind [O4,zmf,zbO]
 obtain ⟨σ1',k1,k2,k3,k4⟩:=main;have tk:BT qb B σ1'=true/\BT qa A σ2=true:=by
  rcases dsts with ⟨na,nb'⟩ | ⟨t1,t2⟩
  ·grind [zg9]
  ·simp [BT,t1,t2]
 exact ⟨σ1',k1,k2,⟨k3,tk.1⟩,⟨k4,tk.2⟩⟩
end
section
variable {i:Nat}{acc:Array Nat}{ops:Array Oper}{listed:Array Bool}{rt:Option Nat}
def Gh(cb:CB)(nb:Nat)(ks:List (COp × Fl)):List Nat->St->Option St
 | [],Z=>some Z
 | i::l,Z=>match ks[i]? with
  | some (o,q)=>match dz cb nb Z o with
   | some σ'=>if flT nb Z o q σ' then Gh cb nb ks l σ' else none
   | none=>none
  | none=>none
theorem LZ{cb:CB}{nb:Nat}{ks:List (COp × Fl)}{l:List Nat}{Z σ':St}:Gh cb nb ks (i::l) Z=some σ'↔∃ o q σ1,ks[i]?=some (o,q)/\dz cb nb Z o=some σ1/\flT nb Z o q σ1=true/\Gh cb nb ks l σ1=some σ':=by
 grind [Gh]
theorem Ra{cb:CB}{nb:Nat}(ks:List (COp × Fl)):∀ (l:List (COp × Fl)) (k:Nat) (Z:St),(∀ i,l[i]?=ks[k+i]?)->vr cb nb l Z=Gh cb nb ks (List.range' k l.length) Z
 | [],k,Z,h=>rfl
 | (o,q)::l,k,Z,h=>by
  have h0:ks[k]?=some (o,q):=by simpa using (h 0).symm
  have ih:=λZ=>Ra (cb:=cb) (nb:=nb) ks l (k+1) Z (λi=>by have:=h (i+1); grind);simp [vr,List.range'_succ,Gh,h0,ih]
  grind
theorem zgp{cb:CB}{nb:Nat}{ks:List (COp × Fl)}{i:Nat}{l2:List Nat}{σ':St}:∀ (l1:List Nat) (Z:St),(∀ j∈l1,∀ a b,ks[j]?=some a->ks[i]?=some b->O4 a b=true)->Gh cb nb ks (l1++i::l2) Z=some σ'->Gh cb nb ks (i::(l1++l2)) Z=some σ'
 | [],Z,_,h=>h
 | j::l1,Z,hp,h=>by
  rw [List.cons_append,LZ] at h;obtain ⟨oj,qj,σ1,h1,h2,h3,h4⟩:=h;have ih:=zgp l1 σ1 (λj' hj'=>hp j' (by simp [hj'])) h4
  grind [LZ,zmk]
theorem Ye(acc:Array Nat)(j:Nat):∀ (l:List Edge) (s:Nat),(l.foldl (λs e=>if Region.binds .any e=true then s ||| 2 ^ e.on ||| acc.getD e.on 0 else s) s).testBit j=true->s.testBit j=true∨∃ e∈l,Region.binds .any e=true/\(j=e.on∨(acc.getD e.on 0).testBit j=true)
 | [],s,h=>.inl h
 | e::l,s,h=>by
  rw [List.foldl_cons] at h;rcases Ye acc j l _ h with h | ⟨e',he',h⟩
  ·grind
  ·grind
def zj8(acc:Array Nat)(pre:List Oper):Prop:=acc.size=pre.length/\∀ i j,(acc.getD i 0).testBit j=true->∃ o,pre[i]?=some o/\∃ e∈o.after,Region.binds .any e=true/\(j=e.on∨(acc.getD e.on 0).testBit j=true)
theorem XZ{b:Nat}(i:Nat)(h:i<acc.size):(acc.push b).getD i 0=acc.getD i 0:=by
 rw [Wbk,Wbk,Array.getElem?_push_lt h,Wbp h]
theorem zgP{j:Nat}(h:(acc.getD i 0).testBit j=true):i<acc.size:=by
 grind
theorem Vx:∀ (l pre:List Oper) (acc:Array Nat),zj8 acc pre->zj8 (l.foldl (λacc o=>acc.push (o.after.foldl (λs e=>if Region.binds .any e=true then s ||| 2 ^ e.on ||| acc.getD e.on 0 else s) 0)) acc) (pre++l)
 | [],pre,acc,h=>by simpa using h
 | o::l,pre,acc,h=>by
  rw [List.foldl_cons];have:=Vx l (pre++[o]) (acc.push (o.after.foldl (λs e=>if Region.binds .any e=true then s ||| 2 ^ e.on ||| acc.getD e.on 0 else s) 0)) ⟨by simp [h.1],λi j hb=>by
   have hi:=zgP hb;have up:∀ e:Nat,(acc.getD e 0).testBit j=true->∀ b,((acc.push b).getD e 0).testBit j=true:=λe he b=>by grind [XZ]
   by_cases hlt:i<acc.size
   ·rw [XZ i hlt] at hb;obtain ⟨o',h1,e,h2,h3,h4⟩:=h.2 i j hb;exact ⟨o',by grind,e,h2,h3,h4.imp id (λhh=>up _ hh _)⟩
   ·have hie:i=acc.size:=by simp at hi; omega
    subst hie;refine ⟨o,by rw [h.1]; simp,?_⟩;rw [Wbk,Array.getElem?_push_size,WbN,<- Wat] at hb;rcases Ye acc j _ _ hb with hb | ⟨e,h2,h3,h4⟩
    ·simp at hb
    ·exact ⟨e,by simpa using h2,h3,h4.imp id (λhh=>up _ hh _)⟩⟩
  simpa using this
theorem zbP(ops:Array Oper)(i j:Nat)(h:((Region.before ops).getD i 0).testBit j=true):∃ o,ops[i]?=some o/\∃ e∈o.after,Region.binds .any e=true/\(j=e.on∨((Region.before ops).getD e.on 0).testBit j=true):=by
 have:=Vx ops.toList [] #[] ⟨rfl,λi j h=>by simp at h⟩;have e:Region.before ops=ops.toList.foldl (λacc o=>acc.push (o.after.foldl (λs e=>if Region.binds .any e=true then s ||| 2 ^ e.on ||| acc.getD e.on 0 else s) 0)) #[]:=by
  unfold Region.before;rw [<- Wat]
 rw [<- e] at this;obtain ⟨o,h1,h2⟩:=this.2 i j h
 grind
section
variable {aa:Rn} {we:World} {ωe:Nat->Ow} {U:Nat->Nat->Prop} {O:Nat->Prop} {P:Program} {nb:Nat} {cb:CB}
def unl(ops:Array Oper)(listed:Array Bool):List Nat:=(Waq ops.size).filter (λi=>!listed.getD i true)
theorem Ks:i∈unl ops listed↔i<ops.size/\listed.getD i true=false:=by
 simp [unl]
theorem MM(ops:Array Oper)(listed:Array Bool):(unl ops listed).Pairwise (·<·):=List.pairwise_lt_range.filter _
theorem zi6{l1 l2:List Nat}(hi:i<listed.size)(h:unl ops listed=l1++i::l2):unl ops (listed.setIfInBounds i true)=l1++l2:=by
 have hs:=MM ops listed;rw [h,WbS] at hs;obtain ⟨_,h2,h3⟩:=hs;rw [WbW] at h2;have e:unl ops (listed.setIfInBounds i true)=(unl ops listed).filter (λx=>x != i):=by
  unfold unl;rw [List.filter_filter];apply List.filter_congr;intro x _;by_cases hx:i=x
  ·simp_all
  ·rw [getD_set_ne true hx];have:(x != i)=true:=by grind
   rw [this]; simp
 rw [e,h,List.filter_append,List.filter_cons];simp;rw [WbU.2 (λx hx=>by have:=h3 x hx i (by simp); simp; omega),WbU.2 (λx hx=>by grind)]
theorem Sb{h:Hint}{rid:Nat}{ops:Array Oper}:∀ (l:List Oper) (k:Nat) (cs:List COp),OT P aa h rid ops l k=some cs->cs.length=l.length/\∀ i o,l[i]?=some o->∃ c,cs[i]?=some c/\cOp P aa h rid ops (k+i) o=some c
 | [],k,cs,hc=>by cases hc; exact ⟨rfl,by simp⟩
 | o::l,k,cs,hc=>by
  simp [OT,Waa] at hc;obtain ⟨c,h1,rest,h2,rfl⟩:=hc;obtain ⟨q1,q2⟩:=Sb l (k+1) rest h2
  grind
theorem WK(before:Array Nat)(cs:List COp)(b:Bool)(i:Nat)(x:COp × Fl)(h:(q8 rt before cs b)[i]?=some x):cs[i]?=some x.1:=by
 grind [q8]
theorem XA(before:Array Nat)(cs:List COp)(b:Bool):(q8 rt before cs b).length=cs.length:=by simp [q8]
theorem NW(before:Array Nat)(cs:List COp):∃ b,nJ rt before cs=q8 rt before cs b:=by
 unfold nJ;simp only;split
 ·exact ⟨true,rfl⟩
 ·exact ⟨false,rfl⟩
theorem Y5(before:Array Nat)(cs:List COp)(i:Nat)(x:COp × Fl)(h:(nJ rt before cs)[i]?=some x):cs[i]?=some x.1:=by
 obtain ⟨b,e⟩:=NW before cs;rw [e] at h
 grind [WK]
theorem Y7(before:Array Nat)(cs:List COp):(nJ rt before cs).length=cs.length:=by
 obtain ⟨b,e⟩:=NW before cs;rw [e,XA]
theorem zlw(hcb:rD P aa cb){h:Hint}{rid:Nat}{cs:List COp}(hc:OT P aa h rid ops ops.toList 0=some cs)(he:Pv ops=true)(hp:PM (Region.before ops) (nJ (h.rt.lookup rid) (Region.before ops) cs)=true){Q:Exit->Act->World->Prop}{σ':St} :
  ∀ (fuel:Nat) (listed:Array Bool) {Z:St} {a:Act} {w:World} {ω:Nat->Ow} {μ:Nat->Nat},listed.size=ops.size->(∀ i j,listed.getD i false=true->((Region.before ops).getD i 0).testBit j=true->listed.getD j false=true)->(unl ops listed).length=fuel ->
   Rel aa we ωe U O Z a w ω μ->Gh cb nb (nJ (h.rt.lookup rid) (Region.before ops) cs) (unl ops listed) Z=some σ'->Post aa we ωe U O nb μ σ' (Q .normal)->wpAny P .any ops Q fuel listed a w:=by
 obtain ⟨hlen,hget⟩:=Sb _ _ _ hc;intro fuel
 induction fuel with
 | zero=>
  intro listed Z a w ω μ hsz hdown hl R hs hQ;have hnil:unl ops listed=[]:=WaT.1 hl;rw [hnil] at hs;cases hs;refine ⟨?_,hQ _ _ _ _ R (λ_ _=>rfl)⟩;rw [List.eq_nil_iff_forall_not_mem];intro j hj;obtain ⟨h1,o,h2,_⟩:=mem_ready.1 hj;have:j∈unl ops listed:=Ks.2 ⟨(WaL.1 h2).1,h1⟩;rw [hnil] at this; cases this
 | succ fuel ih=>
  intro listed Z a w ω μ hsz hdown hl R hs hQ;have ak:∀ j,j<ops.size->listed.getD j true=true->listed.getD j false=true:=λj hj h=>by
   grind
  have unlst:∀ j,listed.getD j true=false->listed.getD j false=true->False:=λj h1 h2=>by
   grind
  refine ⟨λhr=>?_,λi hi=>?_⟩
  ·exfalso
   cases hu:unl ops listed with
   | nil=>rw [hu] at hl; cases hl
   | cons i rest=>
    have hm:i∈unl ops listed:=by rw [hu]; simp
    obtain ⟨m1,m2⟩:=Ks.1 hm;have:i∈Region.ready .any ops listed:=by
     refine mem_ready.2 ⟨m2,ops[i],Wbp m1,λe hee hb=>?_⟩;have hback:e.on<i:=by
      have:=Wbj.1 he (ops[i],i) (by grind);have:=Array.all_eq_true_iff_forall_mem.1 this e hee;simpa [hb] using this
     refine ak _ (by omega) ?_;cases hx:listed.getD e.on true with
     | true=>rfl
     | false=>
      exfalso
      have hm2:e.on∈unl ops listed:=Ks.2 ⟨by omega,hx⟩;have hso:=MM ops listed;rw [hu] at hm2 hso;rw [WbW] at hso
      grind
    rw [hr] at this; cases this
  ·obtain ⟨m2,o,ho,hall⟩:=mem_ready.1 hi;have m1:i<ops.size:=(WaL.1 ho).1;obtain ⟨l1,l2,hu⟩:=List.append_of_mem (Ks.2 ⟨m1,m2⟩);have hbefore:∀ j,((Region.before ops).getD i 0).testBit j=true->listed.getD j false=true:=by
    intro j hj;obtain ⟨o',ho',e,h1,h2,h3⟩:=zbP ops i j hj
    grind
   have hso:=MM ops listed;rw [hu,WbS] at hso;rw [hu] at hs;have hs':=zgp l1 Z (λj hj a b hja hib=>by
    have hji:j<i:=hso.2.2 j hj i (by simp);have hil:i<(nJ (h.rt.lookup rid) (Region.before ops) cs).length:=(Wam.1 hib).1;have:=Wbj.1 hp i (WbP.2 hil);have:=Wbj.1 this j (WbP.2 hji);rw [Bool.or_eq_true] at this;rcases this with h | h
    ·exfalso
     have hm:j∈unl ops listed:=by rw [hu]; simp [hj]
     exact unlst j (Ks.1 hm).2 (hbefore j h)
    ·rw [hja,hib] at h; exact h) hs
   rw [LZ] at hs';obtain ⟨c,q,σ1,g1,g2,g3,g4⟩:=hs';have hci:=Y5 _ _ _ _ g1;obtain ⟨c',hc1,hc2⟩:=hget i o (by simpa using ho);rw [hci] at hc1;cases hc1;rw [Wau] at hc2;unfold wpOp;simp only [ho];refine Yw R hcb hc2 g2 (λa' w' ω' μ' R' hm=>?_);have hset:=zi6 (ops:=ops) (listed:=listed) (by omega) hu;refine ih (listed.setIfInBounds i true) (by simpa using hsz) (λi' j hi' hj=>?_) ?_ R' (by rw [hset]; exact g4) (hQ.at hm)
   ·by_cases hii:i=i'
    ·subst hii; exact getD_set_true (hbefore j hj)
    ·rw [getD_set_ne false hii] at hi';exact getD_set_true (hdown i' j hi' hj)
   ·rw [hset];rw [hu] at hl;simp at hl ⊢;omega
theorem zly(hm:P.follows .mixedOrders=true)(cb:CB)(hcb:rD P aa cb):VN P aa cb:=by
 intro h id ops cs hc hp nb we ωe U O Z σ' a w ω μ R hs Q hQ;rw [WaG] at hp;refine wp_region_any hm ?_;have R':=(R.sameHeap (w':={ w with drawn:=w.drawn+1 }) rfl rfl rfl rfl).2;have e:unl ops (Array.replicate ops.size false)=Waq ops.size:=by
  unfold unl
  simp_all
 have hlen:(nJ (h.rt.lookup id) (Region.before ops) cs).length=ops.size:=by rw [Y7,(Sb _ _ _ hc).1]; simp
 refine zlw hcb hc hp.1 hp.2 ops.size _ (by simp) (λi j hi=>?_) (by rw [e]; simp) R' ?_ hQ
 ·exfalso
  rw [Wbk,Array.getElem?_replicate] at hi;split at hi <;> simp at hi
 ·rw [e,List.range_eq_range',<- hlen,<- Ra _ _ 0 Z (λi=>by rw [Wau])];exact hs
end
end
section
variable {args:List V}{us:List Value}
variable {aa:Rn} {P:Program} {w:World}
def Ba:Nat->Nat->Prop:=λ_ _=>False
theorem zcR:wr Ba (λ_=>Ow.no)=Ba:=by
 funext k o;simp [wr]
theorem zfy(hgv:GV aa w Ba)(hl:args.length=us.length)(h:∀ (i:Nat) (v:V) (u:Value),args[i]?=some v->us[i]?=some u->RepP aa w Ba v u) :
  Rel aa w (λ_=>Ow.no) Ba No ⟨args,([]:Bor).map toB⟩ ⟨us.toArray,[]⟩ w (λ_=>Ow.no) (λ_=>0):=by
 refine ⟨rfl,by simp [hl],λi v hv=>?_,λid p cs hb=>by simp at hb,λid cs hb=>by simp at hb,λid es hb=>by simp at hb,Kept.refl _ _,λk hk=>absurd rfl hk,λk o h=>h.elim,λk o u h1 h2=>⟨h1,h2⟩,λk=>Nat.le_refl _,by rw [zcR]; exact hgv⟩;have hlt:i<us.length:=by grind
 have e:(us.toArray).getD i undef=us[i]:=by simp [hlt]
 show Rep aa _ _ _ ((us.toArray).getD i undef);rw [e];refine .pure ?_;show RepP aa w (wr Ba (λ_=>Ow.no)) v us[i];rw [zcR];exact h i v _ hv (Wac hlt)
theorem zdj(hgv:GV aa w Ba){cb:CB}(hcb:rD P aa cb){f:FuncId}{g:Nat}(hf:aa f=some g)(hl:args.length=us.length)(h:∀ (i:Nat) (v:V) (u:Value),args[i]?=some v->us[i]?=some u->RepP aa w Ba v u)
  {b:Bool} {bor':Bor} (hr:cb g args []=some (.sc (.bool b),bor')):Calls P f us.toArray w λe w'=>e=.returned (.bool b)/\Kept No w w':=by
 obtain ⟨_,hp⟩:=hcb _ _ _ _ _ hr f hf;refine (hp w us Ba No (λ_=>Ow.no) (λ_=>0) (zfy hgv hl h)).mono ?_
 rintro e w' ⟨u,ω',μ',rfl,R,_⟩
 have:=(R.ts 0 _ rfl).aA.1;refine ⟨?_,R.kp⟩
 simp_all
end
section
variable {P:Program}{aa:Rn}{gl:List (Nat × List V)}
structure Row where
 f:Nat
 g:Nat
 h:Hint
 c:CF
def kO(fg:List (Nat × Nat))(gl:List (Nat × List V)):Rn:=⟨λf=>(fg.find? (λe=>e.1==f)).map (·.2),λg=>(gl.find? (λe=>e.1==g)).map (·.2)⟩
def dl(rows:List Row)(g:Nat):Option CF:=(rows.find? (λe=>e.g==g)).map (·.c)
def ccA:CC->CC
 | .seq a _=>a
 | .block _ a=>a
 | .loop _ _ a=>a
 | .cond _ a _=>a
 | .fork p _ _ _=>p
 | c=>c
def ccB:CC->CC
 | .seq _ b=>b
 | .cond _ _ b=>b
 | .fork _ _ _ b=>b
 | c=>c
def ccC:CC->CC
 | .fork _ _ a _=>a
 | c=>c
def eT:List Nat->CC->CC
 | [],c=>c
 | 0::p,c=>eT p (ccA c)
 | 1::p,c=>eT p (ccB c)
 | _::p,c=>eT p (ccC c)
def cfG(P:Program)(aa:Rn)(h:Hint)(f:Nat):CF:=(Jr P aa h f).getD ⟨0,[],.skip⟩
def ziE(P:Program)(aa:Rn)(l:List (Nat × Nat × Hint)):List Row:=l.map λx=>⟨x.1,x.2.1,x.2.2,cfG P aa x.2.2 x.1⟩
def nk(P:Program)(aa:Rn)(fg:List (Nat × Nat))(l:List (Nat × Nat × Hint)):Bool:=l.all λx=>fg.any (λe=>Wae e.1 x.1&&Wae e.2 x.2.1)&&n8 P x.1&&(Jr P aa x.2.2 x.1).isSome
theorem zhY{fg:List (Nat × Nat)}{l:List (Nat × Nat × Hint)}(h:nk P aa fg l=true):∀ r∈ziE P aa l,(r.f,r.g)∈fg/\n8 P r.f=true/\Jr P aa r.h r.f=some r.c:=by
 intro r hr;obtain ⟨x,hx,rfl⟩:=WbX.1 hr;have:=Wbj.1 h x hx;simp only [WaG,List.any_eq_true] at this;obtain ⟨⟨⟨e,he,h1,h2⟩,h3⟩,h4⟩:=this;refine ⟨?_,h3,?_⟩
 ·show (x.1,x.2.1)∈fg;rw [<- Wao h1,<- Wao h2]; exact he
 ·show Jr P aa x.2.2 x.1=some (cfG P aa x.2.2 x.1);obtain ⟨c,hc⟩:=Option.isSome_iff_exists.1 h4;rw [cfG,hc]; rfl
def zgX(fg:List (Nat × Nat)):Bool:=oJ (fg.map (·.2))
theorem UX:∀ (l:List (Nat × Nat)),oJ (l.map (·.2))=true->∀ a∈l,∀ b∈l,a.2=b.2->a=b
 | [],_,a,ha,_,_,_=>by cases ha
 | x::l,h,a,ha,b,hb,e=>by
  simp only [List.map_cons,oJ,WaG,Bool.not_eq_true',List.contains_eq_mem,decide_eq_false_iff_not] at h;rcases List.mem_cons.1 ha with ea | ha'
  ·grind
  ·rcases List.mem_cons.1 hb with eb | hb'
   ·grind
   ·exact UX l h.2 a ha' b hb' e
theorem zin{fg:List (Nat × Nat)}{rows:List Row}(h1:zgX fg=true)(h2:∀ r∈rows,(r.f,r.g)∈fg/\n8 P r.f=true/\Jr P (kO fg gl) r.h r.f=some r.c) :
  ∀ g c,dl rows g=some c->∀ f,kO fg gl f=some g->n8 P f=true/\∃ h,Jr P (kO fg gl) h f=some c:=by
 intro g c hT f hf;simp [dl] at hT;obtain ⟨r,hr,rfl⟩:=hT;have hm:=WbQ hr;have hg:r.g=g:=by grind
 simp only [kO,Wag] at hf;obtain ⟨x,hx,hx2⟩:=hf;have hxm:=WbQ hx;have hxf:x.1=f:=by grind
 obtain ⟨q1,q2,q3⟩:=h2 r hm;have e:=UX fg h1 _ q1 x hxm (by rw [hx2]; exact hg)
 grind
def zfT(P:Program)(aa:Rn)(f:FuncId):Prop:=n8 P f=true/\∀ n:Int,0<=n->n<=1000000000->PCall P aa f [.fr 1 [],.sc (.int .i64 n)] [] (.gs 1 []) []
def zit(P:Program)(aa:Rn)(sz bytes:Nat)(f:FuncId):Prop:=n8 P f=true/\∀ (n m:Nat) (i:Int) (cs vs:List V),ziv sz bytes n m i cs vs->PCall P aa f [.own 0 0 n sz,.sc (.int .i64 i),.own 1 0 m sz] [.live true cs,.live true vs] (.fr sz (zlK sz n m i.toNat cs vs)) [.dead cs.length,.live true vs]
theorem zi5(hg:∀ f,aa f=some 459->zfT P aa f)(hi:∀ f g sz bytes,aa f=some g->Zs g=some (sz,bytes)->zit P aa sz bytes f):rD P aa C4:=by
 intro g args bor r bor' h f hf;unfold C4 at h;split at h
 ·rename_i n;split at h
  ·rename_i hc;cases h;obtain ⟨rfl,h0,h1⟩:=hc;exact ⟨(hg f hf).1,(hg f hf).2 n h0 h1⟩
  ·cases h
 ·rename_i n s1 i m s2 cs vs;split at h
  ·rename_i sz bytes he;split at h
   ·rename_i hc;cases h;obtain ⟨rfl,rfl,hk⟩:=hc;obtain ⟨q1,q2⟩:=hi f g _ bytes hf he;exact ⟨q1,q2 n m i cs vs hk⟩
   ·cases h
  ·cases h
 ·cases h
theorem za1{fg:List (Nat × Nat)}{f g:Nat}(h:kO fg gl f=some g):(f,g)∈fg:=by
 simp only [kO,Wag] at h
 grind
theorem zjn{fg:List (Nat × Nat)}(h:fg.all (λe=>e.2 != 459)=true):∀ f,kO fg gl f=some 459->zfT P (kO fg gl) f:=by
 intro f hf;have:=Wbj.1 h _ (za1 hf);simp at this
theorem zlS{fg:List (Nat × Nat)}(h:fg.all (λe=>(Zs e.2).isNone)=true):∀ f g sz bytes,kO fg gl f=some g->Zs g=some (sz,bytes)->zit P (kO fg gl) sz bytes f:=by
 intro f g sz bytes hf hs;have:=Wbj.1 h _ (za1 hf);simp [hs] at this
theorem zjr{fg:List (Nat × Nat)}{rows:List Row}(hm:P.follows .mixedOrders=true)(h1:zgX fg=true)(hp:rD P (kO fg gl) C4)(h2:∀ r∈rows,(r.f,r.g)∈fg/\n8 P r.f=true/\Jr P (kO fg gl) r.h r.f=some r.c)(L d:Nat):rD P (kO fg gl) (wR (evF (dl rows) C4 L d)):=
 W8 (zfX (zin h1 h2) hp (zly hm) d)
end
section
open Go.ChangeShapes Go.WideShapes Go.RowKit Go.Deep
variable {v:V}
inductive CT where
 | int (k:IntKind)
 | bool
 | str
 | sl (cs:List CT)
variable {ct:CT}
inductive HasC:CT->V->Prop
 | int (k:IntKind) (n:Int) (h:(Lit.int k n).wf=true):HasC (.int k) (.sc (.int k n))
 | bool (b:Bool):HasC .bool (.sc (.bool b))
 | str (s:ByteArray) (h:s.size<=maxLen):HasC .str (.sc (.string s))
 | sl (cs:List CT) (es:Ls) (hl:es.length<=maxLen) (h0:∀ e∈es,e.length=cs.length) (h:∀ e∈es,∀ (i:Nat) (c:V) (ct:CT),e[i]?=some c->cs[i]?=some ct->HasC ct c):HasC (.sl cs) (.sl cs.length es)
def HasRow(cts:List CT)(vs:List V):Prop:=vs.length=cts.length/\∀ (i:Nat) (c:V) (ct:CT),vs[i]?=some c->cts[i]?=some ct->HasC ct c
def PT(f:TypeId->Option (List CT))(size:TypeId->Nat):List Field->Nat->Option (List CT)
 | [],_=>some []
 | x::xs,off=>do
  let a <- f x.type
  if x.offset=off/\size x.type=a.length then
   let b <- PT f size xs (off+a.length)
   some (a++b)
  else none
def GA(P:Program):Nat->TypeId->Option (List CT)
 | 0,_=>none
 | d+1,t=>match P.underlying t with
  | some .bool=>some [.bool]
  | some (.int k)=>some [.int k]
  | some .string=>some [.str]
  | some (.slice e)=>do
   let c <- GA P d e
   if P.cellsOf e=c.length/\0<c.length then some [.sl c] else none
  | some (.array n e)=>do
   let c <- GA P d e
   if P.cellsOf e=c.length/\P.cellsOf t=n*c.length then some (Wad n c).flatten else none
  | some (.struct fs)=>do
   let c <- PT (GA P d) P.cellsOf fs.toList 0
   if P.cellsOf t=c.length then some c else none
  | _=>none
section
variable {H:Type} {enc:TypeId × Value->H} {P:Program} {w:World} {base:Nat} {spare:Nat->Bool} {held:Bool} {aa:Rn}
def RdC(aa:Rn)(w:World)(cts:List CT)(cs:List Value)(vs:List V):Prop:=
 cs.length=cts.length/\vs.length=cts.length/\∀ (i:Nat) (u:Value) (v:V) (ct:CT),cs[i]?=some u->vs[i]?=some v->cts[i]?=some ct->u.oneCell'=true/\RepP aa w Ba v u/\HasC ct v
theorem RdC.one{u:Value}(h1:u.oneCell'=true)(h2:RepP aa w Ba v u)(h3:HasC ct v):RdC aa w [ct] [u] [v]:=by
 refine ⟨rfl,rfl,λi u' v' ct' hu hv hc=>?_⟩
 grind
theorem RdC.nil:RdC aa w [] [] []:=⟨rfl,rfl,λi u v ct h=>by simp at h⟩
theorem RdC.app{c1 c2:List CT}{a1 a2:List Value}{b1 b2:List V}(h1:RdC aa w c1 a1 b1)(h2:RdC aa w c2 a2 b2):RdC aa w (c1++c2) (a1++a2) (b1++b2):=by
 obtain ⟨l1,m1,q1⟩:=h1;obtain ⟨l2,m2,q2⟩:=h2;refine ⟨by simp [l1,l2],by simp [m1,m2],λi u v ct hu hv hc=>?_⟩
 grind
theorem RdC.row{cts:List CT}{cs:List Value}{vs:List V}(h:RdC aa w cts cs vs):HasRow cts vs:=by
 refine ⟨h.2.1,λi c ct hc ht=>?_⟩;have hlt:i<cs.length:=by rw [h.1,<- h.2.1]; grind
 exact (h.2.2 i _ c ct (Wac hlt) hc ht).2.2
theorem Oo{f:TypeId->Option (List CT)}{size:TypeId->Nat}{cs:List Value}(rd:∀ (t:TypeId) (cts:List CT),f t=some cts->∀ x∈([]:List Nat),True) :
  ∀ (fs:List Field) (off:Nat) (cts:List CT),PT f size fs off=some cts->(∀ x∈fs,∀ a,f x.type=some a->∃ vs,RdC aa w a ((cs.drop x.offset).take (size x.type)) vs)->∃ vs,RdC aa w cts ((cs.drop off).take cts.length) vs
 | [],off,cts,h,_=>by
  cases h;exact ⟨[],by simpa using RdC.nil⟩
 | x::xs,off,cts,h,H=>by
  simp only [PT,Wab,Waa] at h;obtain ⟨a,ha,h⟩:=h;split at h
  ·rename_i hc;simp [Waa] at h;obtain ⟨b,hb,rfl⟩:=h;obtain ⟨vs1,r1⟩:=H x (by simp) a ha;obtain ⟨vs2,r2⟩:=Oo rd xs _ b hb (λy hy=>H y (by simp [hy]));refine ⟨vs1++vs2,?_⟩;have e:(cs.drop off).take (a++b).length=(cs.drop x.offset).take (size x.type)++(cs.drop (off+a.length)).take b.length:=by
    rw [hc.1,hc.2,List.length_append,List.take_add,List.drop_drop]
   rw [e];exact r1.app r2
  ·cases h
theorem Rj{cs:List Value}{c:List CT}:∀ (n m:Nat),(∀ i,i<n->∃ vs,RdC aa w c ((cs.drop ((m+i)*c.length)).take c.length) vs)->∃ vs,RdC aa w (Wad n c).flatten ((cs.drop (m*c.length)).take (n*c.length)) vs
 | 0,m,H=>⟨[],by simpa using RdC.nil⟩
 | n+1,m,H=>by
  obtain ⟨vs1,r1⟩:=H 0 (by omega);obtain ⟨vs2,r2⟩:=Rj n (m+1) (λi hi=>by
   obtain ⟨vs,r⟩:=H (i+1) (by omega);exact ⟨vs,by rw [show m+1+i=m+(i+1) by omega]; exact r⟩)
  refine ⟨vs1++vs2,?_⟩;have e:(cs.drop (m*c.length)).take ((n+1)*c.length)=(cs.drop ((m+0)*c.length)).take c.length++(cs.drop ((m+1)*c.length)).take (n*c.length):=by
   rw [Nat.add_zero,Nat.add_mul n,Nat.one_mul,Nat.add_comm (n*c.length),List.take_add,List.drop_drop,show (m+1)*c.length=m*c.length+c.length by rw [Nat.add_mul,Nat.one_mul]];rw [show m+0=m from rfl]
  grind [RdC.app]
theorem GK{α:Type}{n:Nat}:∀ (es:List (List α)),(∀ e∈es,e.length=n)->0<n->∀ (i:Nat),es.flatten[i]?=(es[i / n]?).bind (λe=>e[i % n]?)
 | [],_,_,i=>by simp
 | e::es,h,hn,i=>by
  have he:=h e (by simp);rw [List.flatten_cons];by_cases hi:i<n
  ·rw [List.getElem?_append_left (by omega),Nat.div_eq_of_lt hi,Nat.mod_eq_of_lt hi]; simp
  ·rw [List.getElem?_append_right (by omega),GK es (λx hx=>h x (by simp [hx])) hn,he];obtain ⟨j,rfl⟩:∃ j,i=j+n:=⟨i-n,by omega⟩;rw [Nat.add_sub_cancel,Nat.add_div_right _ hn,Nat.add_mod_right];simp
theorem LP:∀ (d:Nat) (t:TypeId) (cts:List CT),GA P d t=some cts->∀ (fuel:Nat) (cs:List Value) (x:DataW H × List MemPlace),DataW.trod enc P w base spare held fuel t cs=some x->∃ vs,RdC aa w cts cs vs
 | 0,t,cts,h,fuel,cs,x,hx=>by cases h
 | d+1,t,cts,h,fuel,cs,x,hx=>by
  unfold GA at h;split at h
  ·rename_i ht;cases h;obtain ⟨b,rfl,_⟩:=DataW.trod_bool ht hx;exact ⟨[.sc (.bool b)],.one rfl (.sc _ rfl) (.bool b)⟩
  ·rename_i k ht;cases h;obtain ⟨n,rfl,_,hw⟩:=DataW.trod_int ht hx;exact ⟨[.sc (.int k n)],.one rfl (.sc _ rfl) (.int k n hw)⟩
  ·rename_i ht;cases h;obtain ⟨s,rfl,_,hw⟩:=DataW.trod_string ht hx;exact ⟨[.sc (.string s)],.one rfl (.sc _ rfl) (.str s hw)⟩
  ·rename_i e ht;simp only [Wab,Waa] at h;obtain ⟨c,hc,h⟩:=h;split at h
   ·rename_i hsz;obtain ⟨hsz,hpos⟩:=hsz;cases h;rcases open_slice ht hx with ⟨rfl,_⟩ | ⟨a,len,cap,m,n,D,Pl,rfl,_,hl,hm,hmm,_,hi⟩
    ·refine ⟨[.sl c.length []],.one rfl (.sl _ [] none 0 (λ_=>undef) (Nat.le_refl _) (by simp) 0 0 (by simp) (by simp) (by simp) (by simp)) (.sl c [] (by simp) (by simp) (by simp))⟩
    ·have hlm:len<=m:=by rw [hmm]; split <;> omega
     have each:∀ i,i<len->∃ (us:List Value) (vs:List V),RdC aa w c us vs/\∀ j,j<c.length->w.cell? ((a.add (i*c.length)).add j)=us[j]?:=by
      intro i hil;obtain ⟨cs',h1,h2⟩:=hi i (by omega);rw [hsz] at h1;obtain ⟨_,hcl,hat⟩:=World.cells?_some h1;obtain ⟨vs,r⟩:=LP d e c hc _ _ _ h2;exact ⟨cs',vs,r,hat⟩
     have hex:∃ (us:Nat->List Value) (vs:Nat->List V),∀ i,i<len->RdC aa w c (us i) (vs i)/\∀ j,j<c.length->w.cell? ((a.add (i*c.length)).add j)=(us i)[j]?:=by
      have:∀ i,∃ p:List Value × List V,i<len->RdC aa w c p.1 p.2/\∀ j,j<c.length->w.cell? ((a.add (i*c.length)).add j)=p.1[j]?:=by
       intro i;by_cases hil:i<len
       ·obtain ⟨us,vs,q⟩:=each i hil; exact ⟨(us,vs),λ_=>q⟩
       ·exact ⟨([],[]),λh=>absurd h hil⟩
      refine ⟨λi=>(Classical.choose (this i)).1,λi=>(Classical.choose (this i)).2,λi hil=>Classical.choose_spec (this i) hil⟩
     obtain ⟨us,vs,hrow⟩:=hex;have hget:∀ i,i<len->((Waq len).map vs)[i]?=some (vs i):=λi hil=>by simp [hil]
     have hsz2:∀ e∈(Waq len).map vs,e.length=c.length:=by
      intro e he;obtain ⟨i,hil,rfl⟩:=WbX.1 he;exact (hrow i (WbP.1 hil)).1.2.1
     have cell:∀ (i:Nat) (v:V),((Waq len).map vs).flatten[i]?=some v->0<c.length/\i / c.length<len/\(vs (i / c.length))[i % c.length]?=some v/\∃ u,(us (i / c.length))[i % c.length]?=some u/\u.oneCell'=true/\RepP aa w Ba v u/\w.cell? ((a.add (i / c.length*c.length)).add (i % c.length))=some u:=by
      intro i v hv;have hpos:0<c.length:=by
       rcases Nat.eq_zero_or_pos c.length with h0 | h0
       ·have:((Waq len).map vs).flatten=[]:=by
         rw [List.flatten_eq_nil_iff];intro l hl';exact WaT.1 ((hsz2 l hl').trans h0)
        rw [this] at hv; simp at hv
       ·exact h0
      rw [GK _ hsz2 hpos] at hv;have hlt:i / c.length<len:=by
       cases hq:((Waq len).map vs)[i / c.length]? with
       | none=>rw [hq] at hv; simp at hv
       | some e=>have:=(Wam.1 hq).1; simpa using this
      rw [hget _ hlt] at hv;have hv:(vs (i / c.length))[i % c.length]?=some v:=hv;have hr:=hrow _ hlt;have hm:=Nat.mod_lt i hpos;have hu:(us (i / c.length))[i % c.length]?=some ((us (i / c.length))[i % c.length]'(by rw [hr.1.1]; exact hm)):=Wac _;obtain ⟨q1,q2,q3⟩:=hr.1.2.2 _ _ _ _ hu hv (Wac hm);exact ⟨hpos,hlt,hv,_,hu,q1,q2,by rw [hr.2 _ hm]; exact hu⟩
     have spot:((Waq len).map vs).flatten≠[]->a.spot=none:=by
      intro hne;have hl0:0<((Waq len).map vs).flatten.length:=List.length_pos_iff.2 hne;obtain ⟨_,_,_,u,_,_,_,hcell⟩:=cell 0 _ (Wac hl0);have hcell:w.cell? a=some u:=by simpa [Addr.add] using hcell
      unfold World.cell? at hcell;split at hcell
      ·split at hcell
       ·cases hcell
       ·rename_i hs; simpa using hs
      ·cases hcell
     have addr:((Waq len).map vs).flatten≠[]->a=⟨a.block,a.off,none⟩:=by
      intro hne;have:=spot hne;cases a; simp_all
     have addto:∀ i v,((Waq len).map vs).flatten[i]?=some v->(a.add (i / c.length*c.length)).add (i % c.length)=⟨a.block,a.off+i,none⟩:=by
      intro i v hv;have hne:((Waq len).map vs).flatten≠[]:=by intro h0; rw [h0] at hv; simp at hv
      rw [addr hne,mB,mB];have:=Nat.div_add_mod i c.length;rw [Nat.mul_comm] at this;show (⟨a.block,a.off+i / c.length*c.length+i % c.length,none⟩:Addr)=⟨a.block,a.off+i,none⟩;congr 1; omega
     have hcap:len<=maxLen:=by omega
     have hlen:((Waq len).map vs).length=len:=by simp
     have rp:RepP aa w Ba (.sl c.length ((Waq len).map vs)) (.slice (some a) ((Waq len).map vs).length cap):=by
      by_cases hne:((Waq len).map vs).flatten=[]
      ·
       have:(Waq len).map vs=[]:=by
        cases hes:(Waq len).map vs with
        | nil=>rfl
        | cons e es=>
         have h1:=hsz2 e (by rw [hes]; simp);rw [hes,List.flatten_cons,List.append_eq_nil_iff] at hne;rw [hne.1] at h1;simp at h1; omega
       rw [this];exact .sl _ [] (some a) cap (λ_=>undef) (Nat.zero_le _) (by simp) 0 0 (by simp) (by simp) (by simp) (by simp)
      ·refine .sl _ _ (some a) cap (λi=>(w.cell? ⟨a.block,a.off+i,none⟩).getD undef) (by rw [hlen]; exact hl) hsz2 a.block a.off (λ_=>by rw [<- addr hne]) (λi v hv=>?_) (λi v hv=>?_) (λi v hv=>?_) <;>
        (obtain ⟨hpos,hlt,hv',u,hu,q1,q2,hcell⟩:=cell i v hv
         rw [addto i v hv] at hcell;simp only [hcell,WbN])
       ·exact ⟨λh=>h,trivial⟩
       ·exact q1
       ·exact q2
     refine ⟨[.sl c.length ((Waq len).map vs)],.one rfl (by rw [hlen] at rp; exact rp) (.sl c _ (by rw [hlen]; exact hcap) hsz2 (λe he i v ct hv hct=>?_))⟩;obtain ⟨q,hq,rfl⟩:=WbX.1 he;exact (hrow q (WbP.1 hq)).1.row.2 i v ct hv hct
   ·cases h
  ·rename_i n e ht;simp only [Wab,Waa] at h;obtain ⟨c,hc,h⟩:=h;split at h
   ·rename_i hsz;cases h;obtain ⟨xs,m,_,_,hl,hxl,hi⟩:=DataW.trod_array ht hx;have:=Rj (aa:=aa) (w:=w) (cs:=cs) (c:=c) n 0 (λi hin=>by
     have:=hi i hin;rw [Wac (by omega)] at this;rw [hsz.1] at this;obtain ⟨vs,r⟩:=LP d e c hc _ _ _ this;exact ⟨vs,by rw [Wau]; exact r⟩)
    rw [Nat.zero_mul,List.drop_zero,WbR (by omega)] at this;exact this
   ·cases h
  ·rename_i fs ht;simp only [Wab,Waa] at h;obtain ⟨c,hc,h⟩:=h;split at h
   ·rename_i hsz;cases h;obtain ⟨xs,m,_,_,hl,hxl,hi⟩:=DataW.trod_struct ht hx;have:=Oo (aa:=aa) (w:=w) (cs:=cs) (λ_ _ _ _ h=>by cases h) fs.toList 0 cts hc (λy hy a ha=>by
     obtain ⟨i,hil,rfl⟩:=List.getElem_of_mem hy;have hil':i<fs.size:=by simpa using hil
     have:=hi i fs[i] (Wbp hil');rw [Wac (by omega)] at this;exact LP d _ a ha _ _ _ (by simpa using this))
    rw [List.drop_zero,WbR (by omega)] at this;exact this
   ·cases h
  ·cases h
theorem zjf{r:Reach}{b0:Nat}{t:TypeId}{v:Value}{dd:DataW H}{p:List MemPlace}{d:Nat}(hv1:v.cells=#[v])(h:DataW.Trod enc P w base spare held t v dd p)(hc:GA P d t=some [ct]) :
  ∃ x,HasC ct x/\RepP aa w Ba x v:=by
 obtain ⟨fuel,hf⟩:=h;obtain ⟨vs,rd⟩:=LP (aa:=aa) d t [ct] hc _ _ _ hf;rw [hv1] at rd;have hl:vs.length=1:=rd.2.1;obtain ⟨x,rfl⟩:∃ x,vs=[x]:=by
  match vs,hl with
  | [x],_=>exact ⟨x,rfl⟩
 obtain ⟨q1,q2,q3⟩:=rd.2.2 0 v x ct rfl rfl rfl;exact ⟨x,q3,q2⟩
theorem HasC.bI{k:IntKind}(h:HasC (.int k) v):∃ n,v=.sc (.int k n)/\(Lit.int k n).wf=true:=by
 cases h with | int _ n h=>exact ⟨n,rfl,h⟩
theorem HasC.aV{cs:List CT}(h:HasC (.sl cs) v):∃ es,v=.sl cs.length es/\es.length<=maxLen/\∀ e∈es,HasRow cs e:=by
 cases h with | sl _ es hl h0 h=>exact ⟨es,rfl,hl,λe he=>⟨h0 e he,h e he⟩⟩
end
def PJ:V->Bor->Option Bool:=λv _=>match v with
 | .sc (.bool true)=>some true
 | _=>none
theorem zgc{b:Bor}(h:PJ v b=some true):v=.sc (.bool true):=by
 grind [PJ]
end
section
def hi0(n:Nat):Nat:=n
def hi1(n:Nat):Nat:=hi0 n
def hi2(n:Nat):Nat:=hi1 n
def hi3(n:Nat):Nat:=hi2 n
def hi4(n:Nat):Nat:=hi3 n
def hi5(n:Nat):Nat:=hi4 n
def hi6(n:Nat):Nat:=hi5 n
def hi7(n:Nat):Nat:=hi6 n
def hi8(n:Nat):Nat:=hi7 n
def hi9(n:Nat):Nat:=hi8 n
def zmA(n:Nat):Nat:=hi9 n
def zmr(n:Nat):Nat:=zmA n
def zmx(n:Nat):Nat:=zmr n
def zmt(n:Nat):Nat:=zmx n
def zmB(n:Nat):Nat:=zmt n
def zmq(n:Nat):Nat:=zmB n
def zmK(n:Nat):Nat:=zmq n
def zmC(n:Nat):Nat:=zmK n
def zmF(n:Nat):Nat:=zmC n
def zms(n:Nat):Nat:=zmF n
def zmz(n:Nat):Nat:=zms n
def zmG(n:Nat):Nat:=zmz n
def zmJ(n:Nat):Nat:=zmG n
def zmH(n:Nat):Nat:=zmJ n
def W1(n:Nat):Nat:=zmH n
section
variable {Y:Type}
def chk(p:Prop)[inst:Decidable p](k:Option Y):Option Y:=(λ(_:Nat->Nat)=>match inst with
 | .isTrue _=>k
 | .isFalse _=>none) hi0
theorem qh(p:Prop)[inst:Decidable p](k:Option Y):chk p k=if p then k else none:=by
 cases inst <;> rfl
def ifb(t:Bool)(a b:Option Y):Option Y:=(λ(_:Nat->Nat)=>match t with
 | true=>a
 | false=>b) hi0
def lt{α:Type}(a:α)(k:α->Option Y):Option Y:=k a
def aI(kd:IntKind)(v:V)(k:Int->Option Y):Option Y:=match v with
 | .sc (.int kd' n)=>chk (kd'=kd) (k n)
 | _=>none
def FD(v:V)(k:Int->Option Y):Option Y:=(λ(_:Nat->Nat)=>match v with
 | .sc (.int _ n)=>k n
 | _=>none) hi0
def aB(v:V)(k:Bool->Option Y):Option Y:=(λ(_:Nat->Nat)=>match v with
 | .sc (.bool b)=>k b
 | _=>none) hi0
def aS(v:V)(k:ByteArray->Option Y):Option Y:=(λ(_:Nat->Nat)=>match v with
 | .sc (.string s)=>k s
 | _=>none) hi0
def aL(sz:Nat)(v:V)(k:Ls->Option Y):Option Y:=match v with
 | .sl sz' es=>chk (sz'=sz) (k es)
 | _=>none
def aLd(sz:Nat)(v:V)(k:Ls->Option Y):Option Y:=match v with
 | .sl sz' es=>chk (sz'=sz) (k es)
 | .gs sz' es=>chk (sz'=sz) (k es)
 | _=>none
def aGw(sz:Nat)(v:V)(k:Ls->Option Y):Option Y:=match v with
 | .gs sz' es=>chk (sz'=sz) (k es)
 | _=>none
def aG(v:V)(k:List V->Option Y):Option Y:=(λ(_:Nat->Nat)=>match v with
 | .agg cs=>k cs
 | _=>none) hi0
def aGs(sz:Nat)(v:V)(k:Ls->Option Y):Option Y:=match v with
 | .gs sz' es=>chk (sz'=sz) (k es)
 | _=>none
def aP(id off:Nat)(v:V)(k:Option Y):Option Y:=match v with
 | .ptr i o=>chk (i=id/\o=off) (k)
 | _=>none
def aO0(id sz:Nat)(v:V)(k:Nat->Option Y):Option Y:=match v with
 | .own i o l s=>chk (i=id/\s=sz/\o=0) (k l)
 | _=>none
def PZ:List (Nat × Nat)->List V->Bool
 | [],[]=>true
 | (i,o)::r,.ptr a b::s=>Wae i a&&(Wae o b&&PZ r s)
 | _,_=>false
def aF(f:Nat)(caps:List (Nat × Nat))(v:V)(k:Option Y):Option Y:=match v with
 | .fn g cs=>match Wae f g&&PZ caps cs with
  | true=>k
  | false=>none
 | _=>none
def pf(cs:List V)(off:Nat)(k:V->Option Y):Option Y:=match cs[off]? with
 | some v=>k v
 | none=>none
def idx(es:Ls)(j:Int)(k:List V->Option Y):Option Y:=chk (0<=j) (match es[j.toNat]? with
 | some c=>k c
 | none=>none)
def eqC(n:Nat)(a b:List V)(k:Bool->Option Y):Option Y:=chk (a.length=n/\b.length=n) (match j5 a b with
 | some r=>k r
 | none=>none)
def yp(es:Ls)(k:ByteArray->Option Y):Option Y:=match og es with
 | some l=>k ⟨l.toArray⟩
 | none=>none
def zdW(es fs:Ls)(k:Int->Option Y):Option Y:=match og es with
 | some a=>match og fs with
  | some b=>k (Lib.compareBytes a b)
  | none=>none
 | none=>none
def KL(cs:List V)(k:List V->Option Y):Option Y:=match cs.mapM V.plain with
 | some vs=>k vs
 | none=>none
def zel(cs:List V)(k:List V->Option Y):Option Y:=match cs.mapM V.aN with
 | some vs=>k vs
 | none=>none
def mAt(kd:Nat)(key:V)(es:Lm)(k:Option V->Option Y):Option Y:=match ue kd key with
 | true=>match DW key es with
  | some r=>k r
  | none=>none
 | false=>none
def zbc(kd:Nat)(key val:V)(es:Lm)(k:Lm->Option Y):Option Y:=match ue kd key with
 | true=>match RX key val es with
  | some r=>k r
  | none=>none
 | false=>none
def cI(kd:IntKind)(cs:List V)(off:Nat)(k:Int->Option Y):Option Y:=pf cs off (λv=>aI kd v k)
def cB(cs:List V)(off:Nat)(k:Bool->Option Y):Option Y:=pf cs off (λv=>aB v k)
def cL(sz:Nat)(cs:List V)(off:Nat)(k:Ls->Option Y):Option Y:=pf cs off (λv=>aL sz v k)
def cLd(sz:Nat)(cs:List V)(off:Nat)(k:Ls->Option Y):Option Y:=pf cs off (λv=>aLd sz v k)
end
def SG(k:IntKind)(a b:Int):Int:=a.fdiv (2 ^ (min b.toNat k.bits))
def HK(a b:Int):Int:=if b>a then b else a
def Hr(a b:Int):Int:=if b<a then b else a
inductive Sh where
 | any
 | int (k:IntKind)
 | bool
 | str
 | sl (sz:Nat)
 | gs (sz:Nat)
 | row (l:List Sh)
def asc{Y:Type}(s:Sh)(v:V)(k:V->Option Y):Option Y:=match s with
 | .any=>k v
 | .int kd=>aI kd v (λn=>k (.sc (.int kd n)))
 | .bool=>aB v (λb=>k (.sc (.bool b)))
 | .str=>aS v (λt=>k (.sc (.string t)))
 | .sl sz=>aL sz v (λes=>k (.sl sz es))
 | .gs sz=>aGw sz v (λes=>k (.gs sz es))
 | .row _=>none
def zhE{Y:Type}(s:Sh)(v:V)(k:V->Option Y):Option Y:=match s with
 | .gs sz=>aGw sz v (λes=>k (.gs sz es))
 | _=>k v
def zkG{Y:Type}(s:Sh)(v:V)(k:V->Option Y):Option Y:=match s with
 | .any=>k v.ag
 | .int kd=>aI kd v (λn=>k (.sc (.int kd n)))
 | .bool=>aB v (λb=>k (.sc (.bool b)))
 | .str=>aS v (λt=>k (.sc (.string t)))
 | .sl sz=>aLd sz v (λes=>k (.sl sz es))
 | .gs sz=>aLd sz v (λes=>k (.sl sz es))
 | .row _=>none
def zaB{Y:Type}:List Sh->Nat->List V->(List V->Option Y)->Option Y
 | [],_,_,k=>k []
 | s::ss,i,cs,k=>pf cs i λv=>asc s v λv=>zaB ss (i+1) cs λr=>k (v::r)
def PL{Y:Type}(s:Sh)(cs:List V)(k:List V->Option Y):Option Y:=match s with
 | .row ss=>chk (cs.length=ss.length) (zaB ss 0 cs k)
 | _=>k cs
abbrev CBC:=∀ (Y:Type),Nat->List V->Bor->(V->Bor->Option Y)->Option Y
section
variable {Y:Type}
abbrev xP(o:Option St)(κ:St->Option Y):Option Y:=match o with
 | some Z=>κ Z
 | none=>none
def ltV(v:Value)(k:Value->Option Y):Option Y:=match v with
 | .int kd n=>lt n λn=>k (.int kd n)
 | v=>k v
def ziw:V->V
 | .gs sz _=>.gs sz []
 | .sl sz _=>.sl sz []
 | v=>v
def zdh(t:Bool)(a b:V)(k:V->Option Y):Option Y:=match a,b with
 | .sc (.bool x),.sc (.bool y)=>k (.sc (.bool (cond t x y)))
 | .sc (.int kd x),.sc (.int kd' y)=>chk (kd=kd') (lt (cond t x y) (λn=>k (.sc (.int kd n))))
 | a,b=>ifb t (k a) (k b)
def Uu(Z:St):List (Nat × Nat × Src)->List V->(List V->Option Y)->Option Y
 | [],cs,k=>k cs
 | (off,n,x)::rest,cs,k=>match (x.get Z).plain with
  | some v=>chk (v.cells.length=n/\off+n<=cs.length) (Uu Z rest (cq cs off v.cells) k)
  | none=>none
def zaq:List (Nat × Nat × Src)->Bool
 | []=>false
 | p::l=>match Nat.blt 1 p.2.1 with
  | true=>true
  | false=>zaq l
def ziu(b:Bool)(cs:List V)(k:List V->Option Y):Option Y:=(λ(_:Nat->Nat)=>match b with
 | true=>lt cs k
 | false=>k cs) hi0
def Pk(sh:Nat->Sh)(Z:St):List (Nat × Nat × Src)->List V->(List V->Option Y)->Option Y
 | [],cs,k=>k cs
 | (off,n,x)::rest,cs,k=>match x.get Z with
  | .agg us=>PL (sh ((x.slot).getD 0)) us λus=>chk (us.length=n/\off+n<=cs.length) (Pk sh Z rest (cq cs off us) k)
  | v=>match v.aN with
   | some v=>chk (v.cells.length=n/\off+n<=cs.length) (Pk sh Z rest (cq cs off v.cells) k)
   | none=>none
def zgY(op:BinOp)(x y:Value)(k:Value->Option Y):Option Y:=
 match op,x,y with
 | .shl,.int kd a,.int _ b=>chk (0<=b) (k (.int kd (kd.wrap (a*2 ^ (min b.toNat kd.bits)))))
 | .shr,.int kd a,.int _ b=>chk (0<=b) (k (.int kd (a.fdiv (2 ^ (min b.toNat kd.bits)))))
 | .quo,.int kd a,.int kd' b=>chk (kd=kd') (chk (b≠0) (k (.int kd (kd.wrap (a.tdiv b)))))
 | .rem,.int kd a,.int kd' b=>chk (kd=kd') (chk (b≠0) (k (.int kd (a.tmod b))))
 | op,x,y=>match g8 op x y with
  | some r=>k r
  | none=>none
def Pg(Z:St)(x:Option Src)(dflt:Nat)(most:Nat)(k:Nat->Option Y):Option Y:=
 match x with
 | none=>k dflt
 | some s=>FD (s.get Z) λi=>chk (0<=i/\i<=most) (k i.toNat)
def GC(Z:St)(len:Nat)(lo hi mx:Option Src)(k:Nat->Nat->Nat->Option Y):Option Y:=
 Pg Z mx len len λm=>Pg Z hi len m λh=>Pg Z lo 0 h λl=>k l h m
def zjq(l h m id off sz:Nat)(k:V->Option Y):Option Y:=ifb (decide (m=l)) (k (.gs sz [])) (k (.own id (off+l*sz) (h-l) sz))
def y9(b:List B)(v:V)(k:V->Option Y):Option Y:=match i4 b v with
 | some u=>k u
 | none=>none
def Uy(sh:Sh)(cs:List V)(off:Nat)(k:V->Option Y):Option Y:=pf cs off (λv=>asc sh v k)
def zfI(sh:Sh)(cs:List V)(off:Nat)(k:V->Option Y):Option Y:=pf cs off (λv=>zkG sh v k)
def Zp(nb:Nat)(Z:St)(dst:Option Nat)(ah:Bool)(v:V)(κ:St->Option Y):Option Y:=match v with
 | .fr sz es=>match ah with
  | true=>xP (Z.aq nb dst true sz es) κ
  | false=>κ (Z.put dst (.gs sz es))
 | v=>xP (Z.au nb dst ah v) κ
def lc{α Y:Type}(l:List α)(a:Option Y)(b:α->List α->Option Y):Option Y:=match l with
 | []=>a
 | x::xs=>b x xs
def WN(b:List B)(id:Nat)(κ:List B->Option Y):Option Y:=match b[id]? with
 | some (.live true cs)=>ifb cs.isEmpty (κ b) (κ (b.set id (.fz cs)))
 | _=>κ b
def GF(Z:St):List (Src × Nat)->List B->(List B->Option Y)->Option Y
 | [],b,κ=>κ b
 | s::rest,b,κ=>match decide (2<=s.2) with
  | true=>GF Z rest b κ
  | false=>match gS (s.1.get Z) with
   | some id=>WN b id λb=>GF Z rest b κ
   | none=>GF Z rest b κ
def zej(b:List B)(v:V)(k:V->Option Y):Option Y:=match v with
 | .own id off len sz=>match b[id]? with
  | some (.fz cs)=>k (.sl sz (bY sz len (cs.drop off)))
  | some (.live _ [])=>chk (len=0) (k (.sl sz []))
  | _=>none
 | v=>match v.plain with
  | some u=>k u
  | none=>none
def UP(b:List B):List V->(List V->Option Y)->Option Y
 | [],k=>k []
 | v::vs,k=>zej b v λu=>UP b vs λus=>k (u::us)
def sV(nb:Nat):List Nat->St->(St->Option Y)->Option Y
 | [],Z,κ=>κ Z
 | d::fz,Z,κ=>match Nat.blt d 100000 with
  | true=>match Z.b[nb+d]? with
   | some (.live true cs)=>lc cs (sV nb fz { Z with b:=Z.b.set (nb+d) (.live true []) } κ) (λc cs=>sV nb fz { Z with b:=Z.b.set (nb+d) (.fz (c::cs)) } κ)
   | _=>sV nb fz Z κ
  | false=>match Z.b[nb+(d-100000)]? with
   | some (.live false cs)=>lc cs (sV nb fz { Z with b:=Z.b.set (nb+(d-100000)) (.live false []) } κ) (λc cs=>UP Z.b (c::cs) λvs=>sV nb fz { Z with b:=Z.b.set (nb+(d-100000)) (.fz vs) } κ)
   | some (.fz _)=>sV nb fz Z κ
   | _=>none
def PI(cb:CBC)(nb:Nat)(Z:St)(dst:Option Nat)(ah:Bool)(f:Nat)(args:List V)(srcs:List (Src × Nat))(xs:List Nat)(κ:St->Option Y):Option Y:=
 GF Z srcs Z.b λb1=>
 let σ1:St:={ Z with b:=b1 }
 let ids:=gZ σ1.b args
 match oh σ1.b ids ids with
 | none=>none
 | some bor=>cb Y f (args.map (lr (fD ids))) bor λr bor'=>
  let ids':=ids++(xs.map (nb+·)).take (bor'.length-ids.length)
  chk ((bor'.take ids.length).map B.len=bor.map B.len)
   (match decide (bor'.length=ids'.length)&&(args.all (λa=>(eg a).all ids.contains)&&(F5 r&&((o4 r).all (λk=>decide (k<ids'.length))&&(bor'.all (B.lend (Waq ids'.length))&&(ua (bor'.take ids.length) bor&&((bor'.drop ids.length).all B.isRow&&w7 σ1.b nb xs)))))) with
   | true=>Zp nb { σ1 with b:=iF (λk=>ids'.getD k 0) ids' bor' σ1.b } dst ah (rP (λk=>ids'.getD k 0) r) κ
   | false=>none)
def jr(sh:Nat->Sh)(cb:CBC)(nb:Nat)(Z:St)(dst:Option Nat)(ah:Bool)(k:K)(κ:St->Option Y):Option Y:=
 match k with
 | .pick c a b=>aB (c.get Z) λt=>zdh t (a.get Z).ag (b.get Z).ag λv=>κ (Z.put dst v)
 | .build zero parts=>Uu Z parts zero λcs=>ziu (zaq parts) cs λcs=>κ (Z.put dst (.agg cs))
 | .az zero parts=>Pk sh Z parts zero λcs=>κ (Z.put dst (.st cs))
 | .bo neg x=>match (x.get Z).ag with
  | .sl _ es=>match x with
   | .tmp t=>ifb es.isEmpty (lt { Z with t:=Z.t.set t (ziw (x.get Z)) } λZ=>κ (Z.put dst .ub)) (κ (Z.put dst (.sc (.bool neg))))
   | .const _=>none
  | _=>none
 | .un op x=>match x.get Z with
  | .sc a=>match JM op a with
   | some r=>ltV r λr=>κ (Z.put dst (.sc r))
   | none=>none
  | _=>none
 | .conv k x=>FD (x.get Z) λn=>lt (k.wrap n) λn=>κ (Z.put dst (.sc (.int k n)))
 | .adc sub x y c=>match x.get Z,y.get Z,c.get Z with
  | .sc (.int .u64 a),.sc (.int .u64 b),.sc (.int .u64 d)=>chk (d=0∨d=1) (lt (LT sub a b d) λs=>lt (MK sub a b d) λc=>κ (Z.put dst (.ae [.sc (.int .u64 s),.sc (.int .u64 c)])))
  | _,_,_=>none
 | .mm isMax x y=>match x.get Z,y.get Z with
  | .sc (.int k a),.sc (.int _ b)=>lt (if isMax then (if b>a then b else a) else (if b<a then b else a)) λn=>κ (Z.put dst (.sc (.int k n)))
  | _,_=>none
 | .copy sz d s=>match d.get Z with
  | .own id off len sz1=>y9 Z.b (s.get Z) λu=>match u with
   | .sl sz2 es=>match Z.b[id]? with
    | some (.live true cs)=>chk (sz1=sz/\sz2=sz) (lt (cq cs off (es.take (min es.length len)).flatten) λcs'=>κ ((Z.ab id (.live true cs')).put dst (.sc (.int .i64 ((min es.length len:Nat):Int)))))
    | _=>none
   | _=>none
  | _=>none
 | .box p x=>match x.get Z with
  | .st cs=>match p with
   | true=>none
   | false=>xP (Z.ao nb dst (.live false cs) (λid=>.ptr id 0)) κ
  | v=>match v.plain with
   | some v=>match p with
    | true=>xP (Z.ao nb dst (.live true v.cells) (λid=>.ptr id 0)) κ
    | false=>PL (sh (dst.getD 0)) v.cells λcs=>xP (Z.ao nb dst (.live false cs) (λid=>.ptr id 0)) κ
   | none=>none
 | .buildSlice sz n zero parts=>Uu Z parts (Wad n zero).flatten λcs=>match decide (n=0/\ah=true) with
  | true=>κ (Z.put dst (.fr sz []))
  | false=>xP (Z.aq nb dst ah sz (bY sz n cs)) κ
 | .bin op x y=>match x.get Z,y.get Z with
  | .sc a,.sc b=>zgY op a b λr=>ltV r λr=>κ (Z.put dst (.sc r))
  | _,_=>none
 | .aW neg n x y=>match x.get Z,y.get Z with
  | .agg a,.agg b=>eqC n a b λr=>κ (Z.put dst (.sc (.bool (if neg then !r else r))))
  | _,_=>none
 | .ofStr x=>match ah with
  | true=>none
  | false=>aS (x.get Z) λs=>κ (Z.put dst (.sl 1 (xc s)))
 | .toStr x=>y9 Z.b (x.get Z) λv=>match v with
  | .sl 1 es=>yp es λs=>κ (Z.put dst (.sc (.string s)))
  | _=>none
 | .bG x=>match x.get Z with
  | .own id off len sz=>match Z.b[id]? with
   | some (.fz cs)=>κ (Z.put dst (.sl sz (bY sz len (cs.drop off))))
   | some (.live true [])=>chk (len=0) (κ (Z.put dst (.sl sz [])))
   | _=>none
  | _=>none
 | .bk x y=>y9 Z.b (x.get Z) λu=>y9 Z.b (y.get Z) λv=>match u,v with
  | .sl 1 es,.sl 1 fs=>zdW es fs λn=>lt n λn=>κ (Z.put dst (.sc (.int .i64 n)))
  | _,_=>none
 | .makeSlice sz bytes zero l c=>FD (l.get Z) λl=>FD (c.get Z) λc=>
  match ah with
  | true=>chk (0<=l/\l<=c/\c.toNat*bytes<=cN/\c<=cN) (xP (Z.ao nb dst (.live true (Wad c.toNat zero).flatten) (λid=>.own id 0 l.toNat sz)) κ)
  | false=>chk (0<=l/\l<=c/\c.toNat*bytes<=cN/\c<=cN) (xP (Z.aq nb dst false sz (Wad l.toNat zero)) κ)
 | .ay n sz x lo hi mx=>GC Z n lo hi mx λl h m=>
  match x.get Z with
  | .ptr id off=>match Z.b[id]? with
   | some (.live _ cs)=>chk (off+n*sz<=cs.length) (zjq l h m id off sz λv=>κ (Z.put dst v))
   | some (.fz cs)=>chk (off+n*sz<=cs.length) (ifb (decide (m=l)) (κ (Z.put dst (.gs sz []))) (κ (Z.put dst (.sl sz (bY sz (h-l) (cs.drop (off+l*sz)))))))
   | _=>none
  | .fp q cs=>chk (n*sz<=q) (κ (Z.put dst (.sl sz (bY sz (h-l) (cs.drop (l*sz))))))
  | _=>none
 | .aT sz x lo hi mx=>match (x.get Z).ag with
  | .sl sz' es=>GC Z es.length lo hi mx λl h m=>
   chk (sz=sz') (match mx with
    | none=>κ (Z.put dst (.sl sz ((es.drop l).take (h-l))))
    | some _=>ifb (decide (m=l)) (κ (Z.put dst (.fr sz []))) (κ (Z.put dst (.sl sz ((es.drop l).take (h-l))))))
  | .own id off len sz'=>GC Z len lo hi mx λl h m=>chk (sz=sz') (match mx with
    | none=>κ (Z.put dst (.own id (off+l*sz) (h-l) sz))
    | some _=>ifb (decide (m=l)) (κ (Z.put dst (.fr sz []))) (κ (Z.put dst .af)))
  | .cut id off _ cap sz'=>match hi with
   | some _=>match mx with
    | none=>GC Z cap lo hi none λl h _=>chk (sz=sz') (κ (Z.put dst (.own id (off+l*sz) (h-l) sz)))
    | some _=>none
   | none=>none
  | _=>none
 | .aY sz x hi=>match x.get Z with
  | .own id off len sz'=>match hi with
   | some _=>GC Z len none hi none λ_ h _=>chk (sz=sz') (κ (Z.put dst (.cut id off h len sz)))
   | none=>none
  | _=>none
 | .aD sz x hi mx=>match (x.get Z).ag with
  | .sl sz' es=>FD (hi.get Z) λh=>FD (mx.get Z) λm=>chk (D0=true/\sz=sz') (chk (0<=h/\h<=((es.length:Nat):Int)/\h=m) (κ (Z.put dst (.gs sz (es.take h.toNat)))))
  | _=>none
 | .field agg o n x=>match x.get Z with
  | .agg cs=>match agg with
   | true=>κ (Z.put dst (.agg ((cs.drop o).take n)))
   | false=>Uy (sh (dst.getD 0)) cs o λv=>κ (Z.put dst v)
  | .st cs=>match agg with
   | true=>none
   | false=>match cs[o]? with
    | some v=>κ (Z.put dst v)
    | none=>none
  | _=>none
 | .al len sz x i=>FD (i.get Z) λj=>chk (0<=j/\j<len) (match x.get Z with
   | .ptr id off=>κ (Z.put dst (.ptr id (off+j.toNat*sz)))
   | .fp n cs=>chk (len*sz<=n) (κ (Z.put dst (.fp (n-j.toNat*sz) (cs.drop (j.toNat*sz)))))
   | _=>none)
 | .aj sz x i=>FD (i.get Z) λj=>match (x.get Z).ag with
   | .sl sz' es=>chk (sz=sz') (idx es j λc=>κ (Z.put dst (.fp sz c)))
   | .own id off len sz'=>chk (sz=sz') (chk (0<=j/\j<len) (κ (Z.put dst (.ptr id (off+j.toNat*sz)))))
   | _=>none
 | .bq n sz x=>match (x.get Z).ag with
   | .sl sz' es=>chk (sz=sz') (chk (0<n) (chk (n<=es.length) (κ (Z.put dst (.fp (n*sz) (es.take n).flatten)))))
   | .own id off len sz'=>chk (sz=sz') (chk (0<n) (chk (n<=len) (κ (Z.put dst (.ptr id off)))))
   | _=>none
 | .aR agg len sz x i=>FD (i.get Z) λj=>chk (0<=j/\j<len) (match x.get Z with
   | .agg cs=>match agg with
    | true=>κ (Z.put dst (.agg ((cs.drop (j.toNat*sz)).take sz)))
    | false=>Uy (sh (dst.getD 0)) cs (j.toNat*sz) λv=>κ (Z.put dst v)
   | _=>none)
 | .load agg n a take=>match a.get Z with
  | .ptr id off=>match Z.b[id]? with
   | some (.live p cs)=>match agg with
    | true=>chk (off+n<=cs.length) (match p with
     | true=>κ (Z.put dst (.agg ((cs.drop off).take n)))
     | false=>match take with
      | true=>zel ((cs.drop off).take n) λvs=>κ (Z.put dst (.st vs))
      | false=>KL ((cs.drop off).take n) λvs=>κ (Z.put dst (.agg vs)))
    | false=>match take with
     | true=>match p with
      | true=>none
      | false=>pf cs off λv=>zhE (sh (dst.getD 0)) v λv=>κ ((Z.ab id (.live p (cs.set off v.ag))).put dst v.tk)
     | false=>zfI (sh (dst.getD 0)) cs off λv=>κ (Z.put dst v)
   | some (.fz cs)=>match agg with
    | true=>chk (off+n<=cs.length) (κ (Z.put dst (.agg ((cs.drop off).take n))))
    | false=>Uy (sh (dst.getD 0)) cs off λv=>κ (Z.put dst v)
   | _=>none
  | .fp m cs=>match agg with
   | true=>chk (n<=m) (κ (Z.put dst (.agg (cs.take n))))
   | false=>Uy (sh (dst.getD 0)) cs 0 λv=>κ (Z.put dst v)
  | _=>none
 | .store n a x=>match dst with
  | some _=>none
  | none=>match a.get Z with
   | .ptr id off=>match Z.b[id]? with
    | some (.live true cs)=>match (x.get Z).plain with
     | some v=>chk (v.cells.length=n/\off+n<=cs.length) (lt (cq cs off v.cells) λcs'=>κ (Z.ab id (.live true cs')))
     | none=>none
    | some (.live false cs)=>match x.get Z with
     | .agg us=>PL (sh ((x.slot).getD 0)) us λus=>chk (us.length=n/\off+n<=cs.length) (κ (Z.ab id (.live false (cq cs off us))))
     | .st us=>chk (us.length=n/\off+n<=cs.length) (κ (Z.ab id (.live false (cq cs off us))))
     | .ae _=>none
     | .bx _ _=>none
     | .af=>none
     | v=>chk (n=1/\off<cs.length) (κ ((Z.ac x).ab id (.live false (cs.set off v))))
    | _=>none
   | _=>none
 | .append sz bytes s x=>match s.get Z with
  | .gs sz1 es=>y9 Z.b (x.get Z) λu=>match u with
   | .sl sz2 es2=>chk (sz1=sz/\sz2=sz) (chk ((es.length+es2.length)*bytes<=cN/\es.length+es2.length<=cN) (match ah with
    | true=>match s,es with
     | .const _,[]=>xP (Z.aq nb dst true sz es2) κ
     | _,_=>none
    | false=>lt (es++es2) λes'=>κ ((Z.ac s).put dst (.gs sz es'))))
   | _=>none
  | .fr sz1 []=>y9 Z.b (x.get Z) λu=>match u with
   | .sl sz2 es2=>chk (sz1=sz/\sz2=sz) (chk ((0+es2.length)*bytes<=cN/\0+es2.length<=cN) (xP ((Z.ac s).aq nb dst ah sz es2) κ))
   | _=>none
  | .own id off len sz1=>y9 Z.b (x.get Z) λu=>match u with
   | .sl sz2 es2=>match Z.b[id]? with
    | some (.live true cs)=>chk (sz1=sz/\sz2=sz/\off=0) (chk ((len+es2.length)*bytes<=cN/\len+es2.length<=cN/\(len+es2.length≠0∨cs.length=0)) (lt (cs.take (len*sz)++es2.flatten) λcs'=>
     xP ((Z.ab id (.dead cs.length)).ao nb dst (.live true cs') (λid'=>.own id' 0 (len+es2.length) sz)) κ))
    | _=>none
   | _=>none
  | .cut id off len cap sz1=>y9 Z.b (x.get Z) λu=>match u with
   | .sl sz2 es2=>match Z.b[id]? with
    | some (.live true cs)=>match ah with
     | false=>chk (sz1=sz/\sz2=sz/\off=0) (chk (len+es2.length<=cap) (lt (cq cs (len*sz) es2.flatten) λcs'=>κ ((Z.ab id (.live true cs')).put dst (.cut id 0 (len+es2.length) cap sz))))
     | true=>none
    | _=>none
   | _=>none
  | _=>none
 | .aM sz bytes s x=>match ah with
  | true=>none
  | false=>match s.get Z with
   | .gs sz1 []=>y9 Z.b (x.get Z) λu=>match u with
    | .sl sz2 es2=>chk (sz1=sz/\sz2=sz) (chk ((0+es2.length)*bytes<=cN/\0+es2.length<=cN/\0+es2.length≠0) (κ ((Z.ac s).put dst (.fr sz es2))))
    | _=>none
   | .fr sz1 es=>y9 Z.b (x.get Z) λu=>match u with
    | .sl sz2 es2=>chk (sz1=sz/\sz2=sz) (chk ((es.length+es2.length)*bytes<=cN/\es.length+es2.length<=cN/\es.length+es2.length≠0) (lt (es++es2) λes'=>κ ((Z.ac s).put dst (.fr sz es'))))
    | _=>none
   | _=>none
 | .bj p sz a=>match a.get Z with
  | .ptr id off=>match Z.b[id]? with
   | some (.live false cs)=>pf cs off λv=>match v with
    | .fr sz1 es=>match dst with
     | some d=>chk (sz1=sz) (lt es.flatten λcs'=>xP ((Z.ab id (.live false (cs.set off (.own (nb+d) 0 es.length sz)))).ao nb dst (.live p cs') (λid'=>.own id' 0 es.length sz)) κ)
     | none=>none
    | _=>none
   | _=>none
  | _=>none
 | .aX n a x xs=>match dst with
  | some _=>none
  | none=>match a.get Z with
   | .ptr id off=>match Z.b[id]? with
    | some (.live false cs)=>match x.get Z with
     | .st us=>chk (us.length=n/\off+n<=cs.length) (κ (Z.ab id (.live false (cq cs off (frz xs us)))))
     | _=>none
    | _=>none
   | _=>none
 | .aE n a=>match a.get Z with
  | .ptr id off=>match Z.b[id]? with
   | some (.live false cs)=>chk (off+n<=cs.length) (UP Z.b ((cs.drop off).take n) λvs=>κ (Z.put dst (.agg vs)))
   | _=>none
  | _=>none
 | .bh p sz x=>match x.get Z with
  | .fr sz1 es=>match x,dst with
   | .tmp t,some d=>chk (sz1=sz/\t≠d) (lt es.flatten λcs'=>xP ((Z.put (some t) (.own (nb+d) 0 es.length sz)).ao nb dst (.live p cs') (λid'=>.own id' 0 es.length sz)) κ)
   | _,_=>none
  | _=>none
 | .a8 x=>match ah with
  | true=>none
  | false=>match x.get Z with
   | .own id off len sz=>match Z.b[id]? with
    | some (.live true cs)=>chk (off=0/\len*sz<=cs.length/\cs.length≠0) (κ ((Z.ab id (.dead cs.length)).put dst (.gs sz (bY sz len cs))))
    | _=>none
   | .gs sz es=>κ ((Z.ac x).put dst (.gs sz es))
   | _=>none
 | .clear sz zero x=>match x.get Z with
  | .own id off len sz1=>match Z.b[id]? with
   | some (.live true cs)=>chk (sz1=sz) (lt (cq cs off (Wad len zero).flatten) λcs'=>κ ((Z.ab id (.live true cs')).put dst (.ae [])))
   | _=>none
  | _=>none
 | .extract x i=>match x.get Z with
  | .ae vs=>match vs[i]?,x with
   | some v,.tmp t=>match vs.all Kt&&decide (dst≠some t) with
    | true=>match v.bf with
     | true=>Zp nb { Z with t:=Z.t.set t (.ae (vs.set i .af)) } dst ah v κ
     | false=>match ah&&!v.isJunk with
      | true=>none
      | false=>κ (Z.put dst v.ag)
    | false=>none
   | _,_=>none
  | _=>none
 | .aO sz bytes zero s x=>match s.get Z with
  | .gs sz1 es=>FD (x.get Z) λn=>chk (sz1=sz) (chk (0<=n/\(es.length+n.toNat)*bytes<=cN/\es.length+n.toNat<=cN) (match ah with
   | true=>none
   | false=>lt (es++Wad n.toNat zero) λes'=>κ ((Z.ac s).put dst (.gs sz es'))))
  | _=>none
 | .a9 kd ok zero x y=>match x.get Z with
  | .mp id=>match Z.b[id]? with
   | some (.mp es)=>mAt kd (y.get Z) es λr=>asc (sh (dst.getD 0)) (r.getD zero) λv=>match ok with
    | true=>κ (Z.put dst (.ae [v,.sc (.bool r.isSome)]))
    | false=>κ (Z.put dst v)
   | _=>none
  | _=>none
 | .bz kd x y z=>match dst with
  | some _=>none
  | none=>match x.get Z with
   | .mp id=>match Z.b[id]? with
    | some (.mp es)=>match (z.get Z).plain with
     | some v=>zbc kd (y.get Z) v es λes'=>κ (Z.ab id (.mp es'))
     | none=>none
    | _=>none
   | _=>none
 | .call f args xs=>match args.mapM (jh Z) with
  | some vs=>PI cb nb Z dst ah f vs args xs κ
  | none=>none
 | .aQ f args xs=>match f.get Z with
  | .fn g caps=>match args.mapM (jh Z) with
   | some vs=>PI cb nb Z dst ah g (vs++caps) args xs κ
   | none=>none
  | _=>none
 | k=>xP (ck (λ_ _ _=>none) nb Z dst ah k) κ
def PO(sh:Nat->Sh)(cb:CBC)(nb:Nat)(Z:St)(o:COp)(κ:St->St->Option Y):Option Y:=
 match o.guard with
 | none=>jr sh cb nb Z o.dst o.ah o.k (κ Z)
 | some (j,want)=>match Z.t[j]? with
  | some (.sc (.bool b))=>match want with
   | true=>ifb b (lt { Z with t:=Z.t.set j (.sc (.bool true)) } λZ=>jr sh cb nb Z o.dst o.ah o.k (κ Z)) (lt { Z with t:=Z.t.set j (.sc (.bool false)) } λZ=>κ Z (Z.put o.dst (.ae [])))
   | false=>ifb b (lt { Z with t:=Z.t.set j (.sc (.bool true)) } λZ=>κ Z (Z.put o.dst (.ae []))) (lt { Z with t:=Z.t.set j (.sc (.bool false)) } λZ=>jr sh cb nb Z o.dst o.ah o.k (κ Z))
  | some (.ae [])=>κ Z (Z.put o.dst (.ae []))
  | _=>none
def S8(sh:Nat->Sh)(cb:CBC)(nb:Nat):List COp->St->(St->Option Y)->Option Y
 | [],Z,κ=>κ Z
 | o::rest,Z,κ=>PO sh cb nb Z o λ_ σ'=>S8 sh cb nb rest σ' κ
def Z4(sh:Nat->Sh)(cb:CBC)(nb:Nat):List (COp × Fl)->St->(St->Option Y)->Option Y
 | [],Z,κ=>κ Z
 | (o,q)::rest,Z,κ=>PO sh cb nb Z o λσr σ'=>match flT nb σr o q σ' with
  | true=>Z4 sh cb nb rest σ' κ
  | false=>none
abbrev KT(Y:Type):=Ex->St->Option Y
def dN(rb:St->KT Y->Option Y)(K:KT Y):KT Y:=(λ(_:Nat->Nat)=>λex Z=>match ex with
 | .normal=>rb Z K
 | .exit j=>K (.exit j) Z
 | .ret=>K .ret Z) W1
def dk(id:Nat)(K:KT Y):KT Y:=(λ(_:Nat->Nat)=>λex Z=>match ex with
 | .normal=>K .normal Z
 | .exit j=>match Wae j id with
  | true=>K .normal Z
  | false=>K (.exit j) Z
 | .ret=>K .ret Z) W1
def fR(norm:St->St)(X:St->Option Y)(K:KT Y):KT Y:=(λ(_:Nat->Nat)=>λex Z=>match ex with
 | .normal=>X (norm Z)
 | .exit j=>K (.exit j) Z
 | .ret=>K .ret Z) W1
def dW(body:St->KT Y->Option Y)(norm:St->St):Nat->St->KT Y->Option Y
 | 0,_,_=>none
 | n+1,Z,K=>body Z (fR norm (λZ=>dW body norm n Z K) K)
def onR(o:Option (Ex × St))(K:KT Y):Option Y:=(λ(_:Nat->Nat)=>match o with
 | some (ex,Z)=>K ex Z
 | none=>none) W1
def cz(sh:Nat->Sh)(cb:CBC)(nb:Nat)(L:Nat):CC->St->KT Y->Option Y
 | .skip,Z,K=>K .normal Z
 | .bw ops,Z,K=>S8 sh cb nb ops Z (K .normal)
 | .bu fz ops,Z,K=>sV nb fz Z λZ=>Z4 sh cb nb ops Z (K .normal)
 | .seq a b,Z,K=>cz sh cb nb L a Z (dN (cz sh cb nb L b) K)
 | .fork p c a b,Z,K=>cz sh cb nb L p Z (dN (λZ K=>match c.get Z with
  | .ub=>match ZA (run (λ_ _ _=>none) nb L a Z) (run (λ_ _ _=>none) nb L b Z) with
   | true=>onR (run (λ_ _ _=>none) nb L b Z) K
   | false=>none
  | v=>aB v λt=>ifb t (cz sh cb nb L a Z (dN (cz sh cb nb L b) K)) (cz sh cb nb L b Z K)) K)
 | .cond c a b,Z,K=>match c.get Z with
  | .ub=>match VV (run (λ_ _ _=>none) nb L a Z) (run (λ_ _ _=>none) nb L b Z) with
   | true=>onR (run (λ_ _ _=>none) nb L b Z) K
   | false=>none
  | v=>aB v λt=>ifb t (cz sh cb nb L a Z K) (cz sh cb nb L b Z K)
 | .block id a,Z,K=>cz sh cb nb L a Z (dk id K)
 | .loop kt kb a,Z,K=>dW (cz sh cb nb L a) (f4 nb kt kb) L (f4 nb kt kb Z) K
 | .mask kt kb,Z,K=>K .normal (f4 nb kt kb Z)
 | .exit id,Z,K=>K (.exit id) Z
 | .ret,Z,K=>K .ret Z
def Gv(nb:Nat)(Z:St)(r:RV)(k:V->Option Y):Option Y:=match r with
 | .aC _ _ _=>none
 | .tmp t=>match Z.t.getD t .af with
  | .own id off len sz=>match decide (nb<=id) with
   | true=>match Z.b[id]? with
    | some (.live true cs)=>match decide (off=0/\0<sz) with
     | true=>chk (len≠0∨cs.length=0) (k (.fr sz (bY sz len cs)))
     | false=>none
    | _=>none
   | false=>k (.own id off len sz)
  | .ptr id off=>match Z.b[id]? with
   | some (.live p cs)=>match decide (off=0/\nb<=id) with
    | true=>chk (cs.length≠0) (match p with
     | true=>k (.bx p cs)
     | false=>KL cs λcs=>k (.bx false cs))
    | false=>none
   | _=>none
  | _=>match gH nb Z (.tmp t) with
   | some v=>k v
   | none=>none
 | .aH t=>match Z.t.getD t .af with
  | .own id off len sz=>match decide (nb<=id/\off=0/\0<sz) with
   | true=>match Z.b[id]? with
    | some (.live true cs)=>k (.gs sz (bY sz len cs))
    | _=>none
   | false=>none
  | _=>match gH nb Z (.aH t) with
   | some v=>k v
   | none=>none
 | .cell t agg n=>match Z.t.getD t .af with
  | .ptr id off=>match Z.b[id]? with
   | some (.live p cs)=>match agg with
    | true=>chk (off=0/\cs.length=n/\n≠0) (match p with
     | true=>k (.agg cs)
     | false=>KL cs λcs=>k (.agg cs))
    | false=>match decide (n=1/\off=0) with
     | true=>pf cs 0 λv=>match v.plain with
      | some v=>k v
      | none=>none
     | false=>none
   | _=>none
  | _=>none
def SA(nb:Nat)(Z:St):List RV->(List V->Option Y)->Option Y
 | [],k=>k []
 | r::rs,k=>Gv nb Z r λv=>SA nb Z rs λvs=>k (v::vs)
def MN(nb:Nat)(Z:St)(rs:List RV)(k:V->Option Y):Option Y:=
 match uC rs&&oJ (q7 nb Z rs) with
 | true=>match rs with
  | [r]=>Gv nb Z r k
  | rs=>SA nb Z rs λvs=>k (.ae vs)
 | false=>none
def Me(b:List B)(nb:Nat)(ids:List Nat):List Nat->(Bor->Option Y)->Option Y
 | [],k=>k []
 | id::rest,k=>match b[id]? with
  | some (.live p cs)=>match p with
   | true=>Me b nb ids rest λl=>k (.live true cs::l)
   | false=>match decide (id<nb) with
    | true=>chk (cs.all (kP ids)=true) (Me b nb ids rest λl=>k (.live false (cs.map (lr (fD ids)))::l))
    | false=>match cs with
     | [.mp m]=>chk (ids.contains m=true) (Me b nb ids rest λl=>k (.live false [lr (fD ids) (.mp m)]::l))
     | _=>none
  | some (.mp es)=>Me b nb ids rest λl=>k (.mp es::l)
  | some (.dead n)=>match decide (id<nb) with
   | true=>Me b nb ids rest λl=>k (.dead n::l)
   | false=>none
  | _=>none
def dX(nb:Nat)(rs:List RV)(k:V->Bor->Option Y):KT Y:=λex Z=>match ex with
 | .exit _=>none
 | _=>match po Z.t.length rs Z with
  | some (Z,rs)=>MN nb Z rs λr=>Me Z.b nb (nZ Z.b nb r) (nZ Z.b nb r) λb=>match oJ (nZ Z.b nb r) with
   | true=>k (rP (fD (nZ Z.b nb r)) r) b
   | false=>none
  | none=>none
def Wm:CC->Bool
 | .fork _ _ _ _=>true
 | .seq a b=>Wm a||Wm b
 | _=>false
def Zu(sh:Nat->Sh)(cb:CBC)(L:Nat)(c:CF)(args:List V)(bor:Bor)(k:V->Bor->Option Y):Option Y:=
 cz sh cb bor.length L c.body (enter c.ntmps args bor) (dX bor.length c.res k)
def dx(sh:Nat->Sh)(cb:CBC)(L:Nat)(c:CF)(args:List V)(bor:Bor)(k:V->Bor->Option Y):Option Y:=
 match Wm c.body,args with
 | true,.sl sz es::rest=>lc es (Zu sh cb L c (.sl sz []::rest) bor k) (λx xs=>Zu sh cb L c (.sl sz (x::xs)::rest) bor k)
 | _,args=>Zu sh cb L c args bor k
end
def zfS(x:Nat):Nat->Nat->List Bool
 | 0,_=>[]
 | n+1,i=>x.testBit i::zfS x n (i+1)
def bl(x n:Nat):List Bool:=zfS x n 0
def f9:List (Nat × Sh)->Nat->Sh
 | [],_=>.any
 | (m,s)::r,n=>match Wae m n with
  | true=>s
  | false=>f9 r n
def noC:CBC:=λ_ _ _ _ _=>none
def eL(g:Nat)(d:∀ (Y:Type),List V->Bor->(V->Bor->Option Y)->Option Y)(c:CBC):CBC:=λY f args bor k=>match Wae f g with
 | true=>d Y args bor k
 | false=>c Y f args bor k
abbrev KK(Y:Type):=V->Bor->Option Y
def rp:Nat->V->List V->List V
 | 0,_,l=>l
 | n+1,v,l=>v::rp n v l
def jn:Nat->List V->List V
 | 0,l=>l
 | n+1,l=>.af::jn n l
def gn:Nat->List B->List B
 | 0,l=>l
 | n+1,l=>.gone::gn n l
end
end Go.Proofs.YtipklgbboecciaaGreat
