/- Part 6 of the proof of ScanNext: an abstract machine over plain values, its soundness, and the functions of the program on plain values. -/
import Derived.Test.YtipklgbboecciaaGreatMScanNext5
namespace Go.Proofs.YtipklgbboecciaaGreat
set_option maxRecDepth 100000
set_option linter.unusedVariables false
set_option linter.unusedSimpArgs false
open Option renaming bind_eq_some_iff->Waa,bind_eq_bind->Wab,map_eq_some_iff->Wag,bind_some->Wbz,getD_some->WbN
open List renaming getElem?_eq_getElem->Wac,mem_flatMap->Wbs,all_eq_true->Wbj,mem_append->Wbt,getElem?_eq_none->Wbu,mem_append_left->Wbv,getElem?_map->WaU,mem_append_right->Wbw,ext_getElem?->Wby,getD_eq_getElem?_getD->Wak,getElem?_set->WbB,map_cons->WbD,contains_iff_mem->WbE,getElem?_append_left->Wan,flatMap_eq_nil_iff->WbH,mem_filter->WbI,mapM_cons->WbJ,mem_of_getElem?->WaQ,getElem?_of_mem->WbK,getElem_of_mem->War,mem_cons->WbL,filterMap_cons->WbM,getElem?_take->Wai,map->WbO
open _root_.Array renaming getD_eq_getD_getElem?->Wbk,getElem?_push_lt->WbC,getElem?_eq_getElem->Wbp,getElem?_push_size->WbG
open Bool renaming and_eq_true->WaG,not_eq_true'->Wbx,or_eq_true->WbA,eq_iff_iff->WbF,false_eq_true->WaR
open Option.some renaming injEq->Waf
open Nat renaming zero_add->Wau
open Result renaming andThen_ok->Waz
section
variable {x:ResultVar}{xs:List ResultVar}{rs:List RV}{b:List B}{id n0:Nat}{rv:RV}{v r:V}{fn:Func}{bor':Bor}{u:Value}{tmps:Array Value}
variable {aa:Rn} {we:World} {ωe:Nat->Ow} {U:Nat->Nat->Prop} {O:Nat->Prop} {Z:St} {a:Act} {w:World} {ω:Nat->Ow} {μ:Nat->Nat} {P:Program} {nb:Nat}
theorem TS{rp:Bool}(h:j1 P rp (x::xs)=some rs):∃ rv rest,rs=rv::rest/\j1 P rp [x]=some [rv]/\j1 P rp xs=some rest:=by
 cases x with
 | tmp t=>
  simp [j1,Waa] at h;obtain ⟨rest,h1,rfl⟩:=h;exact ⟨_,rest,rfl,rfl,h1⟩
 | cell t ty=>
  simp only [j1,Wab,Waa,Waf] at h;obtain ⟨b,hb,n,hn,rest,h1,rfl⟩:=h;exact ⟨_,rest,rfl,by simp [j1,hb,hn],h1⟩
variable {g:Nat->Nat}
theorem Tt{rp:Bool}(R:Rel aa we ωe U O Z a w ω μ){ω':Nat->Ow}{loc:Nat->Loc}(hwr:∀ k o,wr U ω' k o->wr U ω k o)(σ2:St)(μ2:Nat->Nat):∀ (xs:List ResultVar) (rs:List RV) (j:Nat) (vs:List V),j1 P rp xs=some rs->rs.mapM (fD nb Z)=some vs ->
  (∀ i r t,rs[i]?=some r->r.slot=some t->(∀ Y h,ω Y=.gs (.slot t 0) h->ω' Y=.gs (loc (j+i)) h)/\(∀ id,id∈iG nb Z.b (Z.t.getD t .ae)->∀ y,xJ nb Z.b g r.rp (Z.t.getD t .ae) (loc (j+i)) id=some y->∀ Y,ω Y=.aw id->ω' Y=y)) ->
  (∀ v∈vs,∀ id∈dL v,∀ L,dD Z.b id=some L->dD σ2.b (g id)=some L/\μ2 (g id)=μ id) ->
  ∃ us,(xs.mapM (gk a.tmps)).run P w=.ok us w/\us.length=vs.length/\∀ (i:Nat) (v:V) (u:Value),vs[i]?=some v->us[i]?=some u->Rep aa (env U σ2 w ω' μ2) (loc (j+i)) (jI g v) u
 | [],rs,j,vs,hc,hv,H,H2=>by
  cases hc
  simp_all
 | x::xs,rs,j,vs,hc,hv,H,H2=>by
  obtain ⟨rv,rest,rfl,h1,h2⟩:=TS hc;simp [Waa] at hv;obtain ⟨v,hv1,vs',hv2,rfl⟩:=hv;obtain ⟨u,e1,e2⟩:=zbk (g:=g) R h1 hv1 (l:=loc (j+0)) (σ2:=σ2) (μ2:=μ2) hwr (λt ht=>(H 0 rv t (by simp) ht).1) (λt id ht hh=>(H 0 rv t (by simp) ht).2 id hh) (λid hid=>H2 v (by simp) id hid);obtain ⟨us,e3,e4,e5⟩:=Tt R hwr σ2 μ2 xs rest (j+1) vs' h2 hv2 (λi r t hi ht=>by
   have:=H (i+1) r t (by simpa using hi) ht;rw [show j+1+i=j+(i+1) by omega]; exact this) (λv' hv'=>H2 v' (by simp [hv']))
  refine ⟨u::us,by simp [e1,e3],by simp [e4],λi v' u' hv' hu'=>?_⟩
  grind
theorem QI{b:List B}{ids:List Nat}:∀ (l:List Nat) (bor:Bor),vR b nb ids l=some bor->bor.length=l.length/\∀ (i:Nat) (x:B),bor[i]?=some x->∃ id y,l[i]?=some id/\b[id]?=some y/\x=y.aa (eT ids)/\y.lend ids=true/\(id<nb∨y.isRow=true)
 | [],bor,h=>by
  grind [vR]
 | id0::l,bor,h=>by
  simp only [vR] at h;split at h
  ·rename_i y hy;split at h
   ·rename_i hp;rw [Wag] at h;obtain ⟨bor1,h1,rfl⟩:=h;obtain ⟨q1,q2⟩:=QI l bor1 h1;refine ⟨by simp [q1],λi x hx=>?_⟩;cases i with
    | zero=>
     simp_all
    | succ i=>grind
   ·cases h
  ·cases h
theorem TA(h:QX b nb id=true):nb<=id:=by
 grind [QX]
theorem zby{f:Nat}{caps:List V}(h:VI nb b caps=true):∀ id∈kU b (.fn f caps),nb<=id:=by
 unfold VI at h;split at h
 ·rename_i c off;simp at h;obtain ⟨⟨h0,h1⟩,h2⟩:=h;split at h2
  ·rename_i m hm;intro id hid;simp [kU,dL,jK,hm] at hid;rcases hid with rfl | rfl
   ·exact h1
   ·exact TA h2
  ·cases h2
 ·cases h
theorem Un{Z:St}:∀ (rs:List RV) (vs:List V),rs.mapM (fD nb Z)=some vs->∀ id∈om nb Z rs,nb<=id
 | [],vs,h,id,hid=>by simp [om] at hid
 | r::rs,vs,h,id,hid=>by
  simp [Waa] at h;obtain ⟨v,hv1,vs',hv2,rfl⟩:=h;have ih:=Un rs vs' hv2 id;simp only [om,Wbt] at hid;rcases hid with hid | hid
  ·split at hid
   ·rename_i t ht;unfold iG at hid;split at hid
    ·grind
    ·rename_i id' off hs;simp at hid; subst hid;cases r with
     | cell _ _ _=>cases ht
     | aC _ _ _=>cases ht
     | tmp t'=>
      cases ht
      grind [fD]
     | aN t'=>
      cases ht
      grind [fD]
    ·grind
    ·rename_i id' hs;simp at hid; subst hid;cases r with
     | cell _ _ _=>cases ht
     | aC _ _ _=>cases ht
     | tmp t'=>
      cases ht
      grind [TA,fD]
     | aN t'=>
      cases ht
      grind [fD]
    ·rename_i f caps hs;cases r with
     | cell _ _ _=>cases ht
     | aC _ _ _=>cases ht
     | tmp t'=>
      cases ht
      grind [zby,fD]
     | aN t'=>
      cases ht
      grind [fD]
    ·simp at hid
   ·simp at hid
  ·exact ih hid
theorem Y7(h:fD nb Z rv=some v)(hid:id∈kU Z.b v)(hge:nb<=id):∃ t,rv=.tmp t/\id∈iG nb Z.b (Z.t.getD t .ae)/\∀ (g:Nat->Nat) (l:Loc),xJ nb Z.b g false (Z.t.getD t .ae) l id=some (.aw (g id)):=by
 cases rv with
 | aC t n p=>cases h
 | tmp t=>
  simp only [fD] at h;split at h
  ·grind [jK,kU,dL]
  ·split at h
   ·split at h
    ·split at h
     ·split at h
      ·grind [jK,kU,dL]
      ·rw [Wag] at h
       grind [jK,kU,dL]
     ·cases h
    ·cases h
   ·cases h
  ·grind [jK,kU,dL]
  ·grind [jK,kU,dL]
  ·grind [jK,kU,dL]
  ·grind [jK,kU,dL]
  ·grind [jK,kU,dL]
  ·rename_i cs hs; cases h;have q3:id∈cs.filterMap fP:=by simpa [kU,jK,dL] using hid
   exact ⟨t,rfl,by rw [hs]; simp only [iG]; exact WbI.2 ⟨q3,by simp; omega⟩,λg l=>by rw [hs]; simp only [xJ]; rw [if_pos ⟨q3,by omega⟩]; rfl⟩
  ·rename_i id' hs;split at h
   ·cases h;have q:id=id':=by simpa [kU,jK,dL] using hid
    exact ⟨t,rfl,by rw [hs]; simp [iG,q],λg l=>by rw [hs]; simp only [xJ]; rw [if_pos q]⟩
   ·cases h
  ·rename_i f caps hs;split at h
   ·cases h;exact ⟨t,rfl,by rw [hs]; simp only [iG]; exact hid,λg l=>by rw [hs]; simp only [xJ]; rw [if_pos hid]⟩
   ·cases h
  ·cases h
 | aN t=>
  simp only [fD] at h;split at h
  ·grind [jK,kU,dL]
  ·rw [Wag] at h
   grind [jK,kU,dL]
  ·grind [jK,kU,dL]
  ·grind [jK,kU,dL]
  ·grind [jK,kU,dL]
  ·grind [jK,kU,dL]
  ·cases h
 | cell t agg n=>
  exfalso
  simp only [fD] at h;split at h
  ·split at h
   ·split at h
    ·split at h
     ·split at h
      ·grind [jK,kU,dL]
      ·rw [Wag] at h
       grind [jK,kU,dL]
     ·cases h
    ·split at h
     ·rw [Waa] at h;obtain ⟨c,_,hp⟩:=h;unfold V.plain at hp
      grind [jK,kU,dL]
     ·cases h
   ·cases h
  ·cases h
theorem zdn(h:∀ vs,r≠.ah vs):HP b r=kU b r:=by
 cases r <;> first | rfl | exact absurd rfl (h _)
theorem zbK(h:id∈mD r):id∈HP b r:=by
 cases r <;> first | exact Wbv _ h | (simp only [mD,HP,Wbs] at h ⊢; obtain ⟨v,hv,h⟩:=h; exact ⟨v,hv,Wbv _ h⟩)
theorem zb7(h:fD nb Z rv=some v):∀ vs,v≠.ah vs:=by
 rintro vs rfl
 cases rv with
 | aC t n p=>cases h
 | tmp t=>
  simp only [fD] at h
  repeat' (split at h)
  all_goals first | (cases h; done) | (rw [Wag] at h; obtain ⟨_,_,e⟩:=h; cases e)
 | aN t=>
  simp only [fD] at h
  repeat' (split at h)
  all_goals first | (cases h; done) | (rw [Wag] at h; obtain ⟨_,_,e⟩:=h; cases e)
 | cell t agg n=>
  simp only [fD] at h;split at h
  ·split at h
   ·split at h
    ·split at h
     ·split at h
      ·cases h
      ·simp_all
     ·cases h
    ·split at h
     ·rw [Waa] at h;obtain ⟨c,_,hp⟩:=h;unfold V.plain at hp;split at hp <;> cases hp
     ·cases h
   ·cases h
  ·cases h
theorem zdz{rp:Bool}(R:Rel aa we ωe U O Z a w ω μ)(hrs:j1 P rp fn.results.toList=some rs)(h:GR nb Z rs=some (r,bor')) :
  ∃ u,(Go.results fn a.tmps).run P w=.ok u w/\∃ ω' μ',Rel aa we ωe U O ⟨[r],bor'.map toB⟩ ⟨#[u],[]⟩ w ω' μ'/\∀ k,k<nb->μ' k=μ k:=by
 unfold GR at h;simp only [Wab,Waa] at h;obtain ⟨r0,hr,b0,hb,h⟩:=h;split at h
 ·rename_i hnd;simp at h;obtain ⟨rfl,rfl⟩:=h;have hn:=JK hnd;obtain ⟨ids,hids⟩:∃ ids,ids=lQ Z.b nb r0:=⟨_,rfl⟩;rw [<- hids] at hn hb ⊢;have hlow:∀ k,k<nb->ids[k]?=some k:=by
   intro k hk;rw [hids]; unfold lQ;rw [Wan (by simpa using hk),List.getElem?_range hk]
  have hglow:∀ k,k<nb->eT ids k=k:=λk hk=>tO hn (hlow k hk);have hin:∀ id∈mD r0,id∈ids:=by
   intro id hid;rw [hids]; unfold lQ;by_cases hk:id<nb
   ·exact Wbv _ (List.mem_range.2 hk)
   ·exact Wbw _ (WbI.2 ⟨zbK hid,by simpa using hk⟩)
  have hhigh:∀ id∈ids,nb<=id->id∈HP Z.b r0:=by
   intro id hid hge;rw [hids] at hid; unfold lQ at hid;rcases Wbt.1 hid with h | h
   ·have:=List.mem_range.1 h; omega
   ·exact (WbI.1 h).1
  unfold results at hr;split at hr
  ·rename_i hd;simp only [WaG] at hd;obtain ⟨hd1,hd2⟩:=hd;obtain ⟨loc,vs,hvs,hloc⟩:∃ (loc:Nat->Loc) (vs:List V),rs.mapM (fD nb Z)=some vs/\((rs.length=1/\vs=[r0]/\loc 0=.slot 0 0/\∀ vs,r0≠.ah vs)∨(rs.length≠1/\r0=.ah vs/\∀ j,loc j=.slot 0 (j+1))):=by
    split at hr
    ·exact ⟨λ_=>.slot 0 0,[r0],by simp [hr],.inl ⟨rfl,rfl,rfl,zb7 hr⟩⟩
    ·rename_i hne;rw [Wag] at hr;obtain ⟨vs,h1,h2⟩:=hr;exact ⟨λj=>.slot 0 (j+1),vs,h1,.inr ⟨λh=>by
      cases rs with
      | nil=>simp at h
      | cons x xs=>
       cases xs with
       | nil=>exact hne x rfl
       | cons y ys=>simp at h,h2.symm,λ_=>rfl⟩⟩
   have hrefs:∀ v∈vs,∀ id∈dL v,id∈mD r0:=by
    intro v hv id hid;rcases hloc with ⟨_,rfl,_,hnt⟩ | ⟨_,rfl,_⟩
    ·simp at hv; subst hv; rw [(W9 hnt).2.2]; exact hid
    ·simp [mD]; exact ⟨v,hv,hid⟩
   have hrefs':∀ id∈HP Z.b r0,∃ v∈vs,id∈kU Z.b v:=by
    intro id hid;rcases hloc with ⟨_,rfl,_,hnt⟩ | ⟨_,rfl,_⟩
    ·rw [zdn hnt] at hid; exact ⟨r0,by simp,hid⟩
    ·simpa only [HP,Wbs] using hid
   obtain ⟨ω',hω'⟩:∃ ω':Nat->Ow,ω'=λk=>tgt nb (eT ids) Z loc rs 0 (ω k):=⟨_,rfl⟩;have hωat:∀ k,ω' k=tgt nb (eT ids) Z loc rs 0 (ω k):=λk=>by rw [hω']
   have hwr:∀ k o,wr U ω' k o->wr U ω k o:=by
    intro k o h;rw [DF] at h ⊢;rw [hωat] at h;exact h.imp id (O9 Z loc o rs 0 _)
   obtain ⟨hbl,hbor⟩:=QI ids b0 hb;have hge:=Un rs vs hvs;obtain ⟨μ',hμ'⟩:∃ μ':Nat->Nat,μ'=λk=>μ (ids.getD k 0):=⟨_,rfl⟩;have hμat:∀ k id,ids[k]?=some id->μ' k=μ id:=by
    intro k id h;rw [hμ']; simp only;rw [Wak,h]; rfl
   have hidx:∀ id∈ids,∀ L,dD Z.b id=some L->dD (b0.map toB) (eT ids id)=some L/\μ' (eT ids id)=μ id:=by
    intro id hid L hL;obtain ⟨h1,h2⟩:=xj hid;have hlt:eT ids id<b0.length:=by rw [hbl]; exact h1
    obtain ⟨id2,y,g1,g2,g3,g4,g5⟩:=hbor _ _ (Wac hlt);rw [h2] at g1; cases g1;refine ⟨?_,hμat _ _ h2⟩;unfold dD at hL ⊢;rw [WaU,Wac hlt,g3];rw [g2] at hL;simp [toB];cases y with
    | gone=>cases hL
    | live p cs=>simp at hL; cases p <;> simp [B.aa,hL]
    | fz cs=>simp [B.lend] at g4
    | mp es=>simpa [B.aa] using hL
    | dead n=>simpa [B.aa] using hL
   obtain ⟨us,e1,e2,e3⟩:=Tt (nb:=nb) (g:=eT ids) R (loc:=loc) hwr ⟨[oQ (eT ids) r0],b0.map toB⟩ μ' fn.results.toList rs 0 vs hrs hvs (λi r t hi ht=>⟨λY h hβ=>by
    rw [hωat,hβ]; exact V9 Z loc t h rs 0 i r hd1 hi ht,λid hh y hy Y hβ=>by
    rw [hωat,hβ]; exact SE Z loc t id hh rs 0 i r hd2 hi ht y hy⟩) (λv hv id hid L hL=>hidx id (hin id (hrefs v hv id hid)) L hL)
   have hlen:us.length=rs.length:=by rw [e2,kN hvs]
   obtain ⟨u,hrun,hrep⟩:∃ u,(Go.results fn a.tmps).run P w=.ok u w/\Rep aa (env U ⟨[oQ (eT ids) r0],b0.map toB⟩ w ω' μ') (.slot 0 0) (oQ (eT ids) r0) u:=by
    have em:fn.results.mapM (gk a.tmps)=List.toArray <$> fn.results.toList.mapM (gk a.tmps):=by
     rw [<- List.mapM_toArray]
    have er:Go.results fn a.tmps=(do
      let vs <- fn.results.mapM (gk a.tmps)
      pure (if h:vs.size=1 then vs[0] else .tuple vs)):=by
     unfold Go.results;congr 2
    rw [er,em];rcases hloc with ⟨h1,h2,h3,hnt⟩ | ⟨h1,h2,h3⟩
    ·rw [h1] at hlen;obtain ⟨u,rfl⟩:∃ u,us=[u]:=List.length_eq_one_iff.1 hlen;refine ⟨u,by simp [e1],?_⟩;subst h2;have:=e3 0 r0 u rfl rfl;rw [Wau,h3] at this;rw [(W9 hnt).1] at this ⊢;exact this
    ·refine ⟨.tuple us.toArray,by simp [e1,hlen,h1],?_⟩;subst h2;refine .ah _ us (by simpa using e2.symm) (λj v u hv hu=>?_);rw [WaU] at hv;cases hvj:vs[j]? with
     | none=>simp [hvj] at hv
     | some v0=>
      simp [hvj] at hv; subst hv;have:=e3 j v0 u hvj hu;rw [Wau,h3] at this;exact this
   have hblk:∀ k id,ids[k]?=some id->ω (μ id)=.aw id->ω' (μ id)=.aw k:=by
    intro k id hk hω;rw [hωat,hω];by_cases hlt:id<nb
    ·have:k=id:=by rw [<- tO hn hk,hglow id hlt]
     subst this;exact YO Z loc k rs 0 (λhh=>by have:=hge k hh; omega)
    ·obtain ⟨v,hv,hvid⟩:=hrefs' id (hhigh id (WaQ hk) (by omega));obtain ⟨i,hi,rfl⟩:=War hv;have hirs:i<rs.length:=by rw [<- kN hvs]; exact hi
     obtain ⟨v',g1,g2⟩:=nA hvs i _ (Wac hirs);rw [Wac hi] at g1; cases g1;obtain ⟨t,q1,q2,q3⟩:=Y7 g2 hvid (by omega);have:=SE (g:=eT ids) (nb:=nb) Z loc t id q2 rs 0 i (.tmp t) hd2 (by rw [Wac hirs,q1]) rfl (.aw (eT ids id)) (q3 _ _);rw [this,tO hn hk]
   refine ⟨u,hrun,ω',μ',⟨rfl,rfl,λi v hv=>?_,λk p cs h=>?_,λk cs h=>?_,λk es h=>?_,R.kp,λk hk=>?_,R.ul,λk o u h1 h2=>?_,R.rs,R.gv⟩,λk hk=>hμat k k (hlow k hk)⟩
   ·cases i with
    | zero=>simp at hv; subst hv; exact hrep
    | succ i=>simp at hv
   ·rw [WaU,Wag] at h;obtain ⟨x,h1,h2⟩:=h;have h2:x=.live p cs:=h2;subst h2;obtain ⟨id,y,g1,g2,g3,g4,g5⟩:=hbor k _ h1;obtain ⟨p0,cs0,rfl⟩:∃ p0 cs0,y=.live p0 cs0:=by
     cases y with
     | live p0 cs0=>exact ⟨p0,cs0,rfl⟩
     | gone=>simp [B.lend] at g4
     | fz _=>simp [B.lend] at g4
     | mp _=>simp [B.aa] at g3
     | dead _=>simp [B.aa] at g3
    simp only [B.aa,B.live.injEq] at g3;obtain ⟨rfl,g3⟩:=g3;refine Ll λhne=>?_;have hne0:cs0≠[]:=by rintro rfl; apply hne; rw [g3]; cases p <;> rfl
    obtain ⟨q1,arr,T,q2,q3,q4⟩:=R.live g2 hne0;rw [hμat k id g1];refine ⟨hblk k id g1 q1,arr,T,q2,by rw [g3]; cases p <;> simpa using q3,λj c hj=>?_⟩;have mono:∀ {c:V} {u':Value},RepP aa w (wr U ω) c u'->RepP aa w (wr U ω') c u':=λhh=>hh.mono (λk o u h1 h2=>⟨λhh=>h1 (hwr k o hh),h2⟩);rw [g3] at hj;cases p with
    | true=>
     simp at hj;obtain ⟨u',x1,x2,x3,x4⟩:=q4 j c hj;exact ⟨u',x1,x2,λhp=>mono (x3 hp),.pure (mono (x3 rfl))⟩
    | false=>
     simp only [WaR,if_false,WaU] at hj;cases hcj:cs0[j]? with
     | none=>simp [hcj] at hj
     | some c0=>
      simp [hcj] at hj; subst hj;obtain ⟨u',x1,x2,x3,x4⟩:=q4 j c0 hcj;obtain ⟨y1,y3⟩:=Ai (by simp [B.lend] at g4; exact g4 c0 (WaQ hcj));by_cases hlt:id<nb
      ·refine ⟨u',x1,x2,by simp,x4.move (E':=env U ⟨[oQ (eT ids) r0],b0.map toB⟩ w ω' μ') (l':=.cell k j) (λk o u h1 h2=>⟨λhh=>h1 (hwr k o hh),h2⟩) (eT ids) (λid2 hid2 L hL=>hidx id2 (y1 id2 hid2) L hL) (λY h hβ=>⟨?_,rfl⟩) (λk=>Nat.le_refl _) y3⟩;have:k=id:=by rw [<- tO hn g1,hglow id hlt]
       subst this;have hβ:ω Y=.gs (.cell k j) h:=hβ;show ω' Y=_;rw [hωat,hβ,N4]
      ·have g5:B.isRow (.live false cs0)=true:=g5.resolve_left hlt;obtain ⟨m,rfl⟩:∃ m,cs0=[.mp m]:=by
        unfold B.isRow at g5;split at g5 <;> first | (rename_i e; cases e; done) | (rename_i m e; cases e; exact ⟨m,rfl⟩) | (cases g5; done) | skip
       have:c0=.mp m:=by
        cases j with
        | zero=>simpa using hcj.symm
        | succ j=>simp at hcj
       subst this;obtain ⟨L,hL,rfl⟩:=x4.be;obtain ⟨z1,z2⟩:=hidx m (y1 m (by simp [dL])) L hL;refine ⟨_,x1,x2,by simp,?_⟩;have:=Rep.mp (aa:=aa) (E:=env U ⟨[oQ (eT ids) r0],b0.map toB⟩ w ω' μ') (l:=.cell k j) (eT ids m) L z1;show Rep aa _ _ _ (.map (some (μ m)));rw [<- z2]; exact this
   ·rw [WaU,Wag] at h;obtain ⟨x,h1,h2⟩:=h;have h2:x=.fz cs:=h2;subst h2;obtain ⟨id,y,g1,g2,g3,g4,g5⟩:=hbor k _ h1
    exfalso
    cases y with
    | live p0 cs0=>simp [B.aa] at g3
    | gone=>simp [B.lend] at g4
    | fz _=>simp [B.lend] at g4
    | mp _=>simp [B.aa] at g3
    | dead _=>simp [B.aa] at g3
   ·rw [WaU,Wag] at h;obtain ⟨x,h1,h2⟩:=h;have h2:x=.mp es:=h2;subst h2;obtain ⟨id,y,g1,g2,g3,g4,g5⟩:=hbor k _ h1;obtain ⟨es0,rfl⟩:∃ es0,y=.mp es0:=by
     cases y with
     | mp es0=>exact ⟨es0,rfl⟩
     | live p0 cs0=>simp [B.aa] at g3
     | gone=>simp [B.lend] at g4
     | fz _=>simp [B.lend] at g4
     | dead _=>simp [B.aa] at g3
    simp only [B.aa,B.mp.injEq] at g3;subst g3;obtain ⟨q1,arr,clock,q2,q3⟩:=R.ms id _ g2;rw [hμat k id g1];exact ⟨hblk k id g1 q1,arr,clock,q2,q3.mono (λk o u h1 h2=>⟨λhh=>h1 (hwr k o hh),h2⟩)⟩
   ·refine R.ow k (λe=>hk ?_);rw [hωat,e,WJ]
   ·obtain ⟨q1,q2⟩:=R.fr k o u h1 h2;exact ⟨λhh=>q1 (hwr k o hh),q2⟩
  ·cases hr
 ·cases h
def rvi:ResultVar->Nat
 | .tmp t=>t
 | .cell t _=>t
theorem Rel.pushSlot(R:Rel aa we ωe U O Z a w ω μ)(h:Rep aa (env U Z w ω μ) (.slot Z.t.length 0) v u):Rel aa we ωe U O { Z with t:=Z.t++[v] } { a with tmps:=a.tmps.push u } w ω μ:=by
 have hl:=R.tl;refine ⟨R.df,by simp [hl],λi v' hi=>?_,R.bs,R.fs,R.ms,R.kp,R.ow,R.ul,R.fr,R.rs,R.gv⟩;by_cases hlt:i<Z.t.length
 ·rw [Wan hlt] at hi;have:=R.ts i v' hi;have e:(a.tmps.push u).getD i undef=a.tmps.getD i undef:=by
   rw [Wbk,Wbk,WbC (by omega)]
   grind
  show Rep aa (env U Z w ω μ) _ _ _;rw [e]; exact this
 ·rw [List.getElem?_append_right (by omega)] at hi;have hi0:i=Z.t.length:=by
   grind
  subst hi0;simp at hi; subst hi;have e:(a.tmps.push u).getD Z.t.length undef=u:=by
   rw [Wbk,<- hl,WbG]; rfl
  show Rep aa (env U Z w ω μ) _ _ _;rw [e]; exact h
theorem ZZ(R:Rel aa we ωe U O Z a w ω μ){cs vs:List V}{arr:Array Value}(hc:∀ (j:Nat) (c:V),cs[j]?=some c->∃ u,arr[j]?=some u/\u.oneCell'=true/\Rep aa (env U Z w ω μ) (.cell id j) c u)(h:cs.mapM V.aK=some vs):vs.length=cs.length/\∀ (j:Nat) (c:V),vs[j]?=some c->∃ u,arr[j]?=some u/\u.oneCell'=true/\(RepP aa w (wr U ω) c u∨OwnAt (env U Z w ω μ) c u):=by
 refine ⟨kN h,λj c hj=>?_⟩;have hlt:j<cs.length:=by grind [kN]
 obtain ⟨v',g1,g2⟩:=nA h j _ (Wac hlt);rw [hj] at g1; cases g1;obtain ⟨u,e1,e2,e3⟩:=hc j _ (Wac hlt);exact ⟨u,e1,e2,e3.aK R.hU g2⟩
theorem Hj{α Y:Type}{f g:α->Sem Y}:∀ (l:List α),(∀ x∈l,f x=g x)->l.mapM f=l.mapM g
 | [],h=>rfl
 | x::l,h=>by
  simp [h x (by simp),Hj l (λy hy=>h y (by simp [hy]))]
theorem PD{tmps':Array Value}(h:∀ i,i<n0->tmps'.getD i undef=tmps.getD i undef)(hx:rvi x<n0):gk tmps' x=gk tmps x:=by
 cases x with
 | tmp t=>simp only [gk]; rw [h t hx]
 | cell t ty=>simp only [gk]; rw [h t hx]
theorem zc1{rp:Bool}(h:j1 P rp [x]=some [rv]):(match rv with | .tmp t=>t | .aN t=>t | .cell t _ _=>t | .aC t _ _=>t)=rvi x:=by
 cases x with
 | tmp t=>cases rp <;> simp [j1] at h <;> subst h <;> rfl
 | cell t ty=>
  simp only [j1,Wab,Waa,Waf] at h;obtain ⟨b,_,n,_,l,hl,h⟩:=h;cases hl;cases h; rfl
theorem zdx{rp:Bool}(h:j1 P rp [x]=some [rv])(h2:j1 P rp xs=some rs):j1 P rp (x::xs)=some (rv::rs):=by
 cases x with
 | tmp t=>cases rp <;> simp [j1] at h <;> subst h <;> simp [j1,h2]
 | cell t ty=>
  simp only [j1,Wab,Waa,Waf] at h
  grind [j1]
def SameW(P:Program){α:Type}(m:Sem α):Prop:=∀ w r w',m.run P w=.ok r w'->w'=w
theorem SameW.pure{α:Type}(x:α):SameW P (Pure.pure x:Sem α):=by
 intro w r w' h
 simp_all
theorem SameW.bind{α Y:Type}{m:Sem α}{f:α->Sem Y}(h1:SameW P m)(h2:∀ x,SameW P (f x)):SameW P (m >>= f):=by
 intro w r w' h;rw [Sem.run_bind] at h;cases hm:m.run P w with
 | ok x w2=>
  rw [hm] at h;simp at h;rw [h2 x _ _ _ h,h1 _ _ _ hm]
 | halt x w2=>rw [hm] at h; cases h
theorem SameW.load(k:Addr):SameW P (Go.load k):=by
 intro w r w' h;simp [Go.load,Sem.run] at h
 grind
theorem SameW.loads(k:Addr):∀ (n i:Nat) (acc:Array Value),SameW P (loadCellsFrom k i n acc)
 | 0,i,acc=>SameW.pure _
 | n+1,i,acc=>(SameW.load _).bind λv=>SameW.loads k n (i+1) _
theorem WO{w2:World}(h:(gk tmps x).run P w=.ok u w2):w2=w:=by
 have prog:SameW P Go.program:=by
  intro w r w' h
  simp_all
 have stk:∀ {α:Type} (m:String),SameW P (Go.stuck m:Sem α):=by
  intro α m w r w' h;simp at h
 have info:∀ t,SameW P (Go.typeInfo t):=by
  intro t;unfold Go.typeInfo
  grind [SameW.bind,SameW.pure]
 cases x with
 | tmp t=>exact SameW.pure _ _ _ _ h
 | cell t ty=>
  refine SameW.bind ?_ (λk=>?_) w u w2 h
  ·unfold asAddr;split
   ·exact SameW.pure _
   ·intro w r w' h; simp [Go.runtimePanic] at h
   ·exact stk _
  ·unfold loadVar;refine SameW.bind ?_ (λb=>?_)
   ·unfold isAgg;refine SameW.bind ?_ (λd=>?_)
    ·unfold Go.underlying;refine prog.bind λp=>?_;split
     ·exact SameW.pure _
     ·exact stk _
    ·split <;> exact SameW.pure _
   ·cases b with
    | true=>exact SameW.bind (by unfold Go.sizeOf; grind [SameW.bind,SameW.pure]) (λn=>(SameW.loads k n 0 _).bind λ_=>SameW.pure _)
    | false=>exact SameW.load k
theorem zcI{rp cs:Bool}:∀ (xs:List ResultVar) (rs0:List RV) {Z:St} {a:Act} (R:Rel aa we ωe U O Z a w ω μ) {σ1:St} {rs1:List RV},n0<=Z.t.length->j1 P rp xs=some rs0->nh n0 (rs0.map (RV.boxed cs rp)) Z=some (σ1,rs1) ->
  ∃ (a1:Act) (xs1:List ResultVar),Rel aa we ωe U O σ1 a1 w ω μ/\j1 P rp xs1=some rs1/\xs1.length=xs.length/\(∀ x∈xs,rvi x<n0)/\(∀ i,i<Z.t.length->a1.tmps.getD i undef=a.tmps.getD i undef)/\σ1.b=Z.b /\
   ∀ us w',(xs1.mapM (gk a1.tmps)).run P w=.ok us w'->(xs.mapM (gk a.tmps)).run P w=.ok us w':=by
 intro xs
 induction xs with
 | nil=>
  intro rs0 Z a R σ1 rs1 hn hc hu;cases hc;cases hu;exact ⟨a,[],R,rfl,rfl,λ_ h=>(by cases h),λ_ _=>rfl,rfl,λus w' h=>h⟩
 | cons x xs ih=>
  intro rs0 Z a R σ1 rs1 hn hc hu;obtain ⟨rv,rest,rfl,h1,h2⟩:=TS hc;have keep:(∃ t b n,rv=.cell t b n/\t<n0)∨(∃ t,rv=.tmp t/\t<n0)∨(∃ t,rv=.aN t/\t<n0)->(∃ σ2 rs2,nh n0 (rest.map (RV.boxed cs rp)) Z=some (σ2,rs2)/\σ1=σ2/\rs1=rv::rs2) ->
    ∃ (a1:Act) (xs1:List ResultVar),Rel aa we ωe U O σ1 a1 w ω μ/\j1 P rp xs1=some rs1/\xs1.length=(x::xs).length/\(∀ y∈x::xs,rvi y<n0)/\(∀ i,i<Z.t.length->a1.tmps.getD i undef=a.tmps.getD i undef)/\σ1.b=Z.b /\
   ∀ us w',(xs1.mapM (gk a1.tmps)).run P w=.ok us w'->((x::xs).mapM (gk a.tmps)).run P w=.ok us w':=by
   rintro hlow ⟨σ2,rs2,e,rfl,rfl⟩
   obtain ⟨a1,xs1,g1,g2,g3,g3',g4,g5,g6⟩:=ih rest R hn h2 e;have hx:rvi x<n0:=by
    have hi:=zc1 h1;rcases hlow with ⟨t',b,n,e,hl⟩ | ⟨t',e,hl⟩ | ⟨t',e,hl⟩ <;> grind
   have hsem:gk a1.tmps x=gk a.tmps x:=PD (λi hi=>g4 i (by omega)) hx;refine ⟨a1,x::xs1,g1,?_,by simp [g3],λy hy=>(WbL.1 hy).elim (λe=>e ▸ hx) (g3' y),g4,g5,λus w' h=>?_⟩
   ·exact zdx h1 g2
   ·simp only [WbJ,Sem.run_bind,hsem] at h ⊢;cases hr:(gk a.tmps x).run P w with
    | ok u w2=>
     rw [hr] at h;simp only [Waz] at h ⊢;have hw2:w2=w:=WO hr;subst hw2;cases hm:(xs1.mapM (gk a1.tmps)).run P w2 with
     | ok vs w3=>rw [hm] at h; rw [g6 vs w3 hm]; exact h
     | halt x w3=>rw [hm] at h; cases h
    | halt x w3=>rw [hr] at h; cases h
  cases rv with
  | tmp t=>
   simp only [WbD,RV.boxed,nh] at hu;split at hu
   ·rename_i hl;split at hu
    ·rename_i σ2 rs2 e;cases hu;exact keep (.inr (.inl ⟨t,rfl,by simpa [RV.low] using hl⟩)) ⟨_,_,e,rfl,rfl⟩
    ·cases hu
   ·cases hu
  | aN t=>
   simp only [WbD,RV.boxed,nh] at hu;split at hu
   ·rename_i hl;split at hu
    ·rename_i σ2 rs2 e;cases hu;exact keep (.inr (.inr ⟨t,rfl,by simpa [RV.low] using hl⟩)) ⟨_,_,e,rfl,rfl⟩
    ·cases hu
   ·cases hu
  | aC t n p=>
   exfalso
   cases x with
   | tmp t=>cases rp <;> simp [j1] at h1
   | cell t ty=>
    simp only [j1,Wab,Waa,Waf] at h1;obtain ⟨b,_,n,_,l,hl,h1⟩:=h1;cases hl; cases h1
  | cell t b n=>
   have plainCell:(match (if (RV.cell t b n).low n0 then match nh n0 (rest.map (RV.boxed cs rp)) Z with
     | some (σ1,rs)=>some (σ1,(RV.cell t b n)::rs)
     | none=>none
    else none) with | x=>x)=some (σ1,rs1)->∃ (a1:Act) (xs1:List ResultVar),Rel aa we ωe U O σ1 a1 w ω μ/\j1 P rp xs1=some rs1/\xs1.length=(x::xs).length/\(∀ y∈x::xs,rvi y<n0)/\(∀ i,i<Z.t.length->a1.tmps.getD i undef=a.tmps.getD i undef)/\σ1.b=Z.b /\
   ∀ us w',(xs1.mapM (gk a1.tmps)).run P w=.ok us w'->((x::xs).mapM (gk a.tmps)).run P w=.ok us w':=by
    intro hu;simp only at hu;split at hu
    ·rename_i hl;split at hu
     ·rename_i σ2 rs2 e;cases hu;exact keep (.inl ⟨t,b,n,rfl,by simpa [RV.low] using hl⟩) ⟨_,_,e,rfl,rfl⟩
     ·cases hu
    ·cases hu
   cases b with
   | false=>simp only [WbD,RV.boxed,nh] at hu; exact plainCell hu
   | true=>
    cases cs with
    | false=>simp only [WbD,RV.boxed,nh,WaR,if_false] at hu; exact plainCell hu
    | true=>
     simp only [WbD,RV.boxed,if_true,nh] at hu;split at hu
     ·rename_i id off hs;split at hu
      ·rename_i cs0 hb;split at hu
       ·rename_i hc0;obtain ⟨ht,rfl,hlen,hn0⟩:=hc0;split at hu
        ·rename_i vs hvs;split at hu
         ·rename_i σ2 rs2 e;cases hu;have hx:∃ ty,x=.cell t ty/\gC P ty=some true/\dR P ty=some n:=by
           cases x with
           | tmp t'=>simp [j1] at h1; cases rp <;> simp at h1
           | cell t' ty=>
            simp only [j1,Wab,Waa,Waf] at h1
            grind
          obtain ⟨ty,rfl,ha,hn'⟩:=hx;have hr:Rep aa (env U Z w ω μ) (.slot t 0) (.ptr id 0) (a.tmps.getD t undef):=R.ts t _ hs;obtain ⟨L,e1,e2⟩:=hr.aq;have hne:cs0≠[]:=by grind
          obtain ⟨q0,arr,T,q2,q3,q4⟩:=R.live hb hne;obtain ⟨r1,r2⟩:=ZZ R (λj c hj=>by obtain ⟨u,g1,g2,_,g4⟩:=q4 j c hj; exact ⟨u,g1,g2,g4⟩) hvs;have hul:(arr.toList.take n).length=n:=by simp; omega
          have hst:Rep aa (env U Z w ω μ) (.slot Z.t.length 0) (.st vs) (.agg (arr.toList.take n).toArray):=by
           refine .st vs (arr.toList.take n) (by omega) (λj c u hcj hu=>?_) (λu hu=>?_)
           ·obtain ⟨u',g1,g2,g3⟩:=r2 j c hcj;rw [Wai] at hu;split at hu
            ·have:arr[j]?=some u:=by simpa using hu
             rw [this] at g1; cases g1; exact g3
            ·cases hu
           ·obtain ⟨j,hj,e⟩:=War hu;have hjv:j<vs.length:=by omega
            obtain ⟨u',g1,g2,g3⟩:=r2 j _ (Wac hjv);have e':(arr.toList.take n)[j]?=some u:=by grind
            rw [Wai] at e';split at e'
            ·have:arr[j]?=some u:=by simpa using e'
             rw [this] at g1; cases g1; exact g2
            ·cases e'
          have R':=R.pushSlot hst;obtain ⟨a1,xs1,g1,g2,g3,g3',g4,g5,g6⟩:=ih rest R' (by simp; omega) h2 e;have hrun:(gk a.tmps (.cell t ty)).run P w=.ok (.agg (arr.toList.take n).toArray) w:=by
           simp [gk,e2];have:=FQ (P:=P) (w:=w) (k:=μ id) (q:=0) ha hn' (arr.toList.take n) (λ_=>hul) (by simp) (λj u hu=>by
            rw [Wau,cell_of_row _ _ _ _ _ _ q2]
            grind)
           simpa [asAddr,env] using this
          have hm:a1.tmps.getD Z.t.length undef=.agg (arr.toList.take n).toArray:=by
           rw [g4 Z.t.length (by simp)];show (a.tmps.push _).getD Z.t.length undef=_;rw [Wbk,<- R.tl,WbG]; rfl
          refine ⟨a1,.tmp Z.t.length::xs1,g1,?_,by simp [g3],λy hy=>(WbL.1 hy).elim (λe=>by rw [e]; exact ht) (g3' y),λi hi=>?_,g5,λus w' h=>?_⟩
          ·cases rp <;> simp [j1,g2]
          ·rw [g4 i (by simp; omega)];show (a.tmps.push _).getD i undef=_;have htl:=R.tl;rw [Wbk,Wbk,WbC (by omega),Wbp (by omega)]
          ·simp only [WbJ,Sem.run_bind] at h ⊢;rw [hrun];have h0:(gk a1.tmps (.tmp Z.t.length)).run P w=.ok (.agg (arr.toList.take n).toArray) w:=by
            simp [gk,hm]
           rw [h0] at h;simp only [Waz] at h ⊢;cases hm2:(xs1.mapM (gk a1.tmps)).run P w with
           | ok vs w3=>
            rw [hm2] at h;have low:∀ us w',(xs1.mapM (gk a1.tmps)).run P w=.ok us w'->(xs.mapM (gk a.tmps)).run P w=.ok us w':=λus w' hh=>by
             have:=g6 us w' hh;rw [Hj (f:=gk (a.tmps.push (.agg (arr.toList.take n).toArray))) (g:=gk a.tmps) xs (λy hy=>PD (n0:=n0) (λi hi=>by
              have htl:=R.tl;rw [Wbk,Wbk,WbC (by omega),Wbp (by omega)]) (g3' y hy))] at this
             exact this
            rw [low vs w3 hm2]; exact h
           | halt x w3=>rw [hm2] at h; cases h
         ·cases hu
        ·cases hu
       ·cases hu
      ·split at hu
       ·rename_i ht;split at hu
        ·rename_i σ2 rs2 e;cases hu;exact keep (.inl ⟨t,true,n,rfl,ht⟩) ⟨_,_,e,rfl,rfl⟩
        ·cases hu
       ·cases hu
      ·cases hu
     ·cases hu
theorem zeK{rp cs:Bool}(R:Rel aa we ωe U O Z a w ω μ){rs0:List RV}(hrs:j1 P rp fn.results.toList=some rs0)(h:Bd nb Z (rs0.map (RV.boxed cs rp))=some (r,bor')) :
  ∃ u,(Go.results fn a.tmps).run P w=.ok u w/\∃ ω' μ',Rel aa we ωe U O ⟨[r],bor'.map toB⟩ ⟨#[u],[]⟩ w ω' μ'/\∀ k,k<nb->μ' k=μ k:=by
 unfold Bd at h;split at h
 ·rename_i σ1 rs1 hu;obtain ⟨a1,xs1,g1,g2,g3,_,g4,g5,g6⟩:=zcI fn.results.toList rs0 R (Nat.le_refl _) hrs hu;obtain ⟨u,e1,e2⟩:=zdz (fn:={ fn with results:=xs1.toArray }) g1 (by simpa using g2) h;refine ⟨u,?_,e2⟩;have em:∀ (xs:Array ResultVar) (tmps:Array Value),xs.mapM (gk tmps)=List.toArray <$> xs.toList.mapM (gk tmps):=by
   intro xs tmps;rw [<- List.mapM_toArray]
  have er:∀ (f:Func) (tmps:Array Value),Go.results f tmps=(do
    let vs <- f.results.mapM (gk tmps)
    pure (if h:vs.size=1 then vs[0] else .tuple vs)):=by
   intro f tmps;unfold Go.results;congr 2
  rw [er,em] at e1 ⊢;simp only [Sem.run_bind,Sem.run_map] at e1 ⊢;cases hm:(xs1.mapM (gk a1.tmps)).run P w with
  | ok us w'=>
   rw [hm] at e1;rw [g6 us w' hm];exact e1
  | halt x w'=>rw [hm] at e1; cases e1
 ·cases h
theorem zbR{T:Nat->Option CF}{pr:CB}{L:Nat}(hT:∀ g c,T g=some c->∀ f,aa f=some g->lX P f=true/\∃ h,Ge P aa h f=some c)(hpr:oP P aa pr)(hdraw:∀ cb,oP P aa cb->Rj P aa cb):∀ d,oP P aa (evF T pr L d)
 | 0=>by intro g args bor r bor' h; cases h
 | d+1=>by
  have ih:=zbR (L:=L) hT hpr hdraw d;intro g args bor r bor' h f hf;simp [evF] at h;split at h
  ·exact hpr g args bor r bor' h f hf
  ·rename_i c hc;obtain ⟨hcall,hint,hfun⟩:=hT g c hc f hf;refine ⟨hcall,λw us U O ω μ R=>?_⟩;simp only [Ge,Wab,Waa,Prod.exists] at hfun;obtain ⟨fn,hfn,body,hbody,cc,ms',hcode,rs,hrs,hfun⟩:=hfun;split at hfun
   ·cases hfun;have E:=zbM fn.ntmps R;refine calls_of_wp hfn hbody ?_;have key:∀ ex σ',run (tp (evF T pr L d)) bor.length L cc (enter fn.ntmps args bor)=some (ex,σ')->(ex=.normal∨ex=.ret)->Bd bor.length σ' (rs.map (RV.boxed hint.cs hint.rp))=some (r,bor') ->
      body.wp P (bodyPost P fn λe w'=>∃ u ω' μ',e=.returned u/\Rel aa w ω U O ⟨[r],bor'.map toB⟩ ⟨#[u],[]⟩ w' ω' μ'/\∀ k,k<bor.length->μ' k=μ k) ⟨us.toArray++Array.replicate (fn.ntmps-us.toArray.size) undef,[]⟩ w:=by
     intro ex σ' hrun hex hl;rw [List.size_toArray];refine zfG (SJ ih) (hdraw _ (SJ ih)) body _ _ cc hcode E hrun _ ?_;intro a1 w1 ω1 μ1 R1 hm;obtain ⟨u,q1,ω2,μ2,q2,q3⟩:=zeK R1 hrs hl;rcases hex with rfl | rfl <;> exact ⟨R1.df,u,q1,u,ω2,μ2,rfl,q2,λk hk=>(q3 k hk).trans (hm k hk)⟩
    split at h
    ·rename_i σ' hrun;exact key _ σ' hrun (.inl rfl) h
    ·rename_i σ' hrun;exact key _ σ' hrun (.inr rfl) h
    ·cases h
   ·cases hfun
end
section
variable {Z σ' σ1:St}{c9:List Nat}{d:Option Nat}{nb:Nat}{af:Bool}
theorem cM{s:Src}(h:∀ t∈s.tmps,σ'.t[t]?=Z.t[t]?):s.get σ'=s.get Z:=by
 cases s with
 | const v=>rfl
 | tmp t=>grind [Src.get,Src.tmps]
theorem sI{Z σ':St}:∀ (ps:List (Nat × Nat × Src)) (cs:List V),(∀ t∈ps.flatMap (λp=>p.2.2.tmps),σ'.t[t]?=Z.t[t]?)->jh σ' ps cs=jh Z ps cs
 | [],cs,h=>rfl
 | (off,n,x)::ps,cs,h=>by
  have h1:x.get σ'=x.get Z:=cM (λt ht=>h t (by simp [ht]));have h2:∀ cs,jh σ' ps cs=jh Z ps cs:=λcs=>sI ps cs (λt ht=>h t (by grind));simp only [jh,h1,h2]
theorem Hg{Z σ':St}:∀ (ps:List (Nat × Nat × Src)) (cs:List V),(∀ t∈ps.flatMap (λp=>p.2.2.tmps),σ'.t[t]?=Z.t[t]?)->lk σ' ps cs=lk Z ps cs
 | [],cs,h=>rfl
 | (off,n,x)::ps,cs,h=>by
  have h1:x.get σ'=x.get Z:=cM (λt ht=>h t (by simp [ht]));have h2:∀ cs,lk σ' ps cs=lk Z ps cs:=λcs=>Hg ps cs (λt ht=>h t (by grind));simp only [lk,h1,h2]
theorem Xz{x:Option Src}(h:∀ t∈Src.tmpsO x,σ'.t[t]?=Z.t[t]?)(d m:Nat):mZ σ' x d m=mZ Z x d m:=by
 cases x with
 | none=>rfl
 | some s=>simp [mZ]; rw [cM (s:=s) h]
theorem xq{l h m:Option Src}(hh:∀ t∈Src.tmpsO l++Src.tmpsO h++Src.tmpsO m,σ'.t[t]?=Z.t[t]?)(len:Nat):iL σ' len l h m=iL Z len l h m:=by
 grind [Xz,iL]
theorem M0(k:K)(h:∀ t∈dE k,σ'.t[t]?=Z.t[t]?)(hb:σ'.b=Z.b∨dT k=true):cx σ' k=cx Z k:=by
 cases k with
 | pick c a b=>
  grind [cM,cx,dE]
 | build z ps=>grind [sI,cx,dE]
 | ay z ps=>grind [Hg,cx,dE]
 | nilCheck x=>grind [cM,cx,dE]
 | bin op x y=>
  grind [cM,cx,dE]
 | aY n m x y=>
  grind [cM,cx,dE]
 | bn n x=>grind [cM,cx,dE]
 | bI n x y=>
  grind [cM,cx,dE]
 | un op x=>grind [cM,cx,dE]
 | conv k x=>grind [cM,cx,dE]
 | toStr x=>
  grind [cM,cx,dE,dT]
 | bG x=>
  grind [cM,cx,dE,dT]
 | bi x y=>
  grind [cM,cx,dE,dT]
 | ax n sz x l hh m=>
  grind [xq,cM,cx,dE,dT]
 | aT sz x l hh m=>
  simp only [dE] at h;have hn:∀ t∈Src.tmpsO l++Src.tmpsO hh++Src.tmpsO none,σ'.t[t]?=Z.t[t]?:=λt ht=>h t (by
   have e:Src.tmpsO none=[]:=rfl;rw [e,List.append_nil] at ht;simp only [Wbt] at ht ⊢; grind)
  simp only [cx,cM (s:=x) (λt ht=>h t (by simp [ht])),xq (l:=l) (h:=hh) (m:=m) (λt ht=>h t (by simp only [Wbt] at ht ⊢; grind)),xq hn]
 | aX sz x hh=>
  simp only [dE] at h;have hn:∀ t∈Src.tmpsO none++Src.tmpsO hh++Src.tmpsO none,σ'.t[t]?=Z.t[t]?:=λt ht=>h t (by
   have e:Src.tmpsO none=[]:=rfl;rw [e,List.append_nil,List.nil_append] at ht;simp [ht])
  simp only [cx,cM (s:=x) (λt ht=>h t (by simp [ht])),xq hn]
 | aD sz x i j=>
  grind [cM,cx,dE]
 | fieldAddr o x=>grind [cM,cx,dE]
 | field a o n x=>grind [cM,cx,dE]
 | al l sz x i=>
  grind [cM,cx,dE]
 | aj sz x i=>
  grind [cM,cx,dE]
 | aQ a l sz x i=>
  grind [cM,cx,dE]
 | bv n sz x=>grind [cM,cx,dE]
 | bo x=>grind [cM,cx,dE]
 | bF x=>grind [cM,cx,dE]
 | aO n=>rfl
 | pull x i=>grind [cM,cx,dE]
 | adc s c a b=>
  grind [cM,cx,dE]
 | mm b x y=>
  grind [cM,cx,dE]
 | makeFunc f caps=>
  simp only [dE] at h;have hc:∀ c∈caps,c.get σ'=c.get Z:=λc hc=>cM (λt ht=>h t (Wbs.2 ⟨c,hc,ht⟩));have e1:caps.map (λc=>c.get σ')=caps.map (λc=>c.get Z):=List.map_congr_left hc;have e2:(caps.all λc=>uj (c.get σ'))=(caps.all λc=>uj (c.get Z)):=by
   rw [WbF,Wbj,Wbj];constructor
   ·intro hh c hcc; rw [<- hc c hcc]; exact hh c hcc
   ·intro hh c hcc; rw [hc c hcc]; exact hh c hcc
  simp only [cx,e1,e2]
 | _=>rfl
structure Over (c9:List Nat) (Z σ1 σ' σ1':St):Prop where
 b:σ1'.b=σ1.b
 on:∀ k∈c9,σ1'.t[k]?=σ1.t[k]?
 off:∀ k,k ∉ c9->σ1'.t[k]?=σ'.t[k]?
 fr:∀ k,k ∉ c9->σ1.t[k]?=Z.t[k]?
 len:σ1.t.length=Z.t.length
 a7:σ1'.t.length=σ'.t.length
theorem fJ(Z:St)(d:Option Nat)(v:V)(k:Nat):(Z.put d v).t[k]?=if d=some k/\k<Z.t.length then some v else Z.t[k]?:=by
 cases d with
 | none=>simp [St.put]
 | some d=>
  simp only [St.put,WbB];by_cases h:d=k
  ·subst h;by_cases h2:d<Z.t.length
   ·simp [h2]
   ·simp [h2]
  ·simp [h]
theorem fv(Z:St)(d:Option Nat)(v:V):(Z.put d v).b=Z.b:=by cases d <;> rfl
theorem um(Z:St)(d:Option Nat)(v:V):(Z.put d v).t.length=Z.t.length:=by cases d <;> simp [St.put]
theorem QO(Z:St)(s:Src)(k:Nat):(Z.ac s).t[k]?=if k∈s.tmps then (Z.t[k]?).map V.ag else Z.t[k]?:=by
 cases s with
 | const v=>simp [St.ac,Src.tmps]
 | tmp t=>
  simp only [St.ac,Src.tmps,List.mem_singleton,List.getElem?_modify];by_cases h:k=t
  ·subst h; simp
  ·have:¬ t=k:=λe=>h e.symm;simp [h,this]
theorem qC(Z:St)(s:Src):(Z.ac s).b=Z.b:=by cases s <;> rfl
theorem gq(Z:St)(s:Src):(Z.ac s).t.length=Z.t.length:=by cases s <;> simp [St.ac]
theorem iW(v:V)(hl:σ'.t.length=Z.t.length)(hb:σ'.b=Z.b)(hd:∀ k,d=some k->k∈c9)(hW:∀ k∈c9,d≠some k->σ'.t[k]?=Z.t[k]?):Over c9 Z (Z.put d v) σ' (σ'.put d v):=by
 refine ⟨by rw [fv,fv,hb],λk hk=>?_,λk hk=>?_,λk hk=>?_,um _ _ _,um _ _ _⟩
 ·rw [fJ,fJ,hl];by_cases h:d=some k/\k<Z.t.length
  ·rw [if_pos h,if_pos h]
  ·rw [if_neg h,if_neg h];by_cases h2:d=some k
   ·have:¬ k<Z.t.length:=λh3=>h ⟨h2,h3⟩;rw [Wbu (by omega),Wbu (by omega)]
   ·exact hW k hk h2
 ·rw [fJ,if_neg (λh=>hk (hd k h.1))]
 ·rw [fJ,if_neg (λh=>hk (hd k h.1))]
theorem nm{x:B}{f:Nat->V}(hl:σ'.t.length=Z.t.length)(hb:σ'.b=Z.b)(hd:∀ k,d=some k->k∈c9)(hW:∀ k∈c9,d≠some k->σ'.t[k]?=Z.t[k]?)(h:Z.an nb d x f=some σ1):∃ σ1',σ'.an nb d x f=some σ1'/\Over c9 Z σ1 σ' σ1':=by
 cases d with
 | none=>simp [St.an] at h
 | some d=>
  have hg':σ'.b[nb+d]?=Z.b[nb+d]?:=by rw [hb]
  rcases hg:Z.b[nb+d]? with _ | x'
  ·grind [St.an]
  ·cases x' with
   | gone=>
    simp only [St.an,hg] at h;rw [hg] at hg';simp only [St.an,hg'];cases h;refine ⟨_,rfl,?_⟩;have q:=iW (c9:=c9) (Z:=Z.ab (nb+d) x) (σ':=σ'.ab (nb+d) x) (d:=some d) (f (nb+d)) hl (by simp [St.ab,hb]) hd hW;exact ⟨q.b,q.on,q.off,q.fr,q.len,q.a7⟩
   | live p cs=>grind [St.an]
   | fz cs=>grind [St.an]
   | mp es=>grind [St.an]
   | dead n=>grind [St.an]
theorem xh{sz:Nat}{es:Ls}(hl:σ'.t.length=Z.t.length)(hb:σ'.b=Z.b)(hd:∀ k,d=some k->k∈c9)(hW:∀ k∈c9,d≠some k->σ'.t[k]?=Z.t[k]?)(h:Z.ao nb d af sz es=some σ1):∃ σ1',σ'.ao nb d af sz es=some σ1'/\Over c9 Z σ1 σ' σ1':=by
 unfold St.ao at h ⊢;split at h
 ·rename_i hp; simp [hp]; exact nm hl hb hd hW h
 ·grind [iW]
theorem T9{v:V}(hl:σ'.t.length=Z.t.length)(hb:σ'.b=Z.b)(hd:∀ k,d=some k->k∈c9)(hW:∀ k∈c9,d≠some k->σ'.t[k]?=Z.t[k]?)(h:Z.ar nb d af v=some σ1):∃ σ1',σ'.ar nb d af v=some σ1'/\Over c9 Z σ1 σ' σ1':=by
 cases v with
 | gs sz es=>
  grind [St.ar,iW]
 | fr sz es=>
  simp [St.ar] at h ⊢;exact xh hl hb hd hW h
 | bx p cs=>simp [St.ar] at h ⊢; exact nm hl hb hd hW h
 | _=>grind [St.ar,iW]
theorem Over.shift{σ0 σ0' σ1':St}(h:Over c9 σ0 σ1 σ0' σ1')(h1:∀ k,k ∉ c9->σ0.t[k]?=Z.t[k]?)(h2:∀ k,k ∉ c9->σ0'.t[k]?=σ'.t[k]?)(h3:σ0.t.length=Z.t.length)(h4:σ0'.t.length=σ'.t.length):Over c9 Z σ1 σ' σ1':=
 ⟨h.b,h.on,λk hk=>(h.off k hk).trans (h2 k hk),λk hk=>(h.fr k hk).trans (h1 k hk),h.len.trans h3,h.a7.trans h4⟩
theorem vK(hb:σ'.b=Z.b){s:Src × Nat}(h:∀ t∈s.1.tmps,σ'.t[t]?=Z.t[t]?):hS σ' s=hS Z s:=by
 grind [hS,tf,cM]
theorem uy{Z σ':St}:∀ (ss:List (Src × Nat)) (b:List B),(∀ t∈ss.flatMap (λp=>p.1.tmps),σ'.t[t]?=Z.t[t]?)->di σ' ss b=di Z ss b
 | [],b,h=>rfl
 | s::ss,b,h=>by
  have h1:s.1.get σ'=s.1.get Z:=cM (λt ht=>h t (by simp [ht]));simp [di,h1];exact uy ss _ (λt ht=>h t (by grind))
theorem Na{cb:CB}{f:Nat}{args:List V}{ss:List (Src × Nat)}{xs:List Nat}(hl:σ'.t.length=Z.t.length)(hb:σ'.b=Z.b)(hr:∀ t∈ss.flatMap (λp=>p.1.tmps),σ'.t[t]?=Z.t[t]?)(hd:∀ k,d=some k->k∈c9)(hW:∀ k∈c9,d≠some k->σ'.t[k]?=Z.t[k]?)
  (h:kY cb nb Z d af f args ss xs=some σ1):∃ σ1',kY cb nb σ' d af f args ss xs=some σ1'/\Over c9 Z σ1 σ' σ1':=by
 unfold kY at h ⊢;simp only [uy ss _ hr,hb];simp only [Wab,Waa] at h;obtain ⟨bor,hbor,⟨r,bor'⟩,hcb,h⟩:=h;simp only at h hcb;simp only [hbor,Wab,Wbz,hcb];split at h
 ·rename_i hc;rw [if_pos hc];generalize hB:gA (λk=>(fW (di Z ss Z.b) args++(xs.map (nb+·)).take (bor'.length-(fW (di Z ss Z.b) args).length)).getD k 0) (fW (di Z ss Z.b) args++(xs.map (nb+·)).take (bor'.length-(fW (di Z ss Z.b) args).length)) bor' (di Z ss Z.b)=B at h ⊢;obtain ⟨σ1',e,q⟩:=T9 (c9:=c9) (Z:={ Z with b:=B }) (σ':={ t:=σ'.t,b:=B }) hl rfl hd hW h;exact ⟨σ1',e,⟨q.b,q.on,q.off,q.fr,q.len,q.a7⟩⟩
 ·cases h
theorem Kw{α Y:Type}{f:α->Option Y}:∀ {l:List α} {r:List Y},l.mapM f=some r->r.length=l.length
 | [],r,h=>by simp at h; subst h; rfl
 | x::l,r,h=>by
  simp [Waa] at h;obtain ⟨y,_,ys,h2,rfl⟩:=h;simp [Kw h2]
theorem NX{α Y:Type}{f:α->Option Y}:∀ {l:List α} {r:List Y},l.mapM f=some r->∀ (i:Nat) (x:α),l[i]?=some x->∃ y,r[i]?=some y/\f x=some y
 | [],r,h,i,x,hx=>by simp at hx
 | x::l,r,h,i,x',hx=>by
  simp [Waa] at h;obtain ⟨y,h1,ys,h2,rfl⟩:=h;cases i with
  | zero=>grind
  | succ i=>simpa using NX h2 i x' (by simpa using hx)
theorem mi{α Y:Type}{f g:α->Option Y}:∀ (l:List α),(∀ x∈l,f x=g x)->l.mapM f=l.mapM g
 | [],h=>rfl
 | x::l,h=>by
  simp only [WbJ];rw [h x (by simp),mi l (λy hy=>h y (by simp [hy]))]
end
section
variable {k:K}{d:Option Nat}{i:Nat}{c9:List Nat}{Z:St}{s:Src}
def Wk(k:K)(d:Option Nat):List Nat:=gz k++d.toList
theorem dV(i:Nat)(h:d=some i):i∈Wk k d:=by subst h; simp [Wk]
theorem sR(h:i∈Wk k d)(hd:d≠some i):i∈gz k:=by
 grind [Wk]
theorem Nb(h:i∈gz k):i∈dE k:=by
 unfold gz at h
 grind [dE]
theorem w8{σ':St}(id:Nat)(x:B)(hb:σ'.b=Z.b)(hW:∀ k∈c9,σ'.t[k]?=Z.t[k]?):Over c9 Z (Z.ab id x) σ' (σ'.ab id x):=
 ⟨by simp [St.ab,hb],hW,λ_ _=>rfl,λ_ _=>rfl,rfl,rfl⟩
theorem rC{σ':St}(id:Nat)(x:B)(v:V)(hl:σ'.t.length=Z.t.length)(hb:σ'.b=Z.b)(hd:∀ k,d=some k->k∈c9)(hW:∀ k∈c9,d≠some k->σ'.t[k]?=Z.t[k]?):Over c9 Z ((Z.ab id x).put d v) σ' ((σ'.ab id x).put d v):=by
 have q:=iW (c9:=c9) (Z:=Z.ab id x) (σ':=σ'.ab id x) (d:=d) v hl (by simp [St.ab,hb]) hd hW;exact ⟨q.b,q.on,q.off,q.fr,q.len,q.a7⟩
theorem oU{σ':St}(hr:∀ t∈s.tmps,σ'.t[t]?=Z.t[t]?):∀ t∈s.tmps,(σ'.ac s).t[t]?=(Z.ac s).t[t]?:=by
 grind [QO]
theorem jr{k:Nat}(h:k ∉ s.tmps):(Z.ac s).t[k]?=Z.t[k]?:=by rw [QO,if_neg h]
variable {cb:CB} {nb:Nat} {Z σ' σ1:St} {d:Option Nat} {af:Bool}
theorem ZY(k:K)(hl:σ'.t.length=Z.t.length)(hb:σ'.b=Z.b)(hr:∀ t∈dE k,σ'.t[t]?=Z.t[t]?)(h:bZ cb nb Z d af k=some σ1) :
  ∃ σ1',bZ cb nb σ' d af k=some σ1'/\Over (Wk k d) Z σ1 σ' σ1':=by
 have hW:∀ i∈Wk k d,d≠some i->σ'.t[i]?=Z.t[i]?:=λi hi hd=>hr i (Nb (sR hi hd));have pure:(cx Z k).map (λv=>Z.put d v)=some σ1->∃ σ1',(cx σ' k).map (λv=>σ'.put d v)=some σ1'/\Over (Wk k d) Z σ1 σ' σ1':=by
  intro h;rw [Wag] at h
  grind [dV,iW,M0]
 cases k with
 | move x take=>
  simp only [dE] at hr;simp only [bZ,cM hr] at h ⊢;split at h
  ·cases h
  ·rename_i hp;rw [if_neg hp];split at h
   ·rename_i ht;subst ht;cases h;rw [if_pos rfl];exact ⟨_,rfl,(iW _ (by simpa [gq] using hl) (by simpa [qC] using hb) dV (λi hi hd=>oU hr i (by simpa [gz] using sR hi hd))).shift
     (λi hi=>jr (λhh=>hi (by simp [Wk,gz,hh]))) (λi hi=>jr (λhh=>hi (by simp [Wk,gz,hh]))) (gq _ _) (gq _ _)⟩
   ·rename_i ht;cases h;rw [if_neg ht];exact ⟨_,rfl,iW _ hl hb dV hW⟩
 | alloc p cs=>simp only [bZ] at h ⊢; exact nm hl hb dV hW h
 | box p x=>
  simp only [dE] at hr;simp only [bZ,cM hr] at h ⊢;split at h
  ·split at h
   ·cases h
   ·rename_i hp; rw [if_neg hp]; exact nm hl hb dV hW h
  ·split at h
   ·exact nm hl hb dV hW h
   ·cases h
 | ofStr x=>
  simp only [dE] at hr;simp only [bZ,cM hr] at h ⊢;split at h
  ·cases h
  ·rename_i hp;rw [if_neg hp];split at h
   ·cases h; exact ⟨_,rfl,iW _ hl hb dV hW⟩
   ·cases h
 | buildSlice sz n z ps=>
  simp only [dE] at hr;simp only [bZ,sI ps _ hr,Wab,Waa] at h ⊢;obtain ⟨cs,h1,h2⟩:=h;split at h2
  ·rename_i hc;cases h2;exact ⟨_,⟨cs,h1,by rw [if_pos hc]⟩,iW _ hl hb dV hW⟩
  ·rename_i hc;obtain ⟨σ1',e1,e2⟩:=xh (c9:=Wk (.buildSlice sz n z ps) d) hl hb dV hW h2;exact ⟨σ1',⟨cs,h1,by rw [if_neg hc]; exact e1⟩,e2⟩
 | load agg n x take=>
  simp only [dE] at hr;simp only [bZ,cM hr,hb] at h ⊢;have put:∀ v,some (Z.put d v)=some σ1->∃ σ1',some (σ'.put d v)=some σ1'/\Over (Wk (.load agg n x take) d) Z σ1 σ' σ1':=by
   grind [dV,iW]
  split at h
  ·split at h
   ·split at h
    ·rename_i ha;rw [if_pos ha];split at h
     ·rename_i hc;rw [if_pos hc];split at h
      ·rename_i hp; rw [if_pos hp]; exact put _ h
      ·rename_i hp; rw [if_neg hp];split at h
       ·rename_i ht; rw [if_pos ht];simp only [Wab,Waa] at h ⊢;obtain ⟨vs,h1,h2⟩:=h;obtain ⟨σ1',e1,e2⟩:=put _ h2;exact ⟨σ1',⟨vs,h1,e1⟩,e2⟩
       ·rename_i ht; rw [if_neg ht];simp only [Wab,Waa] at h ⊢;obtain ⟨vs,h1,h2⟩:=h;obtain ⟨σ1',e1,e2⟩:=put _ h2;exact ⟨σ1',⟨vs,h1,e1⟩,e2⟩
     ·cases h
    ·rename_i ha;rw [if_neg ha];split at h
     ·split at h
      ·rename_i ht; rw [if_pos ht];split at h
       ·cases h
       ·rename_i hp; rw [if_neg hp]; cases h;exact ⟨_,rfl,rC _ _ _ hl hb dV hW⟩
      ·rename_i ht; rw [if_neg ht]; exact put _ h
     ·cases h
   ·split at h
    ·rename_i ha;rw [if_pos ha];split at h
     ·rename_i hc; rw [if_pos hc]; exact put _ h
     ·cases h
    ·rename_i ha;rw [if_neg ha];split at h
     ·exact put _ h
     ·cases h
   ·cases h
  ·split at h
   ·rename_i ha;rw [if_pos ha];split at h
    ·rename_i hc; rw [if_pos hc]; exact put _ h
    ·cases h
   ·rename_i ha;rw [if_neg ha];split at h
    ·exact put _ h
    ·cases h
  ·cases h
 | store n x y=>
  simp only [dE] at hr;have hr1:∀ t∈x.tmps,σ'.t[t]?=Z.t[t]?:=λt ht=>hr t (by simp [ht]);have hr2:∀ t∈y.tmps,σ'.t[t]?=Z.t[t]?:=λt ht=>hr t (by simp [ht]);simp only [bZ,cM hr1,cM hr2,hb] at h ⊢;split at h
  ·cases h
  ·rename_i hd;rw [if_neg hd];have hd:d=none:=by simp_all
   subst hd;have hWW:∀ i∈Wk (.store n x y) none,σ'.t[i]?=Z.t[i]?:=λi hi=>hW i hi (by simp);split at h
   ·split at h
    ·simp only [Wab,Waa] at h ⊢;obtain ⟨v,h1,h2⟩:=h;split at h2
     ·rename_i hc;cases h2;exact ⟨_,⟨v,h1,by rw [if_pos hc]⟩,w8 _ _ hb hWW⟩
     ·cases h2
    ·split at h
     ·split at h
      ·rename_i hc; cases h; rw [if_pos hc]; exact ⟨_,rfl,w8 _ _ hb hWW⟩
      ·cases h
     ·split at h
      ·rename_i hc; cases h; rw [if_pos hc]; exact ⟨_,rfl,w8 _ _ hb hWW⟩
      ·cases h
     ·cases h
     ·cases h
     ·cases h
     ·split at h
      ·rename_i hc; cases h; rw [if_pos hc];refine ⟨_,rfl,(w8 (Z:=Z.ac y) (σ':=σ'.ac y) _ _ (by simpa [qC] using hb) (λi hi=>oU hr2 i (by simpa [Wk,gz] using hi))).shift
        (λi hi=>jr (λhh=>hi (by simp [Wk,gz,hh]))) (λi hi=>jr (λhh=>hi (by simp [Wk,gz,hh]))) (gq _ _) (gq _ _)⟩
      ·cases h
    ·cases h
   ·cases h
 | makeSlice sz bytes z l c=>
  simp only [dE] at hr;simp only [bZ,cM (s:=l) (λt ht=>hr t (by simp [ht])),cM (s:=c) (λt ht=>hr t (by simp [ht]))] at h ⊢;split at h
  ·split at h
   ·rename_i hc; rw [if_pos hc];split at h
    ·rename_i hp; rw [if_pos hp]; exact nm hl hb dV hW h
    ·rename_i hp; rw [if_neg hp]; exact xh hl hb dV hW h
   ·cases h
  ·cases h
 | append sz bytes s x=>
  simp only [dE] at hr;have hr1:∀ t∈s.tmps,σ'.t[t]?=Z.t[t]?:=λt ht=>hr t (by simp [ht]);simp only [bZ,cM hr1,cM (s:=x) (λt ht=>hr t (by simp [ht])),hb] at h ⊢;split at h
  ·split at h
   ·rename_i hc; rw [if_pos hc];split at h
    ·rename_i hp; rw [if_pos hp];split at h
     ·exact xh hl hb dV hW h
     ·cases h
    ·rename_i hp; rw [if_neg hp]; cases h;exact ⟨_,rfl,(iW _ (by simpa [gq] using hl) (by simpa [qC] using hb) dV (λi hi hd=>oU hr1 i (by simpa [gz] using sR hi hd))).shift
      (λi hi=>jr (λhh=>hi (by simp [Wk,gz,hh]))) (λi hi=>jr (λhh=>hi (by simp [Wk,gz,hh]))) (gq _ _) (gq _ _)⟩
   ·cases h
  ·split at h
   ·rename_i hc; rw [if_pos hc];obtain ⟨σ1',e1,e2⟩:=xh (c9:=Wk (.append sz bytes s x) d) (by simpa [gq] using hl) (by simpa [qC] using hb) dV (λi hi hd=>oU hr1 i (by simpa [gz] using sR hi hd)) h;exact ⟨σ1',e1,e2.shift (λi hi=>jr (λhh=>hi (by simp [Wk,gz,hh]))) (λi hi=>jr (λhh=>hi (by simp [Wk,gz,hh]))) (gq _ _) (gq _ _)⟩
   ·cases h
  ·split at h
   ·split at h
    ·rename_i id off len sz1 sz2 es2 _ _ _ cs _ hc; rw [if_pos hc];obtain ⟨σ1',e1,e2⟩:=nm (c9:=Wk (.append sz bytes s x) d) (Z:=Z.ab id (.dead cs.length)) (σ':=σ'.ab id (.dead cs.length)) hl (by simp [St.ab,hb]) dV hW h;exact ⟨σ1',e1,e2.shift (λ_ _=>rfl) (λ_ _=>rfl) rfl rfl⟩
    ·cases h
   ·cases h
  ·split at h
   ·split at h
    ·rename_i hc; rw [if_pos hc]; cases h;exact ⟨_,rfl,rC _ _ _ hl hb dV hW⟩
    ·cases h
   ·cases h
  ·cases h
 | a9 x=>
  simp only [dE] at hr;simp only [bZ,cM hr,hb] at h ⊢;split at h
  ·cases h
  ·rename_i hp;rw [if_neg hp];split at h
   ·split at h
    ·split at h
     ·rename_i hc; rw [if_pos hc]; cases h;exact ⟨_,rfl,rC _ _ _ hl hb dV hW⟩
     ·cases h
    ·cases h
   ·cases h;exact ⟨_,rfl,(iW _ (by simpa [gq] using hl) (by simpa [qC] using hb) dV (λi hi hd=>oU hr i (by simpa [gz] using sR hi hd))).shift
     (λi hi=>jr (λhh=>hi (by simp [Wk,gz,hh]))) (λi hi=>jr (λhh=>hi (by simp [Wk,gz,hh]))) (gq _ _) (gq _ _)⟩
   ·cases h
 | aF sz bytes s x=>
  simp only [dE] at hr;have hr1:∀ t∈s.tmps,σ'.t[t]?=Z.t[t]?:=λt ht=>hr t (by simp [ht]);simp only [bZ,cM hr1,cM (s:=x) (λt ht=>hr t (by simp [ht])),hb] at h ⊢;split at h
  ·cases h
  ·rename_i hp;rw [if_neg hp];split at h
   ·split at h
    ·rename_i hc; rw [if_pos hc]; cases h;exact ⟨_,rfl,(iW _ (by simpa [gq] using hl) (by simpa [qC] using hb) dV (λi hi hd=>oU hr1 i (by simpa [gz] using sR hi hd))).shift
      (λi hi=>jr (λhh=>hi (by simp [Wk,gz,hh]))) (λi hi=>jr (λhh=>hi (by simp [Wk,gz,hh]))) (gq _ _) (gq _ _)⟩
    ·cases h
   ·cases h
 | bm p sz x=>
  simp only [dE] at hr;simp only [bZ,cM hr,hb] at h ⊢;split at h
  ·split at h
   ·split at h
    ·split at h
     ·split at h
      ·rename_i id off _ _ cs _ _ sz1 es _ _ d0 hc; rw [if_pos hc];obtain ⟨σ1',e1,e2⟩:=nm (c9:=Wk (.bm p sz x) (some d0)) (Z:=Z.ab id (.live false (cs.set off (.own (nb+d0) 0 es.length sz)))) (σ':=σ'.ab id (.live false (cs.set off (.own (nb+d0) 0 es.length sz)))) hl (by simp [St.ab,hb]) dV hW h;exact ⟨σ1',e1,e2.shift (λ_ _=>rfl) (λ_ _=>rfl) rfl rfl⟩
      ·cases h
     ·cases h
    ·cases h
   ·cases h
  ·cases h
 | aW n x y xs=>
  simp only [dE] at hr;have hr1:∀ t∈x.tmps,σ'.t[t]?=Z.t[t]?:=λt ht=>hr t (by simp [ht]);have hr2:∀ t∈y.tmps,σ'.t[t]?=Z.t[t]?:=λt ht=>hr t (by simp [ht]);simp only [bZ,cM hr1,cM hr2,hb] at h ⊢;split at h
  ·cases h
  ·rename_i hd;rw [if_neg hd];have hd:d=none:=by simp_all
   subst hd;have hWW:∀ i∈Wk (.aW n x y xs) none,σ'.t[i]?=Z.t[i]?:=λi hi=>hW i hi (by simp);split at h
   ·split at h
    ·split at h
     ·split at h
      ·rename_i hc; cases h; rw [if_pos hc]; exact ⟨_,rfl,w8 _ _ hb hWW⟩
      ·cases h
     ·cases h
    ·cases h
   ·cases h
 | aE n x=>
  simp only [dE] at hr;simp only [bZ,cM hr,hb] at h ⊢;split at h
  ·split at h
   ·split at h
    ·rename_i hc; rw [if_pos hc];simp only [Wab,Waa,Waf] at h ⊢;obtain ⟨vs,h1,rfl⟩:=h;exact ⟨_,⟨vs,h1,rfl⟩,iW _ hl hb dV hW⟩
    ·cases h
   ·cases h
  ·cases h
 | bh p sz x=>
  simp only [dE] at hr;simp only [bZ,cM hr] at h ⊢;split at h
  ·split at h
   ·split at h
    ·rename_i sz1 es _ _ t0 d0 _ hc; rw [if_pos hc];obtain ⟨σ1',e1,e2⟩:=nm (c9:=Wk (.bh p sz (.tmp t0)) (some d0)) (Z:=Z.put (some t0) (.own (nb+d0) 0 es.length sz)) (σ':=σ'.put (some t0) (.own (nb+d0) 0 es.length sz)) (by grind [um]) (by rw [fv,fv]; exact hb) dV (λk hk hd=>by
      grind [fJ]) h
     refine ⟨σ1',e1,e2.shift (λk hk=>?_) (λk hk=>?_) (um _ _ _) (um _ _ _)⟩
     ·rw [fJ,if_neg]
      rintro ⟨e,_⟩
      cases e;exact hk (by simp [Wk,gz,Src.tmps])
     ·rw [fJ,if_neg]
      rintro ⟨e,_⟩
      cases e;exact hk (by simp [Wk,gz,Src.tmps])
    ·cases h
   ·cases h
  ·cases h
 | clear sz z x=>
  simp only [dE] at hr;simp only [bZ,cM hr,hb] at h ⊢;split at h
  ·split at h
   ·split at h
    ·rename_i hc; rw [if_pos hc]; cases h;exact ⟨_,rfl,rC _ _ _ hl hb dV hW⟩
    ·cases h
   ·cases h
  ·cases h
 | aJ sz bytes z s x=>
  simp only [dE] at hr;have hr1:∀ t∈s.tmps,σ'.t[t]?=Z.t[t]?:=λt ht=>hr t (by simp [ht]);simp only [bZ,cM hr1,cM (s:=x) (λt ht=>hr t (by simp [ht]))] at h ⊢;split at h
  ·split at h
   ·rename_i hc; rw [if_pos hc];split at h
    ·cases h
    ·rename_i hp; rw [if_neg hp];obtain ⟨σ1',e1,e2⟩:=xh (c9:=Wk (.aJ sz bytes z s x) d) (by simpa [gq] using hl) (by simpa [qC] using hb) dV (λi hi hd=>oU hr1 i (by simpa [gz] using sR hi hd)) h;exact ⟨σ1',e1,e2.shift (λi hi=>jr (λhh=>hi (by simp [Wk,gz,hh]))) (λi hi=>jr (λhh=>hi (by simp [Wk,gz,hh]))) (gq _ _) (gq _ _)⟩
   ·cases h
  ·cases h
 | copy sz x y=>
  simp only [dE] at hr;simp only [bZ,cM (s:=x) (λt ht=>hr t (by simp [ht])),cM (s:=y) (λt ht=>hr t (by simp [ht])),hb] at h ⊢;split at h
  ·split at h
   ·split at h
    ·rename_i hc; rw [if_pos hc]; cases h;exact ⟨_,rfl,rC _ _ _ hl hb dV hW⟩
    ·cases h
   ·cases h
  ·cases h
 | extract x i=>
  simp only [dE] at hr;simp only [bZ,cM hr] at h ⊢;split at h
  ·rename_i vs hvs;split at h
   ·rename_i _ v t hvi;split at h
    ·rename_i hc;rw [if_pos hc];split at h
     ·rename_i hh; rw [if_pos hh];have hx:σ'.t[t]?=Z.t[t]?:=hr t (by simp [Src.tmps]);obtain ⟨σ1',e1,e2⟩:=T9 (c9:=Wk (.extract (.tmp t) i) d) (Z:={ Z with t:=Z.t.set t (.ah (vs.set i .ae)) }) (σ':={ σ' with t:=σ'.t.set t (.ah (vs.set i .ae)) }) (by simpa using hl) hb dV (λj hj hd=>by
       grind) h
      refine ⟨σ1',e1,e2.shift (λj hj=>?_) (λj hj=>?_) (by simp) (by simp)⟩ <;>
       (have hne:¬ t=j:=λe=>hj (by simp [Wk,gz,Src.tmps,e])
        simp [WbB,hne])
     ·rename_i hh; rw [if_neg hh];split at h
      ·cases h
      ·rename_i hp; rw [if_neg hp]; cases h; exact ⟨_,rfl,iW _ hl hb dV hW⟩
    ·cases h
   ·cases h
  ·cases h
 | call f xs ys=>
  simp only [dE] at hr;simp only [bZ,Wab,Waa] at h ⊢;obtain ⟨vs,h1,h2⟩:=h;obtain ⟨σ1',e1,e2⟩:=Na (c9:=Wk (.call f xs ys) d) hl hb hr dV hW h2;exact ⟨σ1',⟨vs,by grind [vK,mi],e1⟩,e2⟩
 | aR f xs ys=>
  simp only [dE] at hr;have hr2:∀ t∈xs.flatMap (λp=>p.1.tmps),σ'.t[t]?=Z.t[t]?:=λt ht=>hr t (Wbw _ ht);simp only [bZ,cM (s:=f) (λt ht=>hr t (by simp [ht]))] at h ⊢;split at h
  ·simp only [Wab,Waa] at h ⊢;obtain ⟨vs,h1,h2⟩:=h;obtain ⟨σ1',e1,e2⟩:=Na (c9:=Wk (.aR f xs ys) d) hl hb hr2 dV hW h2;exact ⟨σ1',⟨vs,by grind [vK,mi],e1⟩,e2⟩
  ·cases h
 | makeMap=>simp only [bZ] at h ⊢; exact nm hl hb dV hW h
 | bE sz id=>
  simp only [bZ,hb] at h ⊢;split at h
  ·rename_i hg;cases h;exact ⟨_,rfl,rC _ _ _ hl hb dV hW⟩
  ·cases h
 | bc kd ok z x y=>
  simp only [dE] at hr;simp only [bZ,cM (s:=x) (λt ht=>hr t (by simp [ht])),cM (s:=y) (λt ht=>hr t (by simp [ht])),hb] at h ⊢;split at h
  ·split at h
   ·split at h
    ·rename_i hc; rw [if_pos hc];simp only [Wab,Waa,Option.pure_def,Waf] at h ⊢;obtain ⟨r,h1,rfl⟩:=h;exact ⟨_,⟨r,h1,rfl⟩,iW _ hl hb dV hW⟩
    ·cases h
   ·cases h
  ·cases h
 | bC kd x y z=>
  simp only [dE] at hr;simp only [bZ,cM (s:=x) (λt ht=>hr t (by simp [ht])),cM (s:=y) (λt ht=>hr t (by simp [ht])),cM (s:=z) (λt ht=>hr t (by simp [ht])),hb] at h ⊢;split at h
  ·cases h
  ·rename_i hdst;rw [if_neg hdst];split at h
   ·split at h
    ·split at h
     ·rename_i hc; rw [if_pos hc];simp only [Wab,Waa,Option.pure_def,Waf] at h ⊢;obtain ⟨v,h1,es',h2,rfl⟩:=h;refine ⟨_,⟨v,h1,es',h2,rfl⟩,w8 _ _ hb (λi hi=>?_)⟩;by_cases hd:d=some i
      ·simp [hd] at hdst
      ·exact hW i hi hd
     ·cases h
    ·cases h
   ·cases h
 | bw x=>
  simp only [dE] at hr;simp only [bZ,cM hr,hb] at h ⊢;split at h
  ·split at h
   ·cases h; exact ⟨_,rfl,iW _ hl hb dV hW⟩
   ·cases h
  ·cases h
 | _=>exact pure h
end
section
variable {o:COp}{j k id n r:Nat}{d dst:Option Nat}{v:V}{b:List B}{s:Src × Nat}{agg af:Bool}{a:Src}{σ1':St}{fl:Fl}
variable {cb:CB} {nb:Nat} {Z σ' σ1:St}
def Wo(o:COp):List Nat:=Wk o.k o.dst
theorem iu{g:Option (Nat × Bool)}(h:∀ j w,g=some (j,w)->σ'.t[j]?=Z.t[j]?):gJ σ' g=gJ Z g:=by
 cases g <;> grind [gJ]
theorem iI{w:Bool}(h:o.guard=some (j,w)):j∈eR o:=by simp [eR,h]
theorem mz(h:j∈dE o.k):j∈eR o:=by simp [eR,h]
theorem fq(o:COp)(hl:σ'.t.length=Z.t.length)(hb:σ'.b=Z.b)(hr:∀ t∈eR o,σ'.t[t]?=Z.t[t]?)(h:cW cb nb Z o=some σ1) :
  ∃ σ1',cW cb nb σ' o=some σ1'/\Over (Wo o) Z σ1 σ' σ1':=by
 unfold cW at h ⊢
 grind [Wo,iu,iI,ZY,mz,iW,dV,Nb,sR]
def pv(Z:St)(af:Bool):K->Option V
 | .move x _=>if af then none else some (x.get Z).ag
 | k=>cx Z k
theorem Qg{k:K}(hp:dT k=true)(Z:St)(d:Option Nat)(af:Bool):bZ cb nb Z d af k=(pv Z af k).map (λv=>Z.put d v):=by
 cases k <;> simp [dT] at hp <;> first | rfl | (subst hp; cases af <;> rfl)
theorem zcQ{k:K}(hp:dT k=true)(af:Bool)(hr:∀ t∈dE k,σ'.t[t]?=Z.t[t]?):pv σ' af k=pv Z af k:=by
 cases k with
 | move x take=>grind [dE,pv,cM]
 | _=>exact M0 _ hr (.inr hp)
theorem AA(o:COp)(hp:dT o.k=true)(hr:∀ t∈eR o,σ'.t[t]?=Z.t[t]?)(h:cW cb nb Z o=some σ1):∃ v,σ1=Z.put o.dst v/\cW cb nb σ' o=some (σ'.put o.dst v):=by
 unfold cW at h ⊢;rw [iu (λj w hg=>hr j (iI hg))];split at h
 ·rw [Qg hp] at h ⊢;rw [zcQ hp _ (λt ht=>hr t (mz ht))];rw [Wag] at h
  grind
 ·cases h; exact ⟨_,rfl,rfl⟩
 ·cases h
theorem GC{k:K}(h:dT k=true):gz k=[]:=by
 cases k <;> simp [dT] at h <;> first | rfl | (subst h; rfl)
theorem PM(h:Z.ar nb d false v=some σ1)(hv:∀ p cs,v≠.bx p cs):σ1.b=Z.b:=by
 cases v <;> grind [St.ao,St.ar,fv]
theorem B4{Z:St}:∀ (ss:List (Src × Nat)) (b:List B),(∀ s∈ss,∀ id,fP (s.1.get Z)=some id->fc b id=b)->di Z ss b=b
 | [],b,h=>rfl
 | s::ss,b,h=>by
  have ih:=B4 ss b (λs' hs'=>h s' (by simp [hs']));unfold di;split
  ·exact ih
  ·cases ho:fP (s.1.get Z) with
   | none=>exact ih
   | some id=>simp only [h s (by simp) id ho]; exact ih
theorem zaG(h:zdh b[id]?=true):fc b id=b:=by
 grind [fc,zdh]
theorem Ni(b:List B)(n:Nat)(acc:List Nat):mE b n [] acc=acc:=by cases n <;> rfl
theorem TP(hm:s.2<2):yq s=none:=by
 grind [yq]
theorem MZ(hm:s.2<2)(h:lU Z.b (s.1.get Z)=true)(hv:hS Z s=some v):dL v=[]:=by
 have hl:tr s.2 (s.1.get Z)=none:=by unfold tr; rw [if_neg (by omega)]
 rw [hS,TP hm] at hv;simp [tf,hl] at hv;cases hx:s.1.get Z with
 | own id off len sz=>
  rw [hx] at hv;simp only [gN] at hv;cases hc:((Z.b[id]?).getD .gone).cs? with
  | none=>rw [hc] at hv; cases hv
  | some cs=>rw [hc] at hv; cases hv; rfl
 | ptr id off=>grind [lU]
 | st cs=>grind [lU]
 | mp id=>grind [lU]
 | fn f caps=>
  grind [lU,dL,gN]
 | _=>
  grind [dL,gN,V.plain]
theorem Oj{take:Bool}(hl:(agg||!take)=true)(hg:a.get σ'=a.get Z)(hb:∀ id off,a.get Z=.ptr id off->σ'.b[id]?=Z.b[id]?)(h:bZ cb nb Z dst af (.load agg n a take)=some σ1):∃ v,σ1=Z.put dst v/\bZ cb nb σ' dst af (.load agg n a take)=some (σ'.put dst v):=by
 simp only [bZ,hg] at h ⊢;cases hx:a.get Z with
 | ptr id off=>
  rw [hx] at h;have hb:=hb id off hx;simp only [hb];simp only at h;cases hbb:Z.b[id]? with
  | none=>rw [hbb] at h; cases h
  | some x=>
   rw [hbb] at h;cases x with
   | live p cs=>
    simp only at h ⊢;cases agg with
    | true=>
     simp only [if_true] at h ⊢;split at h
     ·rename_i hle;simp only [hle,if_true];cases p with
      | true=>grind
      | false=>
       cases take with
       | true=>
        simp [Waa] at h ⊢
        grind
       | false=>
        simp [Waa] at h ⊢
        grind
     ·cases h
    | false=>
     grind
   | fz cs=>
    grind
   | _=>cases h
 | fp m cs=>
  grind
 | _=>rw [hx] at h; cases h
theorem zcp{take:Bool}(hl:(agg||!take)=true)(h:bZ cb nb Z dst af (.load agg n a take)=some σ1):∃ v,σ1=Z.put dst v:=by
 obtain ⟨v,h,_⟩:=Oj (σ':=Z) hl rfl (λ_ _ _=>rfl) h;exact ⟨v,h⟩
theorem Tr(h:cW cb nb Z o=some σ1)(hq:i4 Z o σ1=true):σ1.b=Z.b:=by
 unfold cW at h;unfold i4 at hq;cases hg:gJ Z o.guard with
 | none=>rw [hg] at h; cases h
 | some g=>
  rw [hg] at h hq;cases g with
  | false=>grind [fv]
  | true=>
   simp only at h hq;have sp:dT o.k=true->σ1.b=Z.b:=by
    intro hp;rw [Qg hp,Wag] at h
    grind [fv]
   cases hk:o.k with
   | load agg n x take=>
    grind [zcp,fv]
   | toStr x=>
    rw [hk] at h;simp [bZ] at h
    grind [fv]
   | aE n x=>
    rw [hk] at h;simp [bZ] at h
    repeat' (split at h)
    ·rw [Waa] at h
     grind [fv]
    all_goals cases h
   | bG x=>
    rw [hk] at h;simp [bZ] at h
    grind [fv]
   | bi x y=>
    rw [hk] at h;simp [bZ] at h
    grind [fv]
   | ax n sz x l hh m=>
    rw [hk] at h;simp [bZ] at h
    grind [fv]
   | move x take=>
    grind [qC,fv,bZ]
   | append sz bytes s x=>
    grind [St.ao,qC,Zi,fP,fv,bZ]
   | ofStr x=>
    grind [fv,bZ]
   | buildSlice sz n z ps=>
    rw [hk] at h hq;simp at hq;simp [bZ,hq,Waa,St.ao] at h
    grind [fv]
   | makeSlice sz bytes z l c=>
    grind [St.ao,fv,bZ]
   | call f xs ys=>
    rw [hk] at h hq;simp only [WaG,Wbx,Wbj,decide_eq_true_eq,List.isEmpty_iff] at hq;obtain ⟨⟨⟨hpin,hys⟩,hargs⟩,hd⟩:=hq;subst hys;simp [bZ,Waa] at h;obtain ⟨vs,h1,h2⟩:=h;unfold kY at h2;have hfz:di Z xs Z.b=Z.b:=B4 xs _ (λs hs id hid=>by
     have:=(hargs s hs).2;cases hx:s.1.get Z <;> rw [hx] at this hid <;> simp only [fP] at hid <;> cases hid;exact zaG this)
    have hids:fW Z.b vs=[]:=by
     unfold fW;have:vs.flatMap dL=[]:=by
      rw [WbH];intro v hv;obtain ⟨i,hi⟩:=WbK hv;have hlt:i<xs.length:=by grind [Kw]
      obtain ⟨v',g1,g2⟩:=NX h1 i _ (Wac hlt)
      grind [MZ]
     rw [this,Ni]
    simp only [hfz,hids,lZ,Wab,Wbz] at h2;simp only [Waa] at h2;obtain ⟨⟨r,bor'⟩,_,h3⟩:=h2;simp only at h3;split at h3
    ·have e:gA (λk=>(([]:List Nat)++(WbO (nb+·) []).take (bor'.length-([]:List Nat).length)).getD k 0) (([]:List Nat)++(WbO (nb+·) []).take (bor'.length-([]:List Nat).length)) bor' Z.b=Z.b:=by simp [gA]
     rw [e,hpin] at h3;generalize oQ _ r=r' at h3;cases hdd:o.dst with
     | none=>rw [hdd] at hd; cases hd
     | some d=>
      rw [hdd] at hd h3;have:=PM h3 (λp cs hbx=>by
       subst hbx;simp only [St.ar,St.an] at h3;split at h3
       ·cases h3;simp only [St.put,St.ab] at hd;split at hd
        ·rename_i v hv;rw [WbB] at hv;simp only [if_true] at hv;split at hv
         ·cases hv; simp [uj] at hd
         ·cases hv
        ·cases hd
       ·cases h3)
      exact this
    ·cases h3
   | extract x i=>
    rw [hk] at h hq;simp at hq;obtain ⟨hpin,hq⟩:=hq;simp only [bZ,hpin] at h;split at h
    ·rename_i vs hvs;rw [hvs] at hq;simp only at hq;split at h
     ·rename_i _ v t hvi;rw [hvi] at hq;split at h
      ·split at h
       ·have:=PM h (λp cs hbx=>by subst hbx; simp at hq);exact this
       ·grind [fv]
      ·cases h
     ·cases h
    ·cases h
   | bc kd ok z x y=>
    rw [hk] at h hq;simp only [bZ] at h;split at h
    ·split at h
     ·split at h
      ·simp [Waa] at h
       grind [fv]
      ·cases h
     ·cases h
    ·cases h
   | bw x=>
    grind [fv,bZ]
   | _=>
    grind
theorem Nn(hb:σ'.b=Z.b∨dT o.k=true)(hr:∀ t∈eR o,σ'.t[t]?=Z.t[t]?)(hd:∀ d,o.dst=some d->σ1'.t[d]?=σ1.t[d]?):i4 σ' o σ1'=i4 Z o σ1:=by
 unfold i4;rw [iu (λj w hg=>hr j (iI hg))];have hrk:∀ t∈dE o.k,σ'.t[t]?=Z.t[t]?:=λt ht=>hr t (mz ht);cases hk:o.k with
 | call f xs ys=>
  rw [hk] at hrk hb;have hb:σ'.b=Z.b:=hb.resolve_right (by simp [dT]);rw [hb];have e:(xs.all λs=>decide (s.2<2)&&lU Z.b (s.1.get σ'))=(xs.all λs=>decide (s.2<2)&&lU Z.b (s.1.get Z)):=by
   have hc:∀ s∈xs,s.1.get σ'=s.1.get Z:=λs hs=>cM (λt ht=>hrk t (Wbs.2 ⟨s,hs,ht⟩));rw [WbF,Wbj,Wbj];constructor
   ·intro hh c hcc; rw [<- hc c hcc]; exact hh c hcc
   ·intro hh c hcc; rw [hc c hcc]; exact hh c hcc
  simp only [e];cases hds:o.dst with
  | none=>rfl
  | some d=>simp only [hd d hds]
 | extract x i=>
  rw [hk] at hrk;simp only [cM (s:=x) hrk]
 | append sz bytes s x=>
  rw [hk] at hrk;simp only [dE] at hrk;simp only [cM (s:=s) (λt ht=>hrk t (by simp [ht]))]
 | _=>rfl
theorem jq{a b:List Nat}(h:tY a b=true):∀ x∈a,x ∉ b:=by
 grind [tY]
structure Side (A B:COp) (sa sb:Bool) (Z σ1 σ2 σ1':St):Prop where
 fA:∀ k,k ∉ Wo A->σ1.t[k]?=Z.t[k]?
 fB:∀ k,k ∉ Wo B->σ1'.t[k]?=Z.t[k]?
 dB:∀ d,B.dst=some d->σ1'.t[d]?=σ2.t[d]?
 dA:∀ d,A.dst=some d->σ2.t[d]?=σ1.t[d]?
 bB:Z.b=σ1.b∨dT B.k=true∨f7 B.k=true∨sb=true
 bA:σ1'.b=Z.b∨dT A.k=true∨f7 A.k=true∨sa=true
theorem zfY{A B:COp}{σ2:St}(ha:cW cb nb Z A=some σ1)(hb:cW cb nb σ1 B=some σ2)(hs:mY A B=true)(hq:dT A.k=true∨dT B.k=true∨(i4 Z A σ1=true/\i4 σ1 B σ2=true)) :
  ∃ σ1',cW cb nb Z B=some σ1'/\cW cb nb σ1' A=some σ2/\∀ sa sb,Side A B sa sb Z σ1 σ2 σ1':=by
 simp only [mY,WaG] at hs;have s1:=jq hs.1;have s2:=jq hs.2;have wa:∀ k∈Wo A,k ∉ eR B/\k ∉ Wo B:=λk hk=>by
  grind [Wk,Wo]
 have wb:∀ k∈Wo B,k ∉ eR A/\k ∉ Wo A:=λk hk=>by
  grind [Wk,Wo]
 obtain ⟨_,_,oa⟩:=fq A rfl rfl (λ_ _=>rfl) ha;obtain ⟨_,_,ob⟩:=fq B rfl rfl (λ_ _=>rfl) hb;have rB:∀ t∈eR B,Z.t[t]?=σ1.t[t]?:=λt ht=>(oa.fr t (λhh=>(wa t hh).1 ht)).symm;have key:∃ σ1',cW cb nb Z B=some σ1'/\(∀ k∈Wo B,σ1'.t[k]?=σ2.t[k]?)/\(∀ k,k ∉ Wo B->σ1'.t[k]?=Z.t[k]?)/\σ1'.t.length=Z.t.length /\
   ∃ σ2',cW cb nb σ1' A=some σ2'/\(∀ k∈Wo A,σ2'.t[k]?=σ1.t[k]?)/\(∀ k,k ∉ Wo A->σ2'.t[k]?=σ1'.t[k]?)/\σ2'.b=σ2.b/\(Z.b=σ1.b∨dT B.k=true)/\(σ1'.b=Z.b∨dT A.k=true):=by
  have viaB:∀ σ1',cW cb nb Z B=some σ1'->(∀ k,k ∉ Wo B->σ1'.t[k]?=Z.t[k]?)->∀ t∈eR A,σ1'.t[t]?=Z.t[t]?:=λσ1' _ h t ht=>h t (λhh=>(wb t hh).1 ht);by_cases hbp:dT B.k=true
  ·obtain ⟨v,e1,e2⟩:=AA B hbp rB hb;have hWB:∀ k,B.dst=some k->k∈Wo B:=λk hk=>dV k hk;have hl:(Z.put B.dst v).t.length=Z.t.length:=um _ _ _;have off:∀ k,k ∉ Wo B->(Z.put B.dst v).t[k]?=Z.t[k]?:=λk hk=>by grind [fJ]
   refine ⟨_,e2,λk hk=>?_,off,hl,?_⟩
   ·have hkd:B.dst=some k:=by
     grind [Wk,Wo,GC]
    rw [e1,fJ,fJ,oa.len];by_cases hlt:k<Z.t.length
    ·rw [if_pos ⟨hkd,hlt⟩,if_pos ⟨hkd,hlt⟩]
    ·rw [if_neg (λh=>hlt h.2),if_neg (λh=>hlt h.2),Wbu (by omega),Wbu (by rw [oa.len]; omega)]
   ·obtain ⟨σ2',f1,f2⟩:=fq A (σ':=Z.put B.dst v) hl (fv _ _ _) (viaB _ e2 off) ha;exact ⟨σ2',f1,f2.on,f2.off,by rw [f2.b,e1,fv],.inr hbp,.inl (fv _ _ _)⟩
  ·by_cases hap:dT A.k=true
   ·obtain ⟨v,e1,_⟩:=AA A hap (λ_ _=>rfl) ha;have hb1:Z.b=σ1.b:=by rw [e1,fv]
    obtain ⟨σ1',f1,f2⟩:=fq B (σ':=Z) oa.len.symm hb1 rB hb;have hl:σ1'.t.length=Z.t.length:=f2.a7;refine ⟨σ1',f1,f2.on,f2.off,hl,?_⟩;obtain ⟨v',e3,e4⟩:=AA A (σ':=σ1') hap (viaB _ f1 f2.off) ha;refine ⟨_,e4,λk hk=>?_,λk hk=>?_,by rw [fv,f2.b],.inl hb1,.inr hap⟩
    ·have hkd:A.dst=some k:=by
      grind [Wk,Wo,GC]
     rw [e3,fJ,fJ,hl];by_cases hlt:k<Z.t.length
     ·rw [if_pos ⟨hkd,hlt⟩,if_pos ⟨hkd,hlt⟩]
     ·rw [if_neg (λh=>hlt h.2),if_neg (λh=>hlt h.2),Wbu (by omega),Wbu (by omega)]
    ·rw [fJ,if_neg (λh=>hk (dV k h.1))]
   ·have hq:i4 Z A σ1=true/\i4 σ1 B σ2=true:=by
     grind
    have hb1:=Tr ha hq.1;have hb2:=Tr hb hq.2;obtain ⟨σ1',f1,f2⟩:=fq B (σ':=Z) oa.len.symm hb1.symm rB hb;refine ⟨σ1',f1,f2.on,f2.off,f2.a7,?_⟩;obtain ⟨σ2',g1,g2⟩:=fq A (σ':=σ1') f2.a7 (by rw [f2.b,hb2,hb1]) (viaB _ f1 f2.off) ha;exact ⟨σ2',g1,g2.on,g2.off,by rw [g2.b,hb2],.inl hb1.symm,.inl (by rw [f2.b,hb2,hb1])⟩
 obtain ⟨σ1',k1,k2,k3,k4,σ2',k5,k6,k7,k8,k9,k10⟩:=key;have e:σ2'=σ2:=by
  have et:σ2'.t=σ2.t:=by
   apply Wby;intro k;by_cases hA:k∈Wo A
   ·rw [k6 k hA,ob.fr k (wa k hA).2]
   ·rw [k7 k hA];by_cases hB:k∈Wo B
    ·rw [k2 k hB]
    ·rw [k3 k hB,ob.fr k hB,oa.fr k hA]
  cases σ2'; simp_all
 subst e;exact ⟨σ1',k1,k5,λsa sb=>⟨oa.fr,k3,λd hd=>k2 d (dV d hd),λd hd=>k6 d (dV d hd),k9.imp_right .inl,k10.imp_right .inl⟩⟩
theorem Wj(hb:σ'.b=Z.b∨dT o.k=true∨f7 o.k=true)(hr:∀ t∈eR o,σ'.t[t]?=Z.t[t]?)(hd:∀ d,o.dst=some d->σ1'.t[d]?=σ1.t[d]?):i4 σ' o σ1'=i4 Z o σ1:=by
 rcases hb with h | h | h
 ·grind [Nn]
 ·grind [Nn]
 ·unfold i4;rw [iu (λj w hg=>hr j (iI hg))];cases hk:o.k <;> rw [hk] at h <;> simp [f7] at h <;> rfl
theorem V3(hb:σ'.b=Z.b∨dT o.k=true∨f7 o.k=true)(hr:∀ t∈eR o,σ'.t[t]?=Z.t[t]?):xv nb σ' o id=xv nb Z o id:=by
 unfold xv;rcases hb with hb | h | h
 rotate_left
 ·simp [h]
 ·simp [h]
 congr 1;rw [iu (λj w hg=>hr j (iI hg))];cases hk:o.k with
 | call f xs ys=>
  have hrk:∀ t∈dE o.k,σ'.t[t]?=Z.t[t]?:=λt ht=>hr t (mz ht);rw [hk] at hrk;simp only [dE] at hrk;have e1:xs.mapM (hS σ')=xs.mapM (hS Z):=mi xs (λs hs=>vK hb (λt ht=>hrk t (Wbs.2 ⟨s,hs,ht⟩)));have e2:∀ vs,iq nb σ' o.dst vs xs ys=iq nb Z o.dst vs xs ys:=by
   intro vs;unfold iq;rw [uy xs _ hrk,hb];congr 3;have hcc:∀ s∈xs,fP (s.1.get σ')=fP (s.1.get Z):=λs hs=>by rw [cM (λt ht=>hrk t (Wbs.2 ⟨s,hs,ht⟩))]
   clear hrk e1 hk
   induction xs with
   | nil=>rfl
   | cons s xs ih=>
    simp only [WbM,hcc s (by simp)];rw [ih (λs hs=>hcc s (by simp [hs]))]
  simp only [e1,e2]
 | _=>rfl
theorem Da{o:COp}(hb:σ'.b=Z.b∨dT o.k=true∨f7 o.k=true)(hr:∀ t∈eR o,σ'.t[t]?=Z.t[t]?):∀ (w:List Nat),(∀ r∈w,σ'.t[r]?=Z.t[r]?)->qY nb σ' o w=qY nb Z o w
 | [],_=>rfl
 | r::w,h=>by
  simp [qY,h r (by simp),Da hb hr w (λr hr=>h r (by simp [hr]))]
  grind [V3]
theorem Uw(hr:∀ t∈eR o,σ'.t[t]?=Z.t[t]?)(h:σ'.t[r]?=Z.t[r]?):rk σ' o r=rk Z o r:=by
 grind [Src.tmps,dE,mz,rk]
theorem UO(hr:∀ t∈eR o,σ'.t[t]?=Z.t[t]?)(hd:∀ d,o.dst=some d->σ1'.t[d]?=σ1.t[d]?):t9 σ' o σ1'=t9 Z o σ1:=by
 unfold t9;rw [iu (λj w hg=>hr j (iI hg))];have hrk:∀ t∈dE o.k,σ'.t[t]?=Z.t[t]?:=λt ht=>hr t (mz ht);cases hk:o.k with
 | call f xs ys=>
  rw [hk] at hrk;have e:(xs.all λs=>decide (s.2<2)&&yO (s.1.get σ'))=(xs.all λs=>decide (s.2<2)&&yO (s.1.get Z)):=by
   have hc:∀ s∈xs,s.1.get σ'=s.1.get Z:=λs hs=>cM (λt ht=>hrk t (Wbs.2 ⟨s,hs,ht⟩));rw [WbF,Wbj,Wbj];constructor
   ·intro hh c hcc; rw [<- hc c hcc]; exact hh c hcc
   ·intro hh c hcc; rw [hc c hcc]; exact hh c hcc
  cases hds:o.dst with
  | none=>rfl
  | some d=>simp only [e,hd d hds]
 | _=>rfl
theorem IL{vs:List V}{xs:List (Src × Nat)}{ys:List Nat}(hb:σ'.b=Z.b)(hrk:∀ t∈xs.flatMap (λp=>p.1.tmps),σ'.t[t]?=Z.t[t]?):iq nb σ' dst vs xs ys=iq nb Z dst vs xs ys:=by
 unfold iq;rw [uy xs _ hrk,hb];congr 3;have hcc:∀ s∈xs,fP (s.1.get σ')=fP (s.1.get Z):=λs hs=>by grind [cM]
 clear hrk
 induction xs with
 | nil=>rfl
 | cons s xs ih=>
  simp only [WbM,hcc s (by simp)];rw [ih (λs hs=>hcc s (by simp [hs]))]
theorem JV(hb:σ'.b=Z.b∨dT o.k=true∨f7 o.k=true)(hr:∀ t∈eR o,σ'.t[t]?=Z.t[t]?):kOf nb σ' o=kOf nb Z o:=by
 unfold kOf;rw [iu (λj w hg=>hr j (iI hg))];have hrk:∀ t∈dE o.k,σ'.t[t]?=Z.t[t]?:=λt ht=>hr t (mz ht);cases hk:o.k with
 | call f xs ys=>
  rw [hk] at hrk hb;simp only [dE] at hrk;have hb:σ'.b=Z.b:=hb.resolve_right (by simp [dT,f7]);have e1:xs.mapM (hS σ')=xs.mapM (hS Z):=mi xs (λs hs=>vK hb (λt ht=>hrk t (Wbs.2 ⟨s,hs,ht⟩)));simp only [e1,IL hb hrk]
 | aR f xs ys=>
  rw [hk] at hrk hb;simp only [dE] at hrk;have hb:σ'.b=Z.b:=hb.resolve_right (by simp [dT,f7]);have hrk2:∀ t∈xs.flatMap (λp=>p.1.tmps),σ'.t[t]?=Z.t[t]?:=λt ht=>hrk t (Wbw _ ht);have e1:xs.mapM (hS σ')=xs.mapM (hS Z):=mi xs (λs hs=>vK hb (λt ht=>hrk2 t (Wbs.2 ⟨s,hs,ht⟩)));simp only [e1,IL hb hrk2,cM (s:=f) (λt ht=>hrk t (Wbv _ ht))]
 | aE n x=>
  rw [hk] at hrk hb;have hb:σ'.b=Z.b:=hb.resolve_right (by simp [dT,f7]);simp only [cM (s:=x) hrk,hb]
 | load agg n x take=>
  rw [hk] at hrk;simp only [cM (s:=x) hrk]
 | store n x y=>
  rw [hk] at hrk;simp only [dE] at hrk;simp only [cM (s:=x) (λt ht=>hrk t (Wbv _ ht))]
 | append sz bytes x y=>
  rw [hk] at hrk;simp only [dE] at hrk;simp only [cM (s:=x) (λt ht=>hrk t (Wbv _ ht)),cM (s:=y) (λt ht=>hrk t (Wbw _ ht))]
 | _=>rfl
theorem nL(hk:kOf nb σ' o=kOf nb Z o)(hw:∀ t∈fl.roots,σ'.t[t]?=Z.t[t]?):rc nb σ' o fl=rc nb Z o fl:=by
 unfold rc;rw [hk];cases kOf nb Z o with
 | none=>rfl
 | some K=>
  simp only;have e2:fl.w.all (vG σ' K)=fl.w.all (vG Z K):=by
   have hc:∀ r∈fl.w,vG σ' K r=vG Z K r:=λr hr=>by
    unfold vG;rw [hw r (by simp [Fl.roots,hr])]
   rw [WbF,Wbj,Wbj];constructor
   ·intro hh c hcc; rw [<- hc c hcc]; exact hh c hcc
   ·intro hh c hcc; rw [hc c hcc]; exact hh c hcc
  cases hf:fl.root with
  | none=>simp only [e2]
  | some r=>
   have:Lf σ' r=Lf Z r:=by
    funext id;unfold Lf;rw [hw r (by simp [Fl.roots,hf])]
   simp only [this,e2]
theorem uz(hb:σ'.b=Z.b∨dT o.k=true∨f7 o.k=true∨(fl.s&&!fl.l)=true)(hr:∀ t∈eR o,σ'.t[t]?=Z.t[t]?)(hw:∀ t∈fl.roots,σ'.t[t]?=Z.t[t]?)(hd:∀ d,o.dst=some d->σ1'.t[d]?=σ1.t[d]?):jD nb σ' o fl σ1'=jD nb Z o fl σ1:=by
 unfold jD;rw [UO hr hd];cases hl:fl.l with
 | true=>
  grind [JV,nL]
 | false=>
 simp;cases hs:fl.s with
 | true=>rfl
 | false=>
  rw [hs] at hb;have hb:σ'.b=Z.b∨dT o.k=true∨f7 o.k=true:=by
   grind
  simp;rw [Wj hb hr hd,Da hb hr fl.w (λr h=>hw r (by simp [Fl.roots,h]))]
  grind [Fl.roots,Uw]
theorem Kg(h:k≠id):(fc b id)[k]?=b[k]?:=by
 grind [fc]
theorem G0{Z:St}{k:Nat}:∀ (ss:List (Src × Nat)) (b:List B),k ∉ ss.filterMap (λs=>fP (s.1.get Z))->(di Z ss b)[k]?=b[k]?
 | [],b,h=>rfl
 | s::ss,b,h=>by
  unfold di;have h1:k ∉ ss.filterMap (λs=>fP (s.1.get Z)):=by
   grind
  rw [G0 ss _ h1];split
  ·rfl
  ·cases ho:fP (s.1.get Z) with
   | none=>rfl
   | some id=>
    refine Kg (λe=>h ?_);rw [List.mem_filterMap];exact ⟨s,by simp,by rw [ho,e]⟩
theorem yr{x:B}{f:Nat->V}(h:Z.an nb d x f=some σ1)(hk:k ∉ d.toList.map (nb+·)):σ1.b[k]?=Z.b[k]?:=by
 cases d <;> grind [St.an,St.ab,fv]
theorem zae{sz:Nat}{es:Ls}(h:Z.ao nb d af sz es=some σ1)(hk:k ∉ d.toList.map (nb+·)):σ1.b[k]?=Z.b[k]?:=by
 grind [St.ao,yr,fv]
theorem YR(h:Z.ar nb d af v=some σ1)(hk:k ∉ d.toList.map (nb+·)):σ1.b[k]?=Z.b[k]?:=by
 unfold St.ar at h
 grind [yr,zae,fv]
theorem IO(g:Nat->Nat):∀ (ids:List Nat) (bor:Bor) (b:List B) (id:Nat),id ∉ ids->(gA g ids bor b)[id]?=b[id]?
 | [],bor,b,id,h=>by cases bor <;> rfl
 | i::ids,[],b,id,h=>rfl
 | i::ids,x::bor,b,id,h=>by
  simp [gA];rw [IO g ids bor _ id (λhh=>h (by simp [hh])),List.getElem?_set_ne (λe=>h (by simp [e]))]
theorem zaJ(h:cW cb nb Z o=some σ1)(ha:xv nb Z o id=true):σ1.b[id]?=Z.b[id]?:=by
 unfold xv at ha;rw [WbA,WbA] at ha;rcases ha with (ha | ha) | ha
 ·obtain ⟨v,rfl,_⟩:=AA o ha (λ_ _=>rfl) h;rw [fv]
 ·have:σ1.b=Z.b:=by
   grind [f7,i4,Tr,cW]
  rw [this]
 ·unfold cW at h;cases hg:gJ Z o.guard with
  | none=>rw [hg] at h; cases h
  | some g=>
   rw [hg] at h ha;cases g with
   | false=>simp only at h; cases h; rw [fv]
   | true=>
    simp only at h ha;cases hk:o.k with
    | call f xs ys=>
     rw [hk] at h ha;simp only [bZ,Wab,Waa] at h;obtain ⟨vs,h1,h2⟩:=h;simp only [h1] at ha;have ha:id ∉ iq nb Z o.dst vs xs ys:=by
      grind
     simp only [iq,Wbt,not_or] at ha;obtain ⟨⟨⟨a1,a2⟩,a3⟩,a4⟩:=ha;unfold kY at h2;simp only [Wab,Waa,Prod.exists] at h2;obtain ⟨bor,_,r,bor',_,h2⟩:=h2;split at h2
     ·have:=YR h2 a4;rw [this];simp only;rw [IO _ _ _ _ _ ?_,G0 _ _ a2];intro hh;rw [Wbt] at hh;rcases hh with hh | hh
      ·exact a1 hh
      ·exact a3 (List.mem_of_mem_take hh)
     ·cases h2
    | alloc p cs=>
     rw [hk] at h ha;simp only [bZ] at h;refine yr h (λhh=>?_);have:(o.dst.toList.map (nb+·)).contains id=true:=WbE.2 hh;simp only [this] at ha; cases ha
    | box p x=>
     rw [hk] at h ha;have hn:id ∉ o.dst.toList.map (nb+·):=λhh=>by
      grind
     simp only [bZ] at h;split at h
     ·split at h
      ·cases h
      ·exact yr h hn
     ·split at h
      ·exact yr h hn
      ·cases h
    | _=>rw [hk] at ha; cases ha
theorem RC(h:cW cb nb Z o=some σ1)(hs:t9 Z o σ1=true):∃ v,σ1=Z.put o.dst v/\∀ σ':St,(∀ t∈eR o,σ'.t[t]?=Z.t[t]?)->cW cb nb σ' o=some (σ'.put o.dst v):=by
 unfold cW at h;unfold t9 at hs;cases hg:gJ Z o.guard with
 | none=>rw [hg] at h; cases h
 | some g=>
  rw [hg] at h hs;cases g with
  | false=>
   grind [iu,iI,cW]
  | true=>
   simp only at h hs;cases hk:o.k with
   | call f xs ys=>
    cases hds:o.dst with
    | none=>rw [hk,hds] at hs; cases hs
    | some d=>
     rw [hk,hds] at hs;rw [hk,hds] at h;simp only [WaG,Wbx,Wbj,decide_eq_true_eq,List.isEmpty_iff] at hs;obtain ⟨⟨⟨hpin,hys⟩,hargs⟩,hd⟩:=hs;subst hys;rw [hpin] at h;simp [bZ,Waa] at h;obtain ⟨vs,h1,h2⟩:=h;have hown:∀ s∈xs,fP (s.1.get Z)=none:=λs hs=>by
      have:=(hargs s hs).2;cases hx:s.1.get Z <;> rw [hx] at this <;> simp [yO] at this <;> rfl
     have hrefs:vs.flatMap dL=[]:=by
      rw [WbH];intro v hv;obtain ⟨i,hi⟩:=WbK hv;have hlt:i<xs.length:=by rw [<- Kw h1]; exact (List.getElem?_eq_some_iff.1 hi).1
      obtain ⟨v',g1,g2⟩:=NX h1 i _ (Wac hlt);rw [hi] at g1; cases g1;refine MZ (hargs _ (List.getElem_mem hlt)).1 ?_ g2;have:=(hargs _ (List.getElem_mem hlt)).2;cases hx:(xs[i]).1.get Z <;> rw [hx] at this <;> simp [yO] at this <;> simp [lU,this]
     have gen:∀ (τ:St),(∀ s∈xs,fP (s.1.get τ)=none)->kY cb nb τ (some d) false f vs xs []=(cb f (vs.map (jI (eT []))) []).bind λp=>
       if ((p.2.take ([]:List Nat).length).map B.len=([]:Bor).map B.len/\p.2.length=(([]:List Nat)++(([]:List Nat).map (nb+·)).take (p.2.length-([]:List Nat).length)).length/\vs.all (λa=>(dL a).all ([]:List Nat).contains)/\Co p.1/\(mD p.1).all (λk=>decide (k<(([]:List Nat)++(([]:List Nat).map (nb+·)).take (p.2.length-([]:List Nat).length)).length))/\p.2.all (B.lend (List.range (([]:List Nat)++(([]:List Nat).map (nb+·)).take (p.2.length-([]:List Nat).length)).length))/\qv (p.2.take ([]:List Nat).length) ([]:Bor)/\(p.2.drop ([]:List Nat).length).all B.isRow/\tW τ.b nb []) then
        St.ar nb τ (some d) false (oQ (λk=>(([]:List Nat)++(([]:List Nat).map (nb+·)).take (p.2.length-([]:List Nat).length)).getD k 0) p.1)
       else none:=by
      intro τ hτ;have hfz:di τ xs τ.b=τ.b:=B4 xs _ (λs hs id hid=>by rw [hτ s hs] at hid; cases hid);have hids:fW τ.b vs=[]:=by unfold fW; rw [hrefs,Ni]
      unfold kY;simp only [hfz,hids,lZ,Wab,Wbz];congr 1;funext p;have e:gA (λk=>(([]:List Nat)++(WbO (nb+·) []).take (p.2.length-([]:List Nat).length)).getD k 0) (([]:List Nat)++(WbO (nb+·) []).take (p.2.length-([]:List Nat).length)) p.2 τ.b=τ.b:=by simp [gA]
      rw [e]
     rw [gen Z hown,Waa] at h2;obtain ⟨⟨r,bor'⟩,hcb,h3⟩:=h2;simp only at h3;split at h3
     ·rename_i hcond;generalize hr':oQ _ r=r' at h3;have hnb:∀ p cs,r'≠.bx p cs:=λp cs hbx=>by
       subst hbx;simp only [St.ar,St.an] at h3;split at h3
       ·cases h3;simp only [St.put,St.ab] at hd;split at hd
        ·rename_i v hv;rw [WbB] at hv;simp only [if_true] at hv;split at hv
         ·cases hv; simp [uj] at hd
         ·cases hv
        ·cases hd
       ·cases h3
      have putc:∃ v,∀ τ:St,τ.ar nb (some d) false r'=some (τ.put (some d) v):=by
       cases r' with
       | bx p cs=>exact absurd rfl (hnb p cs)
       | fr sz es=>exact ⟨.gs sz es,λτ=>rfl⟩
       | gs sz es=>exact ⟨.gs sz es,λτ=>rfl⟩
       | _=>exact ⟨_,λτ=>rfl⟩
      obtain ⟨v,hv⟩:=putc;rw [hv Z] at h3;refine ⟨v,(Option.some.inj h3).symm,λσ' hr=>?_⟩;have hrk:∀ t∈dE o.k,σ'.t[t]?=Z.t[t]?:=λt ht=>hr t (mz ht);rw [hk] at hrk;have hc:∀ s∈xs,s.1.get σ'=s.1.get Z:=λs hs=>cM (λt ht=>hrk t (Wbs.2 ⟨s,hs,ht⟩));have hargs':∀ s∈xs,hS σ' s=hS Z s:=λs hs=>by
       have h2:=(hargs s hs).2;have h3:=(hargs s hs).1;have hl:∀ v,tr s.2 v=none:=λv=>by unfold tr; rw [if_neg (by omega)]
       simp only [hS,TP h3,tf,hl,hc s hs];cases hx:s.1.get Z <;> rw [hx] at h2 <;> simp [yO] at h2 <;> rfl
      unfold cW;rw [iu (λj w hg=>hr j (iI hg)),hg];simp only [hk,hds,hpin,bZ];rw [mi xs hargs',h1];simp only [Wab,Wbz];rw [gen σ' (λs hs=>by rw [hc s hs]; exact hown s hs),hcb];simp only [Wbz];rw [if_pos (by exact hcond),hr',hv σ']
     ·cases h3
   | _=>rw [hk] at hs; cases hs
theorem HL(hl:f7 o.k=true)(hr:∀ t∈eR o,σ'.t[t]?=Z.t[t]?)(hb:∀ agg n a take id off,o.k=.load agg n a take->a.get Z=.ptr id off->σ'.b[id]?=Z.b[id]?)(h:cW cb nb Z o=some σ1):∃ v,σ1=Z.put o.dst v/\cW cb nb σ' o=some (σ'.put o.dst v):=by
 unfold cW at h ⊢;rw [iu (λj w hg=>hr j (iI hg))];split at h
 ·cases hk:o.k with
  | load agg n a take=>
   rw [hk] at h hl;exact Oj hl (cM (λt ht=>hr t (mz (by rw [hk]; exact ht)))) (λid off=>hb _ _ _ _ id off hk) h
  | _=>rw [hk] at hl; cases hl
 ·cases h; exact ⟨_,rfl,rfl⟩
 ·cases h
theorem QJ{A B:COp}{w:List Nat}(hra:rk Z A r=true)(hm:rh (some r) w=true)(hB:cW cb nb σ' B=some σ1)(hw:qY nb σ' B w=true)(ht:σ'.t[r]?=Z.t[r]?) :
  ∀ agg n a take id off,A.k=.load agg n a take->a.get Z=.ptr id off->σ1.b[id]?=σ'.b[id]?:=by
 intro agg n a take id off hk hg;unfold rk at hra;rw [WaG] at hra;have hra:=hra.2;rw [hk] at hra;cases a with
 | const v=>cases hra
 | tmp p=>
  simp only at hra;split at hra
  ·rename_i id1 o1 id2 o2 h1 h2;have e:=Nat.eq_of_beq_eq_true hra;have:id=id1:=by
    simp only [Src.get,Wak,h1,WbN] at hg;cases hg; rfl
   subst this; subst e;have hm:r∈w:=WbE.1 hm;have key:∀ (w:List Nat),r∈w->qY nb σ' B w=true->xv nb σ' B id=true:=by
    intro w
    induction w with
    | nil=>intro h; cases h
    | cons x w ih=>
     intro h hh;simp only [qY,WaG] at hh;rcases WbL.1 h with rfl | h
     ·have:=hh.1;rw [ht,h2] at this;exact this
     ·exact ih h hh.2
   exact zaJ hB (key w hm hw)
  ·rename_i h1;simp only [Src.get,Wak,h1,WbN] at hg;cases hg
  ·cases hra
theorem zaH{σ2:St}{d:Nat}(e:σ2=σ1.put dst v)(hd:dst=some d)(hl:σ1.t.length=Z.t.length):(Z.put dst v).t[d]?=σ2.t[d]?:=by
 grind [fJ]
theorem zhj{A B:COp}{qa qb:Fl}{σ2:St}(ha:cW cb nb Z A=some σ1)(hb:cW cb nb σ1 B=some σ2)(fa:jD nb Z A qa σ1=true)(fb:jD nb σ1 B qb σ2=true)(pk:Aj (A,qa) (B,qb)=true)(hL:(qa.l&&qb.l)=false∨dT A.k=true∨dT B.k=true) :
  ∃ σ1',cW cb nb Z B=some σ1'/\cW cb nb σ1' A=some σ2/\jD nb Z B qb σ1'=true/\jD nb σ1' A qa σ2=true:=by
 simp only [Aj,WaG] at pk;obtain ⟨⟨hs,hroots⟩,hq0⟩:=pk;have hq:dT A.k=true∨dT B.k=true∨((!qa.l)=true/\(!qb.l)=true/\(((((((dT A.k=true∨dT B.k=true)∨(((qa.q=true/\qb.q=true)/\(!qa.s)=true)/\(!qb.s)=true))∨((rh qa.root qb.w=true/\(!qa.s)=true)/\(!qb.s)=true))∨((rh qb.root qa.w=true/\(!qa.s)=true)/\(!qb.s)=true))∨qa.s=true)∨qb.s=true))):=by
  grind
 have hroots:=jq hroots;have rr:∀ t,t∈qa.roots∨t∈qb.roots->t ∉ Wo A/\t ∉ Wo B:=by
  intro t ht;constructor
  ·intro hh;exact hroots t (Wbt.2 (.inl hh)) (Wbt.2 ht)
  ·intro hh;exact hroots t (Wbt.2 (.inr hh)) (Wbt.2 ht)
 have hs0:=hs;simp only [mY,WaG] at hs;have s1:=jq hs.1;have s2:=jq hs.2;have wa:∀ k∈Wo A,k ∉ eR B/\k ∉ Wo B:=λk hk=>by
  grind [Wk,Wo]
 have wb:∀ k∈Wo B,k ∉ eR A/\k ∉ Wo A:=λk hk=>by
  grind [Wk,Wo]
 obtain ⟨_,_,oa⟩:=fq A rfl rfl (λ_ _=>rfl) ha;obtain ⟨_,_,ob⟩:=fq B rfl rfl (λ_ _=>rfl) hb;have rB:∀ t∈eR B,Z.t[t]?=σ1.t[t]?:=λt ht=>(oa.fr t (λhh=>(wa t hh).1 ht)).symm;have main:∃ σ1',cW cb nb Z B=some σ1'/\cW cb nb σ1' A=some σ2/\Side A B (qa.s&&!qa.l) (qb.s&&!qb.l) Z σ1 σ2 σ1':=by
  have fa':=fa;have fb':=fb;have swp:∀ hq,∃ σ1',cW cb nb Z B=some σ1'/\cW cb nb σ1' A=some σ2/\Side A B (qa.s&&!qa.l) (qb.s&&!qb.l) Z σ1 σ2 σ1':=λhq=>by
   obtain ⟨σ1',q1,q2,q3⟩:=zfY ha hb hs0 hq;exact ⟨σ1',q1,q2,q3 _ _⟩
  have nos:∀ {s:Bool},(!s)=true->s=false:=λ{s} h=>by grind
  rcases hq with h | h | ⟨hla,hlb,hq⟩
  ·exact swp (.inl h)
  ·exact swp (.inr (.inl h))
  have hla:=nos hla;have hlb:=nos hlb;simp only [jD,hla,cond_false] at fa';simp only [jD,hlb,cond_false] at fb';rcases hq with (((((h | h) | h) | h) | h) | h) | h
  ·exact swp (.inl h)
  ·exact swp (.inr (.inl h))
  ·obtain ⟨⟨⟨hqa,hqb⟩,hsa⟩,hsb⟩:=h;have h:qa.q=true/\qb.q=true:=⟨hqa,hqb⟩;simp only [nos hsa,nos hsb,cond_false,WaG,WbA,Wbx] at fa' fb';obtain ⟨⟨fa1,fa2⟩,fa3⟩:=fa';obtain ⟨⟨fb1,fb2⟩,fb3⟩:=fb';refine swp (.inr (.inr ⟨?_,?_⟩))
   ·rcases fa1 with e | e
    ·rw [h.1] at e; cases e
    ·exact e
   ·rcases fb1 with e | e
    ·rw [h.2] at e; cases e
    ·exact e
  ·
   obtain ⟨⟨h,hsa⟩,hsb⟩:=h;simp only [nos hsa,nos hsb,cond_false,WaG,WbA,Wbx] at fa' fb';obtain ⟨⟨fa1,fa2⟩,fa3⟩:=fa';obtain ⟨⟨fb1,fb2⟩,fb3⟩:=fb';cases hr:qa.root with
   | none=>rw [hr] at h; cases h
   | some r=>
    rw [hr] at h fa2;simp only [rh] at h;simp only at fa2;have hrm:r∈qb.w:=WbE.1 h;have hrA:r ∉ Wo A:=(rr r (.inl (by simp [Fl.roots,hr]))).1;have hlA:f7 A.k=true:=by
     grind [rk]
    obtain ⟨v,e1,_⟩:=HL (σ':=Z) hlA (λ_ _=>rfl) (λ_ _ _ _ _ _ _ _=>rfl) ha;have hb1:σ1.b=Z.b:=by rw [e1,fv]
    obtain ⟨σ1',f1,f2⟩:=fq B (σ':=Z) oa.len.symm hb1.symm rB hb;have hw:qY nb Z B qb.w=true:=by
     rw [<- Da (Z:=Z) (σ':=σ1) (.inl hb1) (λt ht=>(rB t ht).symm) qb.w (λt ht=>oa.fr t (rr t (.inr (by simp [Fl.roots,ht]))).1)];exact fb3
    have hblk:=QJ fa2 h f1 hw rfl;obtain ⟨v',e3,e4⟩:=HL (σ':=σ1') hlA (λt ht=>f2.off t (λhh=>(wb t hh).1 ht)) hblk ha;have e:σ1'.put A.dst v'=σ2:=by
     have eb:(σ1'.put A.dst v').b=σ2.b:=by rw [fv,f2.b]
     have et:(σ1'.put A.dst v').t=σ2.t:=by
      apply Wby;intro k;rw [fJ,f2.a7];by_cases hA:A.dst=some k/\k<Z.t.length
      ·rw [if_pos hA];have hkA:k∈Wo A:=dV k hA.1;rw [ob.fr k (wa k hkA).2,e3,fJ,if_pos hA]
      ·rw [if_neg hA];by_cases hB:k∈Wo B
       ·exact f2.on k hB
       ·rw [f2.off k hB,ob.fr k hB,e3,fJ,if_neg hA]
     cases hz:σ1'.put A.dst v'; rw [hz] at eb et; cases σ2; grind
    refine ⟨σ1',f1,by rw [e4,e],oa.fr,f2.off,λd hd=>f2.on d (dV d hd),λd hd=>ob.fr d (wa d (dV d hd)).2,.inl hb1.symm,.inr (.inr (.inl hlA))⟩
  ·
   obtain ⟨⟨h,hsa⟩,hsb⟩:=h;simp only [nos hsa,nos hsb,cond_false,WaG,WbA,Wbx] at fa' fb';obtain ⟨⟨fa1,fa2⟩,fa3⟩:=fa';obtain ⟨⟨fb1,fb2⟩,fb3⟩:=fb';cases hr:qb.root with
   | none=>rw [hr] at h; cases h
   | some r=>
    rw [hr] at h fb2;simp only at fb2;have hlB:f7 B.k=true:=by
     grind [rk]
    have hrA:r ∉ Wo A:=(rr r (.inr (by simp [Fl.roots,hr]))).1;have hblk:=QJ fb2 h ha fa3 (oa.fr r hrA).symm;obtain ⟨v,e1,e2⟩:=HL (σ':=Z) hlB (λt ht=>rB t ht) (λagg n a take id off hk hg=>(hblk agg n a take id off hk hg).symm) hb;have hoff:∀ k,k ∉ Wo B->(Z.put B.dst v).t[k]?=Z.t[k]?:=λk hk=>by rw [fJ,if_neg (λh=>hk (dV k h.1))]
    have hl:(Z.put B.dst v).t.length=Z.t.length:=um _ _ _;obtain ⟨σ2',f1,f2⟩:=fq A (σ':=Z.put B.dst v) hl (fv _ _ _) (λt ht=>hoff t (λhh=>(wb t hh).1 ht)) ha;have e:σ2'=σ2:=by
     have eb:σ2'.b=σ2.b:=by rw [f2.b,e1,fv]
     have et:σ2'.t=σ2.t:=by
      apply Wby;intro k;rw [e1,fJ,oa.len];by_cases hB:B.dst=some k/\k<Z.t.length
      ·rw [if_pos hB];have hkB:k∈Wo B:=dV k hB.1;rw [f2.off k (wb k hkB).2,fJ,if_pos hB]
      ·rw [if_neg hB];by_cases hA:k∈Wo A
       ·exact f2.on k hA
       ·rw [f2.off k hA,oa.fr k hA,fJ,if_neg hB]
     cases σ2'; cases σ2; grind
    subst e;refine ⟨_,e2,f1,oa.fr,hoff,λd hd=>?_,λd hd=>f2.on d (dV d hd),.inr (.inr (.inl hlB)),.inl (fv _ _ _)⟩;rw [zaH e1 hd oa.len]
  ·
   have hsa:qa.s=true:=h;simp only [hsa,cond_true] at fa';obtain ⟨v,e3,e4⟩:=RC ha fa';have hb1:σ1.b=Z.b:=by rw [e3,fv]
   obtain ⟨σ1',f1,f2⟩:=fq B (σ':=Z) oa.len.symm hb1.symm rB hb;have e4:=e4 σ1' (λt ht=>f2.off t (λhh=>(wb t hh).1 ht));have e:σ1'.put A.dst v=σ2:=by
    have eb:(σ1'.put A.dst v).b=σ2.b:=by rw [fv,f2.b]
    have et:(σ1'.put A.dst v).t=σ2.t:=by
     apply Wby;intro k;rw [fJ,f2.a7];by_cases hA:A.dst=some k/\k<Z.t.length
     ·rw [if_pos hA];have hkA:k∈Wo A:=dV k hA.1;rw [ob.fr k (wa k hkA).2,e3,fJ,if_pos hA]
     ·rw [if_neg hA];by_cases hB:k∈Wo B
      ·exact f2.on k hB
      ·rw [f2.off k hB,ob.fr k hB,e3,fJ,if_neg hA]
    cases hz:σ1'.put A.dst v; rw [hz] at eb et; cases σ2; grind
   exact ⟨σ1',f1,by rw [e4,e],oa.fr,f2.off,λd hd=>f2.on d (dV d hd),λd hd=>ob.fr d (wa d (dV d hd)).2,.inl hb1.symm,.inr (.inr (.inr (by rw [hsa,hla]; rfl)))⟩
  ·
   have hsb:qb.s=true:=h;simp only [hsb,cond_true] at fb';obtain ⟨v,e1,e2⟩:=RC hb fb';have e2:=e2 Z rB;have hoff:∀ k,k ∉ Wo B->(Z.put B.dst v).t[k]?=Z.t[k]?:=λk hk=>by rw [fJ,if_neg (λh=>hk (dV k h.1))]
   have hl:(Z.put B.dst v).t.length=Z.t.length:=um _ _ _;obtain ⟨σ2',f1,f2⟩:=fq A (σ':=Z.put B.dst v) hl (fv _ _ _) (λt ht=>hoff t (λhh=>(wb t hh).1 ht)) ha;have e:σ2'=σ2:=by
    have eb:σ2'.b=σ2.b:=by rw [f2.b,e1,fv]
    have et:σ2'.t=σ2.t:=by
     apply Wby;intro k;rw [e1,fJ,oa.len];by_cases hB:B.dst=some k/\k<Z.t.length
     ·rw [if_pos hB];have hkB:k∈Wo B:=dV k hB.1;rw [f2.off k (wb k hkB).2,fJ,if_pos hB]
     ·rw [if_neg hB];by_cases hA:k∈Wo A
      ·exact f2.on k hA
      ·rw [f2.off k hA,oa.fr k hA,fJ,if_neg hB]
    cases σ2'; cases σ2; grind
   subst e;refine ⟨_,e2,f1,oa.fr,hoff,λd hd=>?_,λd hd=>f2.on d (dV d hd),.inr (.inr (.inr (by rw [hsb,hlb]; rfl))),.inl (fv _ _ _)⟩;rw [zaH e1 hd oa.len]
 obtain ⟨σ1',k1,k2,S⟩:=main;refine ⟨σ1',k1,k2,?_,?_⟩
 ·rw [<- fb];exact uz S.bB rB (λt ht=>(oa.fr t (rr t (.inr ht)).1).symm) S.dB
 ·rw [<- fa];exact uz S.bA (λt ht=>S.fB t (λhh=>(wb t hh).1 ht)) (λt ht=>S.fB t (rr t (.inl ht)).2) S.dA
end
end Go.Proofs.YtipklgbboecciaaGreat
