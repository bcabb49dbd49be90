/- Part 6 of the proof of ScanRewinds: an abstract machine over plain values, its soundness, and the functions of the program on plain values. -/
import Derived.Test.YtipklgbboecciaaGreatMScanRewinds5
namespace Go.Proofs.YtipklgbboecciaaGreat
set_option maxRecDepth 100000
set_option linter.unusedVariables false
set_option linter.unusedSimpArgs false
open Option renaming bind_eq_some_iff->Waa,bind_eq_bind->Wab,map_eq_some_iff->Wag,bind_some->Wbz,getD_some->WbN
open List renaming getElem?_eq_getElem->Wac,mem_flatMap->Wbs,all_eq_true->Wbj,mem_append->Wbt,getElem?_eq_none->Wbu,mem_append_left->Wbv,getElem?_map->WaU,mem_append_right->Wbw,ext_getElem?->Wby,getD_eq_getElem?_getD->Wak,getElem?_set->WbB,map_cons->WbD,contains_iff_mem->WbE,getElem?_append_left->Wan,flatMap_eq_nil_iff->WbH,mem_filter->WbI,mapM_cons->WbJ,mem_of_getElem?->WaQ,getElem?_of_mem->WbK,getElem_of_mem->War,mem_cons->WbL,filterMap_cons->WbM,getElem?_take->Wai,map->WbO
open _root_.Array renaming getD_eq_getD_getElem?->Wbk,getElem?_push_lt->WbC,getElem?_eq_getElem->Wbp,getElem?_push_size->WbG
open Bool renaming and_eq_true->WaG,not_eq_true'->Wbx,or_eq_true->WbA,eq_iff_iff->WbF,false_eq_true->WaR
open Option.some renaming injEq->Waf
open Nat renaming zero_add->Wau
open Result renaming andThen_ok->Waz
section
variable {x:ResultVar}{xs:List ResultVar}{rs:List RV}{b:List B}{id n0:Nat}{rv:RV}{v r:V}{fn:Func}{bor':Bor}{u:Value}{tmps:Array Value}
variable {aa:Rn} {we:World} {ωe:Nat->Ow} {U:Nat->Nat->Prop} {O:Nat->Prop} {Z:St} {a:Act} {w:World} {ω:Nat->Ow} {μ:Nat->Nat} {P:Program} {nb:Nat}
theorem X9{rp:Bool}(h:lL P rp (x::xs)=some rs):∃ rv rest,rs=rv::rest/\lL P rp [x]=some [rv]/\lL P rp xs=some rest:=by
 cases x with
 | tmp t=>
  simp [lL,Waa] at h;obtain ⟨rest,h1,rfl⟩:=h;exact ⟨_,rest,rfl,rfl,h1⟩
 | cell t ty=>
  simp only [lL,Wab,Waa,Waf] at h;obtain ⟨b,hb,n,hn,rest,h1,rfl⟩:=h;exact ⟨_,rest,rfl,by simp [lL,hb,hn],h1⟩
variable {g:Nat->Nat}
theorem Yb{rp:Bool}(R:Rel aa we ωe U O Z a w ω μ){ω':Nat->Ow}{loc:Nat->Loc}(hwr:∀ k o,wr U ω' k o->wr U ω k o)(σ2:St)(μ2:Nat->Nat):∀ (xs:List ResultVar) (rs:List RV) (j:Nat) (vs:List V),lL P rp xs=some rs->rs.mapM (gH nb Z)=some vs ->
  (∀ i r t,rs[i]?=some r->r.slot=some t->(∀ Y h,ω Y=.gs (.slot t 0) h->ω' Y=.gs (loc (j+i)) h)/\(∀ id,id∈jM nb Z.b (Z.t.getD t .af)->∀ y,A4 nb Z.b g r.rp (Z.t.getD t .af) (loc (j+i)) id=some y->∀ Y,ω Y=.ax id->ω' Y=y)) ->
  (∀ v∈vs,∀ id∈eg v,∀ L,dS Z.b id=some L->dS σ2.b (g id)=some L/\μ2 (g id)=μ id) ->
  ∃ us,(xs.mapM (ir a.tmps)).run P w=.ok us w/\us.length=vs.length/\∀ (i:Nat) (v:V) (u:Value),vs[i]?=some v->us[i]?=some u->Rep aa (env U σ2 w ω' μ2) (loc (j+i)) (lr g v) u
 | [],rs,j,vs,hc,hv,H,H2=>by
  cases hc
  simp_all
 | x::xs,rs,j,vs,hc,hv,H,H2=>by
  obtain ⟨rv,rest,rfl,h1,h2⟩:=X9 hc;simp [Waa] at hv;obtain ⟨v,hv1,vs',hv2,rfl⟩:=hv;obtain ⟨u,e1,e2⟩:=zgK (g:=g) R h1 hv1 (l:=loc (j+0)) (σ2:=σ2) (μ2:=μ2) hwr (λt ht=>(H 0 rv t (by simp) ht).1) (λt id ht hh=>(H 0 rv t (by simp) ht).2 id hh) (λid hid=>H2 v (by simp) id hid);obtain ⟨us,e3,e4,e5⟩:=Yb R hwr σ2 μ2 xs rest (j+1) vs' h2 hv2 (λi r t hi ht=>by
   have:=H (i+1) r t (by simpa using hi) ht;rw [show j+1+i=j+(i+1) by omega]; exact this) (λv' hv'=>H2 v' (by simp [hv']))
  refine ⟨u::us,by simp [e1,e3],by simp [e4],λi v' u' hv' hu'=>?_⟩
  grind
theorem Tz{b:List B}{ids:List Nat}:∀ (l:List Nat) (bor:Bor),zb b nb ids l=some bor->bor.length=l.length/\∀ (i:Nat) (x:B),bor[i]?=some x->∃ id y,l[i]?=some id/\b[id]?=some y/\x=y.aa (fD ids)/\y.lend ids=true/\(id<nb∨y.isRow=true)
 | [],bor,h=>by
  grind [zb]
 | id0::l,bor,h=>by
  simp only [zb] at h;split at h
  ·rename_i y hy;split at h
   ·rename_i hp;rw [Wag] at h;obtain ⟨bor1,h1,rfl⟩:=h;obtain ⟨q1,q2⟩:=Tz l bor1 h1;refine ⟨by simp [q1],λi x hx=>?_⟩;cases i with
    | zero=>
     simp_all
    | succ i=>grind
   ·cases h
  ·cases h
theorem Ys(h:Vn b nb id=true):nb<=id:=by
 grind [Vn]
theorem zgG{f:Nat}{caps:List V}(h:Z7 nb b caps=true):∀ id∈m8 b (.fn f caps),nb<=id:=by
 unfold Z7 at h;split at h
 ·rename_i c off;simp at h;obtain ⟨⟨h0,h1⟩,h2⟩:=h;split at h2
  ·rename_i m hm;intro id hid;simp [m8,eg,lq,hm] at hid;rcases hid with rfl | rfl
   ·exact h1
   ·exact Ys h2
  ·cases h2
 ·cases h
theorem XW{Z:St}:∀ (rs:List RV) (vs:List V),rs.mapM (gH nb Z)=some vs->∀ id∈q7 nb Z rs,nb<=id
 | [],vs,h,id,hid=>by simp [q7] at hid
 | r::rs,vs,h,id,hid=>by
  simp [Waa] at h;obtain ⟨v,hv1,vs',hv2,rfl⟩:=h;have ih:=XW rs vs' hv2 id;simp only [q7,Wbt] at hid;rcases hid with hid | hid
  ·split at hid
   ·rename_i t ht;unfold jM at hid;split at hid
    ·grind
    ·rename_i id' off hs;simp at hid; subst hid;cases r with
     | cell _ _ _=>cases ht
     | aC _ _ _=>cases ht
     | tmp t'=>
      cases ht
      grind [gH]
     | aH t'=>
      cases ht
      grind [gH]
    ·grind
    ·rename_i id' hs;simp at hid; subst hid;cases r with
     | cell _ _ _=>cases ht
     | aC _ _ _=>cases ht
     | tmp t'=>
      cases ht
      grind [Ys,gH]
     | aH t'=>
      cases ht
      grind [gH]
    ·rename_i f caps hs;cases r with
     | cell _ _ _=>cases ht
     | aC _ _ _=>cases ht
     | tmp t'=>
      cases ht
      grind [zgG,gH]
     | aH t'=>
      cases ht
      grind [gH]
    ·simp at hid
   ·simp at hid
  ·exact ih hid
theorem zek(h:gH nb Z rv=some v)(hid:id∈m8 Z.b v)(hge:nb<=id):∃ t,rv=.tmp t/\id∈jM nb Z.b (Z.t.getD t .af)/\∀ (g:Nat->Nat) (l:Loc),A4 nb Z.b g false (Z.t.getD t .af) l id=some (.ax (g id)):=by
 cases rv with
 | aC t n p=>cases h
 | tmp t=>
  simp only [gH] at h;split at h
  ·grind [lq,m8,eg]
  ·split at h
   ·split at h
    ·split at h
     ·split at h
      ·grind [lq,m8,eg]
      ·rw [Wag] at h
       grind [lq,m8,eg]
     ·cases h
    ·cases h
   ·cases h
  ·grind [lq,m8,eg]
  ·grind [lq,m8,eg]
  ·grind [lq,m8,eg]
  ·grind [lq,m8,eg]
  ·grind [lq,m8,eg]
  ·rename_i cs hs; cases h;have q3:id∈cs.filterMap gS:=by simpa [m8,lq,eg] using hid
   exact ⟨t,rfl,by rw [hs]; simp only [jM]; exact WbI.2 ⟨q3,by simp; omega⟩,λg l=>by rw [hs]; simp only [A4]; rw [if_pos ⟨q3,by omega⟩]; rfl⟩
  ·rename_i id' hs;split at h
   ·cases h;have q:id=id':=by simpa [m8,lq,eg] using hid
    exact ⟨t,rfl,by rw [hs]; simp [jM,q],λg l=>by rw [hs]; simp only [A4]; rw [if_pos q]⟩
   ·cases h
  ·rename_i f caps hs;split at h
   ·cases h;exact ⟨t,rfl,by rw [hs]; simp only [jM]; exact hid,λg l=>by rw [hs]; simp only [A4]; rw [if_pos hid]⟩
   ·cases h
  ·cases h
 | aH t=>
  simp only [gH] at h;split at h
  ·grind [lq,m8,eg]
  ·rw [Wag] at h
   grind [lq,m8,eg]
  ·grind [lq,m8,eg]
  ·grind [lq,m8,eg]
  ·grind [lq,m8,eg]
  ·grind [lq,m8,eg]
  ·cases h
 | cell t agg n=>
  exfalso
  simp only [gH] at h;split at h
  ·split at h
   ·split at h
    ·split at h
     ·split at h
      ·grind [lq,m8,eg]
      ·rw [Wag] at h
       grind [lq,m8,eg]
     ·cases h
    ·split at h
     ·rw [Waa] at h;obtain ⟨c,_,hp⟩:=h;unfold V.plain at hp
      grind [lq,m8,eg]
     ·cases h
   ·cases h
  ·cases h
theorem zhm(h:∀ vs,r≠.ae vs):LS b r=m8 b r:=by
 cases r <;> first | rfl | exact absurd rfl (h _)
theorem zfm(h:id∈o4 r):id∈LS b r:=by
 cases r <;> first | exact Wbv _ h | (simp only [o4,LS,Wbs] at h ⊢; obtain ⟨v,hv,h⟩:=h; exact ⟨v,hv,Wbv _ h⟩)
theorem zeY(h:gH nb Z rv=some v):∀ vs,v≠.ae vs:=by
 rintro vs rfl
 cases rv with
 | aC t n p=>cases h
 | tmp t=>
  simp only [gH] at h
  repeat' (split at h)
  all_goals first | (cases h; done) | (rw [Wag] at h; obtain ⟨_,_,e⟩:=h; cases e)
 | aH t=>
  simp only [gH] at h
  repeat' (split at h)
  all_goals first | (cases h; done) | (rw [Wag] at h; obtain ⟨_,_,e⟩:=h; cases e)
 | cell t agg n=>
  simp only [gH] at h;split at h
  ·split at h
   ·split at h
    ·split at h
     ·split at h
      ·cases h
      ·simp_all
     ·cases h
    ·split at h
     ·rw [Waa] at h;obtain ⟨c,_,hp⟩:=h;unfold V.plain at hp;split at hp <;> cases hp
     ·cases h
   ·cases h
  ·cases h
theorem zie{rp:Bool}(R:Rel aa we ωe U O Z a w ω μ)(hrs:lL P rp fn.results.toList=some rs)(h:KD nb Z rs=some (r,bor')) :
  ∃ u,(Go.results fn a.tmps).run P w=.ok u w/\∃ ω' μ',Rel aa we ωe U O ⟨[r],bor'.map toB⟩ ⟨#[u],[]⟩ w ω' μ'/\∀ k,k<nb->μ' k=μ k:=by
 unfold KD at h;simp only [Wab,Waa] at h;obtain ⟨r0,hr,b0,hb,h⟩:=h;split at h
 ·rename_i hnd;simp at h;obtain ⟨rfl,rfl⟩:=h;have hn:=NJ hnd;obtain ⟨ids,hids⟩:∃ ids,ids=nZ Z.b nb r0:=⟨_,rfl⟩;rw [<- hids] at hn hb ⊢;have hlow:∀ k,k<nb->ids[k]?=some k:=by
   intro k hk;rw [hids]; unfold nZ;rw [Wan (by simpa using hk),List.getElem?_range hk]
  have hglow:∀ k,k<nb->fD ids k=k:=λk hk=>wN hn (hlow k hk);have hin:∀ id∈o4 r0,id∈ids:=by
   intro id hid;rw [hids]; unfold nZ;by_cases hk:id<nb
   ·exact Wbv _ (List.mem_range.2 hk)
   ·exact Wbw _ (WbI.2 ⟨zfm hid,by simpa using hk⟩)
  have hhigh:∀ id∈ids,nb<=id->id∈LS Z.b r0:=by
   intro id hid hge;rw [hids] at hid; unfold nZ at hid;rcases Wbt.1 hid with h | h
   ·have:=List.mem_range.1 h; omega
   ·exact (WbI.1 h).1
  unfold results at hr;split at hr
  ·rename_i hd;simp only [WaG] at hd;obtain ⟨hd1,hd2⟩:=hd;obtain ⟨loc,vs,hvs,hloc⟩:∃ (loc:Nat->Loc) (vs:List V),rs.mapM (gH nb Z)=some vs/\((rs.length=1/\vs=[r0]/\loc 0=.slot 0 0/\∀ vs,r0≠.ae vs)∨(rs.length≠1/\r0=.ae vs/\∀ j,loc j=.slot 0 (j+1))):=by
    split at hr
    ·exact ⟨λ_=>.slot 0 0,[r0],by simp [hr],.inl ⟨rfl,rfl,rfl,zeY hr⟩⟩
    ·rename_i hne;rw [Wag] at hr;obtain ⟨vs,h1,h2⟩:=hr;exact ⟨λj=>.slot 0 (j+1),vs,h1,.inr ⟨λh=>by
      cases rs with
      | nil=>simp at h
      | cons x xs=>
       cases xs with
       | nil=>exact hne x rfl
       | cons y ys=>simp at h,h2.symm,λ_=>rfl⟩⟩
   have hrefs:∀ v∈vs,∀ id∈eg v,id∈o4 r0:=by
    intro v hv id hid;rcases hloc with ⟨_,rfl,_,hnt⟩ | ⟨_,rfl,_⟩
    ·simp at hv; subst hv; rw [(Z0 hnt).2.2]; exact hid
    ·simp [o4]; exact ⟨v,hv,hid⟩
   have hrefs':∀ id∈LS Z.b r0,∃ v∈vs,id∈m8 Z.b v:=by
    intro id hid;rcases hloc with ⟨_,rfl,_,hnt⟩ | ⟨_,rfl,_⟩
    ·rw [zhm hnt] at hid; exact ⟨r0,by simp,hid⟩
    ·simpa only [LS,Wbs] using hid
   obtain ⟨ω',hω'⟩:∃ ω':Nat->Ow,ω'=λk=>tgt nb (fD ids) Z loc rs 0 (ω k):=⟨_,rfl⟩;have hωat:∀ k,ω' k=tgt nb (fD ids) Z loc rs 0 (ω k):=λk=>by rw [hω']
   have hwr:∀ k o,wr U ω' k o->wr U ω k o:=by
    intro k o h;rw [HL] at h ⊢;rw [hωat] at h;exact h.imp id (U7 Z loc o rs 0 _)
   obtain ⟨hbl,hbor⟩:=Tz ids b0 hb;have hge:=XW rs vs hvs;obtain ⟨μ',hμ'⟩:∃ μ':Nat->Nat,μ'=λk=>μ (ids.getD k 0):=⟨_,rfl⟩;have hμat:∀ k id,ids[k]?=some id->μ' k=μ id:=by
    intro k id h;rw [hμ']; simp only;rw [Wak,h]; rfl
   have hidx:∀ id∈ids,∀ L,dS Z.b id=some L->dS (b0.map toB) (fD ids id)=some L/\μ' (fD ids id)=μ id:=by
    intro id hid L hL;obtain ⟨h1,h2⟩:=Am hid;have hlt:fD ids id<b0.length:=by rw [hbl]; exact h1
    obtain ⟨id2,y,g1,g2,g3,g4,g5⟩:=hbor _ _ (Wac hlt);rw [h2] at g1; cases g1;refine ⟨?_,hμat _ _ h2⟩;unfold dS at hL ⊢;rw [WaU,Wac hlt,g3];rw [g2] at hL;simp [toB];cases y with
    | gone=>cases hL
    | live p cs=>simp at hL; cases p <;> simp [B.aa,hL]
    | fz cs=>simp [B.lend] at g4
    | mp es=>simpa [B.aa] using hL
    | dead n=>simpa [B.aa] using hL
   obtain ⟨us,e1,e2,e3⟩:=Yb (nb:=nb) (g:=fD ids) R (loc:=loc) hwr ⟨[rP (fD ids) r0],b0.map toB⟩ μ' fn.results.toList rs 0 vs hrs hvs (λi r t hi ht=>⟨λY h hβ=>by
    rw [hωat,hβ]; exact za9 Z loc t h rs 0 i r hd1 hi ht,λid hh y hy Y hβ=>by
    rw [hωat,hβ]; exact WG Z loc t id hh rs 0 i r hd2 hi ht y hy⟩) (λv hv id hid L hL=>hidx id (hin id (hrefs v hv id hid)) L hL)
   have hlen:us.length=rs.length:=by rw [e2,mQ hvs]
   obtain ⟨u,hrun,hrep⟩:∃ u,(Go.results fn a.tmps).run P w=.ok u w/\Rep aa (env U ⟨[rP (fD ids) r0],b0.map toB⟩ w ω' μ') (.slot 0 0) (rP (fD ids) r0) u:=by
    have em:fn.results.mapM (ir a.tmps)=List.toArray <$> fn.results.toList.mapM (ir a.tmps):=by
     rw [<- List.mapM_toArray]
    have er:Go.results fn a.tmps=(do
      let vs <- fn.results.mapM (ir a.tmps)
      pure (if h:vs.size=1 then vs[0] else .tuple vs)):=by
     unfold Go.results;congr 2
    rw [er,em];rcases hloc with ⟨h1,h2,h3,hnt⟩ | ⟨h1,h2,h3⟩
    ·rw [h1] at hlen;obtain ⟨u,rfl⟩:∃ u,us=[u]:=List.length_eq_one_iff.1 hlen;refine ⟨u,by simp [e1],?_⟩;subst h2;have:=e3 0 r0 u rfl rfl;rw [Wau,h3] at this;rw [(Z0 hnt).1] at this ⊢;exact this
    ·refine ⟨.tuple us.toArray,by simp [e1,hlen,h1],?_⟩;subst h2;refine .ae _ us (by simpa using e2.symm) (λj v u hv hu=>?_);rw [WaU] at hv;cases hvj:vs[j]? with
     | none=>simp [hvj] at hv
     | some v0=>
      simp [hvj] at hv; subst hv;have:=e3 j v0 u hvj hu;rw [Wau,h3] at this;exact this
   have hblk:∀ k id,ids[k]?=some id->ω (μ id)=.ax id->ω' (μ id)=.ax k:=by
    intro k id hk hω;rw [hωat,hω];by_cases hlt:id<nb
    ·have:k=id:=by rw [<- wN hn hk,hglow id hlt]
     subst this;exact zcs Z loc k rs 0 (λhh=>by have:=hge k hh; omega)
    ·obtain ⟨v,hv,hvid⟩:=hrefs' id (hhigh id (WaQ hk) (by omega));obtain ⟨i,hi,rfl⟩:=War hv;have hirs:i<rs.length:=by rw [<- mQ hvs]; exact hi
     obtain ⟨v',g1,g2⟩:=pT hvs i _ (Wac hirs);rw [Wac hi] at g1; cases g1;obtain ⟨t,q1,q2,q3⟩:=zek g2 hvid (by omega);have:=WG (g:=fD ids) (nb:=nb) Z loc t id q2 rs 0 i (.tmp t) hd2 (by rw [Wac hirs,q1]) rfl (.ax (fD ids id)) (q3 _ _);rw [this,wN hn hk]
   refine ⟨u,hrun,ω',μ',⟨rfl,rfl,λi v hv=>?_,λk p cs h=>?_,λk cs h=>?_,λk es h=>?_,R.kp,λk hk=>?_,R.ul,λk o u h1 h2=>?_,R.rs,R.gv⟩,λk hk=>hμat k k (hlow k hk)⟩
   ·cases i with
    | zero=>simp at hv; subst hv; exact hrep
    | succ i=>simp at hv
   ·rw [WaU,Wag] at h;obtain ⟨x,h1,h2⟩:=h;have h2:x=.live p cs:=h2;subst h2;obtain ⟨id,y,g1,g2,g3,g4,g5⟩:=hbor k _ h1;obtain ⟨p0,cs0,rfl⟩:∃ p0 cs0,y=.live p0 cs0:=by
     cases y with
     | live p0 cs0=>exact ⟨p0,cs0,rfl⟩
     | gone=>simp [B.lend] at g4
     | fz _=>simp [B.lend] at g4
     | mp _=>simp [B.aa] at g3
     | dead _=>simp [B.aa] at g3
    simp only [B.aa,B.live.injEq] at g3;obtain ⟨rfl,g3⟩:=g3;refine Po λhne=>?_;have hne0:cs0≠[]:=by rintro rfl; apply hne; rw [g3]; cases p <;> rfl
    obtain ⟨q1,arr,T,q2,q3,q4⟩:=R.live g2 hne0;rw [hμat k id g1];refine ⟨hblk k id g1 q1,arr,T,q2,by rw [g3]; cases p <;> simpa using q3,λj c hj=>?_⟩;have mono:∀ {c:V} {u':Value},RepP aa w (wr U ω) c u'->RepP aa w (wr U ω') c u':=λhh=>hh.mono (λk o u h1 h2=>⟨λhh=>h1 (hwr k o hh),h2⟩);rw [g3] at hj;cases p with
    | true=>
     simp at hj;obtain ⟨u',x1,x2,x3,x4⟩:=q4 j c hj;exact ⟨u',x1,x2,λhp=>mono (x3 hp),.pure (mono (x3 rfl))⟩
    | false=>
     simp only [WaR,if_false,WaU] at hj;cases hcj:cs0[j]? with
     | none=>simp [hcj] at hj
     | some c0=>
      simp [hcj] at hj; subst hj;obtain ⟨u',x1,x2,x3,x4⟩:=q4 j c0 hcj;obtain ⟨y1,y3⟩:=Dv (by simp [B.lend] at g4; exact g4 c0 (WaQ hcj));by_cases hlt:id<nb
      ·refine ⟨u',x1,x2,by simp,x4.move (E':=env U ⟨[rP (fD ids) r0],b0.map toB⟩ w ω' μ') (l':=.cell k j) (λk o u h1 h2=>⟨λhh=>h1 (hwr k o hh),h2⟩) (fD ids) (λid2 hid2 L hL=>hidx id2 (y1 id2 hid2) L hL) (λY h hβ=>⟨?_,rfl⟩) (λk=>Nat.le_refl _) y3⟩;have:k=id:=by rw [<- wN hn g1,hglow id hlt]
       subst this;have hβ:ω Y=.gs (.cell k j) h:=hβ;show ω' Y=_;rw [hωat,hβ,Sf]
      ·have g5:B.isRow (.live false cs0)=true:=g5.resolve_left hlt;obtain ⟨m,rfl⟩:∃ m,cs0=[.mp m]:=by
        unfold B.isRow at g5;split at g5 <;> first | (rename_i e; cases e; done) | (rename_i m e; cases e; exact ⟨m,rfl⟩) | (cases g5; done) | skip
       have:c0=.mp m:=by
        cases j with
        | zero=>simpa using hcj.symm
        | succ j=>simp at hcj
       subst this;obtain ⟨L,hL,rfl⟩:=x4.be;obtain ⟨z1,z2⟩:=hidx m (y1 m (by simp [eg])) L hL;refine ⟨_,x1,x2,by simp,?_⟩;have:=Rep.mp (aa:=aa) (E:=env U ⟨[rP (fD ids) r0],b0.map toB⟩ w ω' μ') (l:=.cell k j) (fD ids m) L z1;show Rep aa _ _ _ (.map (some (μ m)));rw [<- z2]; exact this
   ·rw [WaU,Wag] at h;obtain ⟨x,h1,h2⟩:=h;have h2:x=.fz cs:=h2;subst h2;obtain ⟨id,y,g1,g2,g3,g4,g5⟩:=hbor k _ h1
    exfalso
    cases y with
    | live p0 cs0=>simp [B.aa] at g3
    | gone=>simp [B.lend] at g4
    | fz _=>simp [B.lend] at g4
    | mp _=>simp [B.aa] at g3
    | dead _=>simp [B.aa] at g3
   ·rw [WaU,Wag] at h;obtain ⟨x,h1,h2⟩:=h;have h2:x=.mp es:=h2;subst h2;obtain ⟨id,y,g1,g2,g3,g4,g5⟩:=hbor k _ h1;obtain ⟨es0,rfl⟩:∃ es0,y=.mp es0:=by
     cases y with
     | mp es0=>exact ⟨es0,rfl⟩
     | live p0 cs0=>simp [B.aa] at g3
     | gone=>simp [B.lend] at g4
     | fz _=>simp [B.lend] at g4
     | dead _=>simp [B.aa] at g3
    simp only [B.aa,B.mp.injEq] at g3;subst g3;obtain ⟨q1,arr,clock,q2,q3⟩:=R.ms id _ g2;rw [hμat k id g1];exact ⟨hblk k id g1 q1,arr,clock,q2,q3.mono (λk o u h1 h2=>⟨λhh=>h1 (hwr k o hh),h2⟩)⟩
   ·refine R.ow k (λe=>hk ?_);rw [hωat,e,zbr]
   ·obtain ⟨q1,q2⟩:=R.fr k o u h1 h2;exact ⟨λhh=>q1 (hwr k o hh),q2⟩
  ·cases hr
 ·cases h
def rvi:ResultVar->Nat
 | .tmp t=>t
 | .cell t _=>t
theorem Rel.pushSlot(R:Rel aa we ωe U O Z a w ω μ)(h:Rep aa (env U Z w ω μ) (.slot Z.t.length 0) v u):Rel aa we ωe U O { Z with t:=Z.t++[v] } { a with tmps:=a.tmps.push u } w ω μ:=by
 have hl:=R.tl;refine ⟨R.df,by simp [hl],λi v' hi=>?_,R.bs,R.fs,R.ms,R.kp,R.ow,R.ul,R.fr,R.rs,R.gv⟩;by_cases hlt:i<Z.t.length
 ·rw [Wan hlt] at hi;have:=R.ts i v' hi;have e:(a.tmps.push u).getD i undef=a.tmps.getD i undef:=by
   rw [Wbk,Wbk,WbC (by omega)]
   grind
  show Rep aa (env U Z w ω μ) _ _ _;rw [e]; exact this
 ·rw [List.getElem?_append_right (by omega)] at hi;have hi0:i=Z.t.length:=by
   grind
  subst hi0;simp at hi; subst hi;have e:(a.tmps.push u).getD Z.t.length undef=u:=by
   rw [Wbk,<- hl,WbG]; rfl
  show Rep aa (env U Z w ω μ) _ _ _;rw [e]; exact h
theorem zd9(R:Rel aa we ωe U O Z a w ω μ){cs vs:List V}{arr:Array Value}(hc:∀ (j:Nat) (c:V),cs[j]?=some c->∃ u,arr[j]?=some u/\u.oneCell'=true/\Rep aa (env U Z w ω μ) (.cell id j) c u)(h:cs.mapM V.aN=some vs):vs.length=cs.length/\∀ (j:Nat) (c:V),vs[j]?=some c->∃ u,arr[j]?=some u/\u.oneCell'=true/\(RepP aa w (wr U ω) c u∨OwnAt (env U Z w ω μ) c u):=by
 refine ⟨mQ h,λj c hj=>?_⟩;have hlt:j<cs.length:=by grind [mQ]
 obtain ⟨v',g1,g2⟩:=pT h j _ (Wac hlt);rw [hj] at g1; cases g1;obtain ⟨u,e1,e2,e3⟩:=hc j _ (Wac hlt);exact ⟨u,e1,e2,e3.aN R.hU g2⟩
theorem Ke{α Y:Type}{f g:α->Sem Y}:∀ (l:List α),(∀ x∈l,f x=g x)->l.mapM f=l.mapM g
 | [],h=>rfl
 | x::l,h=>by
  simp [h x (by simp),Ke l (λy hy=>h y (by simp [hy]))]
theorem VZ{tmps':Array Value}(h:∀ i,i<n0->tmps'.getD i undef=tmps.getD i undef)(hx:rvi x<n0):ir tmps' x=ir tmps x:=by
 cases x with
 | tmp t=>simp only [ir]; rw [h t hx]
 | cell t ty=>simp only [ir]; rw [h t hx]
theorem zg8{rp:Bool}(h:lL P rp [x]=some [rv]):(match rv with | .tmp t=>t | .aH t=>t | .cell t _ _=>t | .aC t _ _=>t)=rvi x:=by
 cases x with
 | tmp t=>cases rp <;> simp [lL] at h <;> subst h <;> rfl
 | cell t ty=>
  simp only [lL,Wab,Waa,Waf] at h;obtain ⟨b,_,n,_,l,hl,h⟩:=h;cases hl;cases h; rfl
theorem zhd{rp:Bool}(h:lL P rp [x]=some [rv])(h2:lL P rp xs=some rs):lL P rp (x::xs)=some (rv::rs):=by
 cases x with
 | tmp t=>cases rp <;> simp [lL] at h <;> subst h <;> simp [lL,h2]
 | cell t ty=>
  simp only [lL,Wab,Waa,Waf] at h
  grind [lL]
def SameW(P:Program){α:Type}(m:Sem α):Prop:=∀ w r w',m.run P w=.ok r w'->w'=w
theorem SameW.pure{α:Type}(x:α):SameW P (Pure.pure x:Sem α):=by
 intro w r w' h
 simp_all
theorem SameW.bind{α Y:Type}{m:Sem α}{f:α->Sem Y}(h1:SameW P m)(h2:∀ x,SameW P (f x)):SameW P (m >>= f):=by
 intro w r w' h;rw [Sem.run_bind] at h;cases hm:m.run P w with
 | ok x w2=>
  rw [hm] at h;simp at h;rw [h2 x _ _ _ h,h1 _ _ _ hm]
 | halt x w2=>rw [hm] at h; cases h
theorem SameW.load(k:Addr):SameW P (Go.load k):=by
 intro w r w' h;simp [Go.load,Sem.run] at h
 grind
theorem SameW.loads(k:Addr):∀ (n i:Nat) (acc:Array Value),SameW P (loadCellsFrom k i n acc)
 | 0,i,acc=>SameW.pure _
 | n+1,i,acc=>(SameW.load _).bind λv=>SameW.loads k n (i+1) _
theorem ZC{w2:World}(h:(ir tmps x).run P w=.ok u w2):w2=w:=by
 have prog:SameW P Go.program:=by
  intro w r w' h
  simp_all
 have stk:∀ {α:Type} (m:String),SameW P (Go.stuck m:Sem α):=by
  intro α m w r w' h;simp at h
 have info:∀ t,SameW P (Go.typeInfo t):=by
  intro t;unfold Go.typeInfo
  grind [SameW.bind,SameW.pure]
 cases x with
 | tmp t=>exact SameW.pure _ _ _ _ h
 | cell t ty=>
  refine SameW.bind ?_ (λk=>?_) w u w2 h
  ·unfold asAddr;split
   ·exact SameW.pure _
   ·intro w r w' h; simp [Go.runtimePanic] at h
   ·exact stk _
  ·unfold loadVar;refine SameW.bind ?_ (λb=>?_)
   ·unfold isAgg;refine SameW.bind ?_ (λd=>?_)
    ·unfold Go.underlying;refine prog.bind λp=>?_;split
     ·exact SameW.pure _
     ·exact stk _
    ·split <;> exact SameW.pure _
   ·cases b with
    | true=>exact SameW.bind (by unfold Go.sizeOf; grind [SameW.bind,SameW.pure]) (λn=>(SameW.loads k n 0 _).bind λ_=>SameW.pure _)
    | false=>exact SameW.load k
theorem zih{rp cs:Bool}:∀ (xs:List ResultVar) (rs0:List RV) {Z:St} {a:Act} (R:Rel aa we ωe U O Z a w ω μ) {σ1:St} {rs1:List RV},n0<=Z.t.length->lL P rp xs=some rs0->po n0 (rs0.map (RV.boxed cs rp)) Z=some (σ1,rs1) ->
  ∃ (a1:Act) (xs1:List ResultVar),Rel aa we ωe U O σ1 a1 w ω μ/\lL P rp xs1=some rs1/\xs1.length=xs.length/\(∀ x∈xs,rvi x<n0)/\(∀ i,i<Z.t.length->a1.tmps.getD i undef=a.tmps.getD i undef)/\σ1.b=Z.b /\
   ∀ us w',(xs1.mapM (ir a1.tmps)).run P w=.ok us w'->(xs.mapM (ir a.tmps)).run P w=.ok us w':=by
 intro xs
 induction xs with
 | nil=>
  intro rs0 Z a R σ1 rs1 hn hc hu;cases hc;cases hu;exact ⟨a,[],R,rfl,rfl,λ_ h=>(by cases h),λ_ _=>rfl,rfl,λus w' h=>h⟩
 | cons x xs ih=>
  intro rs0 Z a R σ1 rs1 hn hc hu;obtain ⟨rv,rest,rfl,h1,h2⟩:=X9 hc;have keep:(∃ t b n,rv=.cell t b n/\t<n0)∨(∃ t,rv=.tmp t/\t<n0)∨(∃ t,rv=.aH t/\t<n0)->(∃ σ2 rs2,po n0 (rest.map (RV.boxed cs rp)) Z=some (σ2,rs2)/\σ1=σ2/\rs1=rv::rs2) ->
    ∃ (a1:Act) (xs1:List ResultVar),Rel aa we ωe U O σ1 a1 w ω μ/\lL P rp xs1=some rs1/\xs1.length=(x::xs).length/\(∀ y∈x::xs,rvi y<n0)/\(∀ i,i<Z.t.length->a1.tmps.getD i undef=a.tmps.getD i undef)/\σ1.b=Z.b /\
   ∀ us w',(xs1.mapM (ir a1.tmps)).run P w=.ok us w'->((x::xs).mapM (ir a.tmps)).run P w=.ok us w':=by
   rintro hlow ⟨σ2,rs2,e,rfl,rfl⟩
   obtain ⟨a1,xs1,g1,g2,g3,g3',g4,g5,g6⟩:=ih rest R hn h2 e;have hx:rvi x<n0:=by
    have hi:=zg8 h1;rcases hlow with ⟨t',b,n,e,hl⟩ | ⟨t',e,hl⟩ | ⟨t',e,hl⟩ <;> grind
   have hsem:ir a1.tmps x=ir a.tmps x:=VZ (λi hi=>g4 i (by omega)) hx;refine ⟨a1,x::xs1,g1,?_,by simp [g3],λy hy=>(WbL.1 hy).elim (λe=>e ▸ hx) (g3' y),g4,g5,λus w' h=>?_⟩
   ·exact zhd h1 g2
   ·simp only [WbJ,Sem.run_bind,hsem] at h ⊢;cases hr:(ir a.tmps x).run P w with
    | ok u w2=>
     rw [hr] at h;simp only [Waz] at h ⊢;have hw2:w2=w:=ZC hr;subst hw2;cases hm:(xs1.mapM (ir a1.tmps)).run P w2 with
     | ok vs w3=>rw [hm] at h; rw [g6 vs w3 hm]; exact h
     | halt x w3=>rw [hm] at h; cases h
    | halt x w3=>rw [hr] at h; cases h
  cases rv with
  | tmp t=>
   simp only [WbD,RV.boxed,po] at hu;split at hu
   ·rename_i hl;split at hu
    ·rename_i σ2 rs2 e;cases hu;exact keep (.inr (.inl ⟨t,rfl,by simpa [RV.low] using hl⟩)) ⟨_,_,e,rfl,rfl⟩
    ·cases hu
   ·cases hu
  | aH t=>
   simp only [WbD,RV.boxed,po] at hu;split at hu
   ·rename_i hl;split at hu
    ·rename_i σ2 rs2 e;cases hu;exact keep (.inr (.inr ⟨t,rfl,by simpa [RV.low] using hl⟩)) ⟨_,_,e,rfl,rfl⟩
    ·cases hu
   ·cases hu
  | aC t n p=>
   exfalso
   cases x with
   | tmp t=>cases rp <;> simp [lL] at h1
   | cell t ty=>
    simp only [lL,Wab,Waa,Waf] at h1;obtain ⟨b,_,n,_,l,hl,h1⟩:=h1;cases hl; cases h1
  | cell t b n=>
   have plainCell:(match (if (RV.cell t b n).low n0 then match po n0 (rest.map (RV.boxed cs rp)) Z with
     | some (σ1,rs)=>some (σ1,(RV.cell t b n)::rs)
     | none=>none
    else none) with | x=>x)=some (σ1,rs1)->∃ (a1:Act) (xs1:List ResultVar),Rel aa we ωe U O σ1 a1 w ω μ/\lL P rp xs1=some rs1/\xs1.length=(x::xs).length/\(∀ y∈x::xs,rvi y<n0)/\(∀ i,i<Z.t.length->a1.tmps.getD i undef=a.tmps.getD i undef)/\σ1.b=Z.b /\
   ∀ us w',(xs1.mapM (ir a1.tmps)).run P w=.ok us w'->((x::xs).mapM (ir a.tmps)).run P w=.ok us w':=by
    intro hu;simp only at hu;split at hu
    ·rename_i hl;split at hu
     ·rename_i σ2 rs2 e;cases hu;exact keep (.inl ⟨t,b,n,rfl,by simpa [RV.low] using hl⟩) ⟨_,_,e,rfl,rfl⟩
     ·cases hu
    ·cases hu
   cases b with
   | false=>simp only [WbD,RV.boxed,po] at hu; exact plainCell hu
   | true=>
    cases cs with
    | false=>simp only [WbD,RV.boxed,po,WaR,if_false] at hu; exact plainCell hu
    | true=>
     simp only [WbD,RV.boxed,if_true,po] at hu;split at hu
     ·rename_i id off hs;split at hu
      ·rename_i cs0 hb;split at hu
       ·rename_i hc0;obtain ⟨ht,rfl,hlen,hn0⟩:=hc0;split at hu
        ·rename_i vs hvs;split at hu
         ·rename_i σ2 rs2 e;cases hu;have hx:∃ ty,x=.cell t ty/\iC P ty=some true/\eJ P ty=some n:=by
           cases x with
           | tmp t'=>simp [lL] at h1; cases rp <;> simp at h1
           | cell t' ty=>
            simp only [lL,Wab,Waa,Waf] at h1
            grind
          obtain ⟨ty,rfl,ha,hn'⟩:=hx;have hr:Rep aa (env U Z w ω μ) (.slot t 0) (.ptr id 0) (a.tmps.getD t undef):=R.ts t _ hs;obtain ⟨L,e1,e2⟩:=hr.ar;have hne:cs0≠[]:=by grind
          obtain ⟨q0,arr,T,q2,q3,q4⟩:=R.live hb hne;obtain ⟨r1,r2⟩:=zd9 R (λj c hj=>by obtain ⟨u,g1,g2,_,g4⟩:=q4 j c hj; exact ⟨u,g1,g2,g4⟩) hvs;have hul:(arr.toList.take n).length=n:=by simp; omega
          have hst:Rep aa (env U Z w ω μ) (.slot Z.t.length 0) (.st vs) (.agg (arr.toList.take n).toArray):=by
           refine .st vs (arr.toList.take n) (by omega) (λj c u hcj hu=>?_) (λu hu=>?_)
           ·obtain ⟨u',g1,g2,g3⟩:=r2 j c hcj;rw [Wai] at hu;split at hu
            ·have:arr[j]?=some u:=by simpa using hu
             rw [this] at g1; cases g1; exact g3
            ·cases hu
           ·obtain ⟨j,hj,e⟩:=War hu;have hjv:j<vs.length:=by omega
            obtain ⟨u',g1,g2,g3⟩:=r2 j _ (Wac hjv);have e':(arr.toList.take n)[j]?=some u:=by grind
            rw [Wai] at e';split at e'
            ·have:arr[j]?=some u:=by simpa using e'
             rw [this] at g1; cases g1; exact g2
            ·cases e'
          have R':=R.pushSlot hst;obtain ⟨a1,xs1,g1,g2,g3,g3',g4,g5,g6⟩:=ih rest R' (by simp; omega) h2 e;have hrun:(ir a.tmps (.cell t ty)).run P w=.ok (.agg (arr.toList.take n).toArray) w:=by
           simp [ir,e2];have:=JA (P:=P) (w:=w) (k:=μ id) (q:=0) ha hn' (arr.toList.take n) (λ_=>hul) (by simp) (λj u hu=>by
            rw [Wau,cell_of_row _ _ _ _ _ _ q2]
            grind)
           simpa [asAddr,env] using this
          have hm:a1.tmps.getD Z.t.length undef=.agg (arr.toList.take n).toArray:=by
           rw [g4 Z.t.length (by simp)];show (a.tmps.push _).getD Z.t.length undef=_;rw [Wbk,<- R.tl,WbG]; rfl
          refine ⟨a1,.tmp Z.t.length::xs1,g1,?_,by simp [g3],λy hy=>(WbL.1 hy).elim (λe=>by rw [e]; exact ht) (g3' y),λi hi=>?_,g5,λus w' h=>?_⟩
          ·cases rp <;> simp [lL,g2]
          ·rw [g4 i (by simp; omega)];show (a.tmps.push _).getD i undef=_;have htl:=R.tl;rw [Wbk,Wbk,WbC (by omega),Wbp (by omega)]
          ·simp only [WbJ,Sem.run_bind] at h ⊢;rw [hrun];have h0:(ir a1.tmps (.tmp Z.t.length)).run P w=.ok (.agg (arr.toList.take n).toArray) w:=by
            simp [ir,hm]
           rw [h0] at h;simp only [Waz] at h ⊢;cases hm2:(xs1.mapM (ir a1.tmps)).run P w with
           | ok vs w3=>
            rw [hm2] at h;have low:∀ us w',(xs1.mapM (ir a1.tmps)).run P w=.ok us w'->(xs.mapM (ir a.tmps)).run P w=.ok us w':=λus w' hh=>by
             have:=g6 us w' hh;rw [Ke (f:=ir (a.tmps.push (.agg (arr.toList.take n).toArray))) (g:=ir a.tmps) xs (λy hy=>VZ (n0:=n0) (λi hi=>by
              have htl:=R.tl;rw [Wbk,Wbk,WbC (by omega),Wbp (by omega)]) (g3' y hy))] at this
             exact this
            rw [low vs w3 hm2]; exact h
           | halt x w3=>rw [hm2] at h; cases h
         ·cases hu
        ·cases hu
       ·cases hu
      ·split at hu
       ·rename_i ht;split at hu
        ·rename_i σ2 rs2 e;cases hu;exact keep (.inl ⟨t,true,n,rfl,ht⟩) ⟨_,_,e,rfl,rfl⟩
        ·cases hu
       ·cases hu
      ·cases hu
     ·cases hu
theorem zjs{rp cs:Bool}(R:Rel aa we ωe U O Z a w ω μ){rs0:List RV}(hrs:lL P rp fn.results.toList=some rs0)(h:EE nb Z (rs0.map (RV.boxed cs rp))=some (r,bor')) :
  ∃ u,(Go.results fn a.tmps).run P w=.ok u w/\∃ ω' μ',Rel aa we ωe U O ⟨[r],bor'.map toB⟩ ⟨#[u],[]⟩ w ω' μ'/\∀ k,k<nb->μ' k=μ k:=by
 unfold EE at h;split at h
 ·rename_i σ1 rs1 hu;obtain ⟨a1,xs1,g1,g2,g3,_,g4,g5,g6⟩:=zih fn.results.toList rs0 R (Nat.le_refl _) hrs hu;obtain ⟨u,e1,e2⟩:=zie (fn:={ fn with results:=xs1.toArray }) g1 (by simpa using g2) h;refine ⟨u,?_,e2⟩;have em:∀ (xs:Array ResultVar) (tmps:Array Value),xs.mapM (ir tmps)=List.toArray <$> xs.toList.mapM (ir tmps):=by
   intro xs tmps;rw [<- List.mapM_toArray]
  have er:∀ (f:Func) (tmps:Array Value),Go.results f tmps=(do
    let vs <- f.results.mapM (ir tmps)
    pure (if h:vs.size=1 then vs[0] else .tuple vs)):=by
   intro f tmps;unfold Go.results;congr 2
  rw [er,em] at e1 ⊢;simp only [Sem.run_bind,Sem.run_map] at e1 ⊢;cases hm:(xs1.mapM (ir a1.tmps)).run P w with
  | ok us w'=>
   rw [hm] at e1;rw [g6 us w' hm];exact e1
  | halt x w'=>rw [hm] at e1; cases e1
 ·cases h
theorem zfX{T:Nat->Option CF}{pr:CB}{L:Nat}(hT:∀ g c,T g=some c->∀ f,aa f=some g->n8 P f=true/\∃ h,Jr P aa h f=some c)(hpr:rD P aa pr)(hdraw:∀ cb,rD P aa cb->VN P aa cb):∀ d,rD P aa (evF T pr L d)
 | 0=>by intro g args bor r bor' h; cases h
 | d+1=>by
  have ih:=zfX (L:=L) hT hpr hdraw d;intro g args bor r bor' h f hf;simp [evF] at h;split at h
  ·exact hpr g args bor r bor' h f hf
  ·rename_i c hc;obtain ⟨hcall,hint,hfun⟩:=hT g c hc f hf;refine ⟨hcall,λw us U O ω μ R=>?_⟩;simp only [Jr,Wab,Waa,Prod.exists] at hfun;obtain ⟨fn,hfn,body,hbody,cc,ms',hcode,rs,hrs,hfun⟩:=hfun;split at hfun
   ·cases hfun;have E:=zfW fn.ntmps R;refine calls_of_wp hfn hbody ?_;have key:∀ ex σ',run (wR (evF T pr L d)) bor.length L cc (enter fn.ntmps args bor)=some (ex,σ')->(ex=.normal∨ex=.ret)->EE bor.length σ' (rs.map (RV.boxed hint.cs hint.rp))=some (r,bor') ->
      body.wp P (bodyPost P fn λe w'=>∃ u ω' μ',e=.returned u/\Rel aa w ω U O ⟨[r],bor'.map toB⟩ ⟨#[u],[]⟩ w' ω' μ'/\∀ k,k<bor.length->μ' k=μ k) ⟨us.toArray++Array.replicate (fn.ntmps-us.toArray.size) undef,[]⟩ w:=by
     intro ex σ' hrun hex hl;rw [List.size_toArray];refine zkx (W8 ih) (hdraw _ (W8 ih)) body _ _ cc hcode E hrun _ ?_;intro a1 w1 ω1 μ1 R1 hm;obtain ⟨u,q1,ω2,μ2,q2,q3⟩:=zjs R1 hrs hl;rcases hex with rfl | rfl <;> exact ⟨R1.df,u,q1,u,ω2,μ2,rfl,q2,λk hk=>(q3 k hk).trans (hm k hk)⟩
    split at h
    ·rename_i σ' hrun;exact key _ σ' hrun (.inl rfl) h
    ·rename_i σ' hrun;exact key _ σ' hrun (.inr rfl) h
    ·cases h
   ·cases hfun
end
section
variable {Z σ' σ1:St}{d4:List Nat}{d:Option Nat}{nb:Nat}{ah:Bool}
theorem dr{s:Src}(h:∀ t∈s.tmps,σ'.t[t]?=Z.t[t]?):s.get σ'=s.get Z:=by
 cases s with
 | const v=>rfl
 | tmp t=>grind [Src.get,Src.tmps]
theorem vn{Z σ':St}:∀ (ps:List (Nat × Nat × Src)) (cs:List V),(∀ t∈ps.flatMap (λp=>p.2.2.tmps),σ'.t[t]?=Z.t[t]?)->kF σ' ps cs=kF Z ps cs
 | [],cs,h=>rfl
 | (off,n,x)::ps,cs,h=>by
  have h1:x.get σ'=x.get Z:=dr (λt ht=>h t (by simp [ht]));have h2:∀ cs,kF σ' ps cs=kF Z ps cs:=λcs=>vn ps cs (λt ht=>h t (by grind));simp only [kF,h1,h2]
theorem KF{Z σ':St}:∀ (ps:List (Nat × Nat × Src)) (cs:List V),(∀ t∈ps.flatMap (λp=>p.2.2.tmps),σ'.t[t]?=Z.t[t]?)->nj σ' ps cs=nj Z ps cs
 | [],cs,h=>rfl
 | (off,n,x)::ps,cs,h=>by
  have h1:x.get σ'=x.get Z:=dr (λt ht=>h t (by simp [ht]));have h2:∀ cs,nj σ' ps cs=nj Z ps cs:=λcs=>KF ps cs (λt ht=>h t (by grind));simp only [nj,h1,h2]
theorem zbW{x:Option Src}(h:∀ t∈Src.tmpsO x,σ'.t[t]?=Z.t[t]?)(d m:Nat):pp σ' x d m=pp Z x d m:=by
 cases x with
 | none=>rfl
 | some s=>simp [pp]; rw [dr (s:=s) h]
theorem AJ{l h m:Option Src}(hh:∀ t∈Src.tmpsO l++Src.tmpsO h++Src.tmpsO m,σ'.t[t]?=Z.t[t]?)(len:Nat):j1 σ' len l h m=j1 Z len l h m:=by
 grind [zbW,j1]
theorem QZ(k:K)(h:∀ t∈dU k,σ'.t[t]?=Z.t[t]?)(hb:σ'.b=Z.b∨eN k=true):cJ σ' k=cJ Z k:=by
 cases k with
 | pick c a b=>
  grind [dr,cJ,dU]
 | build z ps=>grind [vn,cJ,dU]
 | az z ps=>grind [KF,cJ,dU]
 | nilCheck x=>grind [dr,cJ,dU]
 | bin op x y=>
  grind [dr,cJ,dU]
 | aW n m x y=>
  grind [dr,cJ,dU]
 | bo n x=>grind [dr,cJ,dU]
 | bH n x y=>
  grind [dr,cJ,dU]
 | un op x=>grind [dr,cJ,dU]
 | conv k x=>grind [dr,cJ,dU]
 | toStr x=>
  grind [dr,cJ,dU,eN]
 | bG x=>
  grind [dr,cJ,dU,eN]
 | bk x y=>
  grind [dr,cJ,dU,eN]
 | ay n sz x l hh m=>
  grind [AJ,dr,cJ,dU,eN]
 | aT sz x l hh m=>
  simp only [dU] at h;have hn:∀ t∈Src.tmpsO l++Src.tmpsO hh++Src.tmpsO none,σ'.t[t]?=Z.t[t]?:=λt ht=>h t (by
   have e:Src.tmpsO none=[]:=rfl;rw [e,List.append_nil] at ht;simp only [Wbt] at ht ⊢; grind)
  simp only [cJ,dr (s:=x) (λt ht=>h t (by simp [ht])),AJ (l:=l) (h:=hh) (m:=m) (λt ht=>h t (by simp only [Wbt] at ht ⊢; grind)),AJ hn]
 | aY sz x hh=>
  simp only [dU] at h;have hn:∀ t∈Src.tmpsO none++Src.tmpsO hh++Src.tmpsO none,σ'.t[t]?=Z.t[t]?:=λt ht=>h t (by
   have e:Src.tmpsO none=[]:=rfl;rw [e,List.append_nil,List.nil_append] at ht;simp [ht])
  simp only [cJ,dr (s:=x) (λt ht=>h t (by simp [ht])),AJ hn]
 | aD sz x i j=>
  grind [dr,cJ,dU]
 | fieldAddr o x=>grind [dr,cJ,dU]
 | field a o n x=>grind [dr,cJ,dU]
 | al l sz x i=>
  grind [dr,cJ,dU]
 | aj sz x i=>
  grind [dr,cJ,dU]
 | aR a l sz x i=>
  grind [dr,cJ,dU]
 | bq n sz x=>grind [dr,cJ,dU]
 | bi x=>grind [dr,cJ,dU]
 | bF x=>grind [dr,cJ,dU]
 | aJ n=>rfl
 | pull x i=>grind [dr,cJ,dU]
 | adc s c a b=>
  grind [dr,cJ,dU]
 | mm b x y=>
  grind [dr,cJ,dU]
 | makeFunc f caps=>
  simp only [dU] at h;have hc:∀ c∈caps,c.get σ'=c.get Z:=λc hc=>dr (λt ht=>h t (Wbs.2 ⟨c,hc,ht⟩));have e1:caps.map (λc=>c.get σ')=caps.map (λc=>c.get Z):=List.map_congr_left hc;have e2:(caps.all λc=>wS (c.get σ'))=(caps.all λc=>wS (c.get Z)):=by
   rw [WbF,Wbj,Wbj];constructor
   ·intro hh c hcc; rw [<- hc c hcc]; exact hh c hcc
   ·intro hh c hcc; rw [hc c hcc]; exact hh c hcc
  simp only [cJ,e1,e2]
 | _=>rfl
structure Over (d4:List Nat) (Z σ1 σ' σ1':St):Prop where
 b:σ1'.b=σ1.b
 on:∀ k∈d4,σ1'.t[k]?=σ1.t[k]?
 off:∀ k,k ∉ d4->σ1'.t[k]?=σ'.t[k]?
 fr:∀ k,k ∉ d4->σ1.t[k]?=Z.t[k]?
 len:σ1.t.length=Z.t.length
 a7:σ1'.t.length=σ'.t.length
theorem gP(Z:St)(d:Option Nat)(v:V)(k:Nat):(Z.put d v).t[k]?=if d=some k/\k<Z.t.length then some v else Z.t[k]?:=by
 cases d with
 | none=>simp [St.put]
 | some d=>
  simp only [St.put,WbB];by_cases h:d=k
  ·subst h;by_cases h2:d<Z.t.length
   ·simp [h2]
   ·simp [h2]
  ·simp [h]
theorem gz(Z:St)(d:Option Nat)(v:V):(Z.put d v).b=Z.b:=by cases d <;> rfl
theorem xm(Z:St)(d:Option Nat)(v:V):(Z.put d v).t.length=Z.t.length:=by cases d <;> simp [St.put]
theorem VA(Z:St)(s:Src)(k:Nat):(Z.ac s).t[k]?=if k∈s.tmps then (Z.t[k]?).map V.ag else Z.t[k]?:=by
 cases s with
 | const v=>simp [St.ac,Src.tmps]
 | tmp t=>
  simp only [St.ac,Src.tmps,List.mem_singleton,List.getElem?_modify];by_cases h:k=t
  ·subst h; simp
  ·have:¬ t=k:=λe=>h e.symm;simp [h,this]
theorem tv(Z:St)(s:Src):(Z.ac s).b=Z.b:=by cases s <;> rfl
theorem iA(Z:St)(s:Src):(Z.ac s).t.length=Z.t.length:=by cases s <;> simp [St.ac]
theorem j8(v:V)(hl:σ'.t.length=Z.t.length)(hb:σ'.b=Z.b)(hd:∀ k,d=some k->k∈d4)(hW:∀ k∈d4,d≠some k->σ'.t[k]?=Z.t[k]?):Over d4 Z (Z.put d v) σ' (σ'.put d v):=by
 refine ⟨by rw [gz,gz,hb],λk hk=>?_,λk hk=>?_,λk hk=>?_,xm _ _ _,xm _ _ _⟩
 ·rw [gP,gP,hl];by_cases h:d=some k/\k<Z.t.length
  ·rw [if_pos h,if_pos h]
  ·rw [if_neg h,if_neg h];by_cases h2:d=some k
   ·have:¬ k<Z.t.length:=λh3=>h ⟨h2,h3⟩;rw [Wbu (by omega),Wbu (by omega)]
   ·exact hW k hk h2
 ·rw [gP,if_neg (λh=>hk (hd k h.1))]
 ·rw [gP,if_neg (λh=>hk (hd k h.1))]
theorem pJ{x:B}{f:Nat->V}(hl:σ'.t.length=Z.t.length)(hb:σ'.b=Z.b)(hd:∀ k,d=some k->k∈d4)(hW:∀ k∈d4,d≠some k->σ'.t[k]?=Z.t[k]?)(h:Z.ao nb d x f=some σ1):∃ σ1',σ'.ao nb d x f=some σ1'/\Over d4 Z σ1 σ' σ1':=by
 cases d with
 | none=>simp [St.ao] at h
 | some d=>
  have hg':σ'.b[nb+d]?=Z.b[nb+d]?:=by rw [hb]
  rcases hg:Z.b[nb+d]? with _ | x'
  ·grind [St.ao]
  ·cases x' with
   | gone=>
    simp only [St.ao,hg] at h;rw [hg] at hg';simp only [St.ao,hg'];cases h;refine ⟨_,rfl,?_⟩;have q:=j8 (d4:=d4) (Z:=Z.ab (nb+d) x) (σ':=σ'.ab (nb+d) x) (d:=some d) (f (nb+d)) hl (by simp [St.ab,hb]) hd hW;exact ⟨q.b,q.on,q.off,q.fr,q.len,q.a7⟩
   | live p cs=>grind [St.ao]
   | fz cs=>grind [St.ao]
   | mp es=>grind [St.ao]
   | dead n=>grind [St.ao]
theorem Ac{sz:Nat}{es:Ls}(hl:σ'.t.length=Z.t.length)(hb:σ'.b=Z.b)(hd:∀ k,d=some k->k∈d4)(hW:∀ k∈d4,d≠some k->σ'.t[k]?=Z.t[k]?)(h:Z.aq nb d ah sz es=some σ1):∃ σ1',σ'.aq nb d ah sz es=some σ1'/\Over d4 Z σ1 σ' σ1':=by
 unfold St.aq at h ⊢;split at h
 ·rename_i hp; simp [hp]; exact pJ hl hb hd hW h
 ·grind [j8]
theorem Yy{v:V}(hl:σ'.t.length=Z.t.length)(hb:σ'.b=Z.b)(hd:∀ k,d=some k->k∈d4)(hW:∀ k∈d4,d≠some k->σ'.t[k]?=Z.t[k]?)(h:Z.au nb d ah v=some σ1):∃ σ1',σ'.au nb d ah v=some σ1'/\Over d4 Z σ1 σ' σ1':=by
 cases v with
 | gs sz es=>
  grind [St.au,j8]
 | fr sz es=>
  simp [St.au] at h ⊢;exact Ac hl hb hd hW h
 | bx p cs=>simp [St.au] at h ⊢; exact pJ hl hb hd hW h
 | _=>grind [St.au,j8]
theorem Over.shift{σ0 σ0' σ1':St}(h:Over d4 σ0 σ1 σ0' σ1')(h1:∀ k,k ∉ d4->σ0.t[k]?=Z.t[k]?)(h2:∀ k,k ∉ d4->σ0'.t[k]?=σ'.t[k]?)(h3:σ0.t.length=Z.t.length)(h4:σ0'.t.length=σ'.t.length):Over d4 Z σ1 σ' σ1':=
 ⟨h.b,h.on,λk hk=>(h.off k hk).trans (h2 k hk),λk hk=>(h.fr k hk).trans (h1 k hk),h.len.trans h3,h.a7.trans h4⟩
theorem yK(hb:σ'.b=Z.b){s:Src × Nat}(h:∀ t∈s.1.tmps,σ'.t[t]?=Z.t[t]?):jh σ' s=jh Z s:=by
 grind [jh,wF,dr]
theorem w9{Z σ':St}:∀ (ss:List (Src × Nat)) (b:List B),(∀ t∈ss.flatMap (λp=>p.1.tmps),σ'.t[t]?=Z.t[t]?)->dG σ' ss b=dG Z ss b
 | [],b,h=>rfl
 | s::ss,b,h=>by
  have h1:s.1.get σ'=s.1.get Z:=dr (λt ht=>h t (by simp [ht]));simp [dG,h1];exact w9 ss _ (λt ht=>h t (by grind))
theorem QX{cb:CB}{f:Nat}{args:List V}{ss:List (Src × Nat)}{xs:List Nat}(hl:σ'.t.length=Z.t.length)(hb:σ'.b=Z.b)(hr:∀ t∈ss.flatMap (λp=>p.1.tmps),σ'.t[t]?=Z.t[t]?)(hd:∀ k,d=some k->k∈d4)(hW:∀ k∈d4,d≠some k->σ'.t[k]?=Z.t[k]?)
  (h:nu cb nb Z d ah f args ss xs=some σ1):∃ σ1',nu cb nb σ' d ah f args ss xs=some σ1'/\Over d4 Z σ1 σ' σ1':=by
 unfold nu at h ⊢;simp only [w9 ss _ hr,hb];simp only [Wab,Waa] at h;obtain ⟨bor,hbor,⟨r,bor'⟩,hcb,h⟩:=h;simp only at h hcb;simp only [hbor,Wab,Wbz,hcb];split at h
 ·rename_i hc;rw [if_pos hc];generalize hB:iF (λk=>(gZ (dG Z ss Z.b) args++(xs.map (nb+·)).take (bor'.length-(gZ (dG Z ss Z.b) args).length)).getD k 0) (gZ (dG Z ss Z.b) args++(xs.map (nb+·)).take (bor'.length-(gZ (dG Z ss Z.b) args).length)) bor' (dG Z ss Z.b)=B at h ⊢;obtain ⟨σ1',e,q⟩:=Yy (d4:=d4) (Z:={ Z with b:=B }) (σ':={ t:=σ'.t,b:=B }) hl rfl hd hW h;exact ⟨σ1',e,⟨q.b,q.on,q.off,q.fr,q.len,q.a7⟩⟩
 ·cases h
theorem OI{α Y:Type}{f:α->Option Y}:∀ {l:List α} {r:List Y},l.mapM f=some r->r.length=l.length
 | [],r,h=>by simp at h; subst h; rfl
 | x::l,r,h=>by
  simp [Waa] at h;obtain ⟨y,_,ys,h2,rfl⟩:=h;simp [OI h2]
theorem Sg{α Y:Type}{f:α->Option Y}:∀ {l:List α} {r:List Y},l.mapM f=some r->∀ (i:Nat) (x:α),l[i]?=some x->∃ y,r[i]?=some y/\f x=some y
 | [],r,h,i,x,hx=>by simp at hx
 | x::l,r,h,i,x',hx=>by
  simp [Waa] at h;obtain ⟨y,h1,ys,h2,rfl⟩:=h;cases i with
  | zero=>grind
  | succ i=>simpa using Sg h2 i x' (by simpa using hx)
theorem oB{α Y:Type}{f g:α->Option Y}:∀ (l:List α),(∀ x∈l,f x=g x)->l.mapM f=l.mapM g
 | [],h=>rfl
 | x::l,h=>by
  simp only [WbJ];rw [h x (by simp),oB l (λy hy=>h y (by simp [hy]))]
end
section
variable {k:K}{d:Option Nat}{i:Nat}{d4:List Nat}{Z:St}{s:Src}
def Wk(k:K)(d:Option Nat):List Nat:=iy k++d.toList
theorem eP(i:Nat)(h:d=some i):i∈Wk k d:=by subst h; simp [Wk]
theorem vM(h:i∈Wk k d)(hd:d≠some i):i∈iy k:=by
 grind [Wk]
theorem Q3(h:i∈iy k):i∈dU k:=by
 unfold iy at h
 grind [dU]
theorem Av{σ':St}(id:Nat)(x:B)(hb:σ'.b=Z.b)(hW:∀ k∈d4,σ'.t[k]?=Z.t[k]?):Over d4 Z (Z.ab id x) σ' (σ'.ab id x):=
 ⟨by simp [St.ab,hb],hW,λ_ _=>rfl,λ_ _=>rfl,rfl,rfl⟩
theorem uB{σ':St}(id:Nat)(x:B)(v:V)(hl:σ'.t.length=Z.t.length)(hb:σ'.b=Z.b)(hd:∀ k,d=some k->k∈d4)(hW:∀ k∈d4,d≠some k->σ'.t[k]?=Z.t[k]?):Over d4 Z ((Z.ab id x).put d v) σ' ((σ'.ab id x).put d v):=by
 have q:=j8 (d4:=d4) (Z:=Z.ab id x) (σ':=σ'.ab id x) (d:=d) v hl (by simp [St.ab,hb]) hd hW;exact ⟨q.b,q.on,q.off,q.fr,q.len,q.a7⟩
theorem rK{σ':St}(hr:∀ t∈s.tmps,σ'.t[t]?=Z.t[t]?):∀ t∈s.tmps,(σ'.ac s).t[t]?=(Z.ac s).t[t]?:=by
 grind [VA]
theorem kT{k:Nat}(h:k ∉ s.tmps):(Z.ac s).t[k]?=Z.t[k]?:=by rw [VA,if_neg h]
variable {cb:CB} {nb:Nat} {Z σ' σ1:St} {d:Option Nat} {ah:Bool}
theorem zef(k:K)(hl:σ'.t.length=Z.t.length)(hb:σ'.b=Z.b)(hr:∀ t∈dU k,σ'.t[t]?=Z.t[t]?)(h:ck cb nb Z d ah k=some σ1) :
  ∃ σ1',ck cb nb σ' d ah k=some σ1'/\Over (Wk k d) Z σ1 σ' σ1':=by
 have hW:∀ i∈Wk k d,d≠some i->σ'.t[i]?=Z.t[i]?:=λi hi hd=>hr i (Q3 (vM hi hd));have pure:(cJ Z k).map (λv=>Z.put d v)=some σ1->∃ σ1',(cJ σ' k).map (λv=>σ'.put d v)=some σ1'/\Over (Wk k d) Z σ1 σ' σ1':=by
  intro h;rw [Wag] at h
  grind [eP,j8,QZ]
 cases k with
 | move x take=>
  simp only [dU] at hr;simp only [ck,dr hr] at h ⊢;split at h
  ·cases h
  ·rename_i hp;rw [if_neg hp];split at h
   ·rename_i ht;subst ht;cases h;rw [if_pos rfl];exact ⟨_,rfl,(j8 _ (by simpa [iA] using hl) (by simpa [tv] using hb) eP (λi hi hd=>rK hr i (by simpa [iy] using vM hi hd))).shift
     (λi hi=>kT (λhh=>hi (by simp [Wk,iy,hh]))) (λi hi=>kT (λhh=>hi (by simp [Wk,iy,hh]))) (iA _ _) (iA _ _)⟩
   ·rename_i ht;cases h;rw [if_neg ht];exact ⟨_,rfl,j8 _ hl hb eP hW⟩
 | alloc p cs=>simp only [ck] at h ⊢; exact pJ hl hb eP hW h
 | box p x=>
  simp only [dU] at hr;simp only [ck,dr hr] at h ⊢;split at h
  ·split at h
   ·cases h
   ·rename_i hp; rw [if_neg hp]; exact pJ hl hb eP hW h
  ·split at h
   ·exact pJ hl hb eP hW h
   ·cases h
 | ofStr x=>
  simp only [dU] at hr;simp only [ck,dr hr] at h ⊢;split at h
  ·cases h
  ·rename_i hp;rw [if_neg hp];split at h
   ·cases h; exact ⟨_,rfl,j8 _ hl hb eP hW⟩
   ·cases h
 | buildSlice sz n z ps=>
  simp only [dU] at hr;simp only [ck,vn ps _ hr,Wab,Waa] at h ⊢;obtain ⟨cs,h1,h2⟩:=h;split at h2
  ·rename_i hc;cases h2;exact ⟨_,⟨cs,h1,by rw [if_pos hc]⟩,j8 _ hl hb eP hW⟩
  ·rename_i hc;obtain ⟨σ1',e1,e2⟩:=Ac (d4:=Wk (.buildSlice sz n z ps) d) hl hb eP hW h2;exact ⟨σ1',⟨cs,h1,by rw [if_neg hc]; exact e1⟩,e2⟩
 | load agg n x take=>
  simp only [dU] at hr;simp only [ck,dr hr,hb] at h ⊢;have put:∀ v,some (Z.put d v)=some σ1->∃ σ1',some (σ'.put d v)=some σ1'/\Over (Wk (.load agg n x take) d) Z σ1 σ' σ1':=by
   grind [eP,j8]
  split at h
  ·split at h
   ·split at h
    ·rename_i ha;rw [if_pos ha];split at h
     ·rename_i hc;rw [if_pos hc];split at h
      ·rename_i hp; rw [if_pos hp]; exact put _ h
      ·rename_i hp; rw [if_neg hp];split at h
       ·rename_i ht; rw [if_pos ht];simp only [Wab,Waa] at h ⊢;obtain ⟨vs,h1,h2⟩:=h;obtain ⟨σ1',e1,e2⟩:=put _ h2;exact ⟨σ1',⟨vs,h1,e1⟩,e2⟩
       ·rename_i ht; rw [if_neg ht];simp only [Wab,Waa] at h ⊢;obtain ⟨vs,h1,h2⟩:=h;obtain ⟨σ1',e1,e2⟩:=put _ h2;exact ⟨σ1',⟨vs,h1,e1⟩,e2⟩
     ·cases h
    ·rename_i ha;rw [if_neg ha];split at h
     ·split at h
      ·rename_i ht; rw [if_pos ht];split at h
       ·cases h
       ·rename_i hp; rw [if_neg hp]; cases h;exact ⟨_,rfl,uB _ _ _ hl hb eP hW⟩
      ·rename_i ht; rw [if_neg ht]; exact put _ h
     ·cases h
   ·split at h
    ·rename_i ha;rw [if_pos ha];split at h
     ·rename_i hc; rw [if_pos hc]; exact put _ h
     ·cases h
    ·rename_i ha;rw [if_neg ha];split at h
     ·exact put _ h
     ·cases h
   ·cases h
  ·split at h
   ·rename_i ha;rw [if_pos ha];split at h
    ·rename_i hc; rw [if_pos hc]; exact put _ h
    ·cases h
   ·rename_i ha;rw [if_neg ha];split at h
    ·exact put _ h
    ·cases h
  ·cases h
 | store n x y=>
  simp only [dU] at hr;have hr1:∀ t∈x.tmps,σ'.t[t]?=Z.t[t]?:=λt ht=>hr t (by simp [ht]);have hr2:∀ t∈y.tmps,σ'.t[t]?=Z.t[t]?:=λt ht=>hr t (by simp [ht]);simp only [ck,dr hr1,dr hr2,hb] at h ⊢;split at h
  ·cases h
  ·rename_i hd;rw [if_neg hd];have hd:d=none:=by simp_all
   subst hd;have hWW:∀ i∈Wk (.store n x y) none,σ'.t[i]?=Z.t[i]?:=λi hi=>hW i hi (by simp);split at h
   ·split at h
    ·simp only [Wab,Waa] at h ⊢;obtain ⟨v,h1,h2⟩:=h;split at h2
     ·rename_i hc;cases h2;exact ⟨_,⟨v,h1,by rw [if_pos hc]⟩,Av _ _ hb hWW⟩
     ·cases h2
    ·split at h
     ·split at h
      ·rename_i hc; cases h; rw [if_pos hc]; exact ⟨_,rfl,Av _ _ hb hWW⟩
      ·cases h
     ·split at h
      ·rename_i hc; cases h; rw [if_pos hc]; exact ⟨_,rfl,Av _ _ hb hWW⟩
      ·cases h
     ·cases h
     ·cases h
     ·cases h
     ·split at h
      ·rename_i hc; cases h; rw [if_pos hc];refine ⟨_,rfl,(Av (Z:=Z.ac y) (σ':=σ'.ac y) _ _ (by simpa [tv] using hb) (λi hi=>rK hr2 i (by simpa [Wk,iy] using hi))).shift
        (λi hi=>kT (λhh=>hi (by simp [Wk,iy,hh]))) (λi hi=>kT (λhh=>hi (by simp [Wk,iy,hh]))) (iA _ _) (iA _ _)⟩
      ·cases h
    ·cases h
   ·cases h
 | makeSlice sz bytes z l c=>
  simp only [dU] at hr;simp only [ck,dr (s:=l) (λt ht=>hr t (by simp [ht])),dr (s:=c) (λt ht=>hr t (by simp [ht]))] at h ⊢;split at h
  ·split at h
   ·rename_i hc; rw [if_pos hc];split at h
    ·rename_i hp; rw [if_pos hp]; exact pJ hl hb eP hW h
    ·rename_i hp; rw [if_neg hp]; exact Ac hl hb eP hW h
   ·cases h
  ·cases h
 | append sz bytes s x=>
  simp only [dU] at hr;have hr1:∀ t∈s.tmps,σ'.t[t]?=Z.t[t]?:=λt ht=>hr t (by simp [ht]);simp only [ck,dr hr1,dr (s:=x) (λt ht=>hr t (by simp [ht])),hb] at h ⊢;split at h
  ·split at h
   ·rename_i hc; rw [if_pos hc];split at h
    ·rename_i hp; rw [if_pos hp];split at h
     ·exact Ac hl hb eP hW h
     ·cases h
    ·rename_i hp; rw [if_neg hp]; cases h;exact ⟨_,rfl,(j8 _ (by simpa [iA] using hl) (by simpa [tv] using hb) eP (λi hi hd=>rK hr1 i (by simpa [iy] using vM hi hd))).shift
      (λi hi=>kT (λhh=>hi (by simp [Wk,iy,hh]))) (λi hi=>kT (λhh=>hi (by simp [Wk,iy,hh]))) (iA _ _) (iA _ _)⟩
   ·cases h
  ·split at h
   ·rename_i hc; rw [if_pos hc];obtain ⟨σ1',e1,e2⟩:=Ac (d4:=Wk (.append sz bytes s x) d) (by simpa [iA] using hl) (by simpa [tv] using hb) eP (λi hi hd=>rK hr1 i (by simpa [iy] using vM hi hd)) h;exact ⟨σ1',e1,e2.shift (λi hi=>kT (λhh=>hi (by simp [Wk,iy,hh]))) (λi hi=>kT (λhh=>hi (by simp [Wk,iy,hh]))) (iA _ _) (iA _ _)⟩
   ·cases h
  ·split at h
   ·split at h
    ·rename_i id off len sz1 sz2 es2 _ _ _ cs _ hc; rw [if_pos hc];obtain ⟨σ1',e1,e2⟩:=pJ (d4:=Wk (.append sz bytes s x) d) (Z:=Z.ab id (.dead cs.length)) (σ':=σ'.ab id (.dead cs.length)) hl (by simp [St.ab,hb]) eP hW h;exact ⟨σ1',e1,e2.shift (λ_ _=>rfl) (λ_ _=>rfl) rfl rfl⟩
    ·cases h
   ·cases h
  ·split at h
   ·split at h
    ·rename_i hc; rw [if_pos hc]; cases h;exact ⟨_,rfl,uB _ _ _ hl hb eP hW⟩
    ·cases h
   ·cases h
  ·cases h
 | a8 x=>
  simp only [dU] at hr;simp only [ck,dr hr,hb] at h ⊢;split at h
  ·cases h
  ·rename_i hp;rw [if_neg hp];split at h
   ·split at h
    ·split at h
     ·rename_i hc; rw [if_pos hc]; cases h;exact ⟨_,rfl,uB _ _ _ hl hb eP hW⟩
     ·cases h
    ·cases h
   ·cases h;exact ⟨_,rfl,(j8 _ (by simpa [iA] using hl) (by simpa [tv] using hb) eP (λi hi hd=>rK hr i (by simpa [iy] using vM hi hd))).shift
     (λi hi=>kT (λhh=>hi (by simp [Wk,iy,hh]))) (λi hi=>kT (λhh=>hi (by simp [Wk,iy,hh]))) (iA _ _) (iA _ _)⟩
   ·cases h
 | aM sz bytes s x=>
  simp only [dU] at hr;have hr1:∀ t∈s.tmps,σ'.t[t]?=Z.t[t]?:=λt ht=>hr t (by simp [ht]);simp only [ck,dr hr1,dr (s:=x) (λt ht=>hr t (by simp [ht])),hb] at h ⊢;split at h
  ·cases h
  ·rename_i hp;rw [if_neg hp];split at h
   ·split at h
    ·rename_i hc; rw [if_pos hc]; cases h;exact ⟨_,rfl,(j8 _ (by simpa [iA] using hl) (by simpa [tv] using hb) eP (λi hi hd=>rK hr1 i (by simpa [iy] using vM hi hd))).shift
      (λi hi=>kT (λhh=>hi (by simp [Wk,iy,hh]))) (λi hi=>kT (λhh=>hi (by simp [Wk,iy,hh]))) (iA _ _) (iA _ _)⟩
    ·cases h
   ·cases h
 | bj p sz x=>
  simp only [dU] at hr;simp only [ck,dr hr,hb] at h ⊢;split at h
  ·split at h
   ·split at h
    ·split at h
     ·split at h
      ·rename_i id off _ _ cs _ _ sz1 es _ _ d0 hc; rw [if_pos hc];obtain ⟨σ1',e1,e2⟩:=pJ (d4:=Wk (.bj p sz x) (some d0)) (Z:=Z.ab id (.live false (cs.set off (.own (nb+d0) 0 es.length sz)))) (σ':=σ'.ab id (.live false (cs.set off (.own (nb+d0) 0 es.length sz)))) hl (by simp [St.ab,hb]) eP hW h;exact ⟨σ1',e1,e2.shift (λ_ _=>rfl) (λ_ _=>rfl) rfl rfl⟩
      ·cases h
     ·cases h
    ·cases h
   ·cases h
  ·cases h
 | aX n x y xs=>
  simp only [dU] at hr;have hr1:∀ t∈x.tmps,σ'.t[t]?=Z.t[t]?:=λt ht=>hr t (by simp [ht]);have hr2:∀ t∈y.tmps,σ'.t[t]?=Z.t[t]?:=λt ht=>hr t (by simp [ht]);simp only [ck,dr hr1,dr hr2,hb] at h ⊢;split at h
  ·cases h
  ·rename_i hd;rw [if_neg hd];have hd:d=none:=by simp_all
   subst hd;have hWW:∀ i∈Wk (.aX n x y xs) none,σ'.t[i]?=Z.t[i]?:=λi hi=>hW i hi (by simp);split at h
   ·split at h
    ·split at h
     ·split at h
      ·rename_i hc; cases h; rw [if_pos hc]; exact ⟨_,rfl,Av _ _ hb hWW⟩
      ·cases h
     ·cases h
    ·cases h
   ·cases h
 | aE n x=>
  simp only [dU] at hr;simp only [ck,dr hr,hb] at h ⊢;split at h
  ·split at h
   ·split at h
    ·rename_i hc; rw [if_pos hc];simp only [Wab,Waa,Waf] at h ⊢;obtain ⟨vs,h1,rfl⟩:=h;exact ⟨_,⟨vs,h1,rfl⟩,j8 _ hl hb eP hW⟩
    ·cases h
   ·cases h
  ·cases h
 | bh p sz x=>
  simp only [dU] at hr;simp only [ck,dr hr] at h ⊢;split at h
  ·split at h
   ·split at h
    ·rename_i sz1 es _ _ t0 d0 _ hc; rw [if_pos hc];obtain ⟨σ1',e1,e2⟩:=pJ (d4:=Wk (.bh p sz (.tmp t0)) (some d0)) (Z:=Z.put (some t0) (.own (nb+d0) 0 es.length sz)) (σ':=σ'.put (some t0) (.own (nb+d0) 0 es.length sz)) (by grind [xm]) (by rw [gz,gz]; exact hb) eP (λk hk hd=>by
      grind [gP]) h
     refine ⟨σ1',e1,e2.shift (λk hk=>?_) (λk hk=>?_) (xm _ _ _) (xm _ _ _)⟩
     ·rw [gP,if_neg]
      rintro ⟨e,_⟩
      cases e;exact hk (by simp [Wk,iy,Src.tmps])
     ·rw [gP,if_neg]
      rintro ⟨e,_⟩
      cases e;exact hk (by simp [Wk,iy,Src.tmps])
    ·cases h
   ·cases h
  ·cases h
 | clear sz z x=>
  simp only [dU] at hr;simp only [ck,dr hr,hb] at h ⊢;split at h
  ·split at h
   ·split at h
    ·rename_i hc; rw [if_pos hc]; cases h;exact ⟨_,rfl,uB _ _ _ hl hb eP hW⟩
    ·cases h
   ·cases h
  ·cases h
 | aO sz bytes z s x=>
  simp only [dU] at hr;have hr1:∀ t∈s.tmps,σ'.t[t]?=Z.t[t]?:=λt ht=>hr t (by simp [ht]);simp only [ck,dr hr1,dr (s:=x) (λt ht=>hr t (by simp [ht]))] at h ⊢;split at h
  ·split at h
   ·rename_i hc; rw [if_pos hc];split at h
    ·cases h
    ·rename_i hp; rw [if_neg hp];obtain ⟨σ1',e1,e2⟩:=Ac (d4:=Wk (.aO sz bytes z s x) d) (by simpa [iA] using hl) (by simpa [tv] using hb) eP (λi hi hd=>rK hr1 i (by simpa [iy] using vM hi hd)) h;exact ⟨σ1',e1,e2.shift (λi hi=>kT (λhh=>hi (by simp [Wk,iy,hh]))) (λi hi=>kT (λhh=>hi (by simp [Wk,iy,hh]))) (iA _ _) (iA _ _)⟩
   ·cases h
  ·cases h
 | copy sz x y=>
  simp only [dU] at hr;simp only [ck,dr (s:=x) (λt ht=>hr t (by simp [ht])),dr (s:=y) (λt ht=>hr t (by simp [ht])),hb] at h ⊢;split at h
  ·split at h
   ·split at h
    ·rename_i hc; rw [if_pos hc]; cases h;exact ⟨_,rfl,uB _ _ _ hl hb eP hW⟩
    ·cases h
   ·cases h
  ·cases h
 | extract x i=>
  simp only [dU] at hr;simp only [ck,dr hr] at h ⊢;split at h
  ·rename_i vs hvs;split at h
   ·rename_i _ v t hvi;split at h
    ·rename_i hc;rw [if_pos hc];split at h
     ·rename_i hh; rw [if_pos hh];have hx:σ'.t[t]?=Z.t[t]?:=hr t (by simp [Src.tmps]);obtain ⟨σ1',e1,e2⟩:=Yy (d4:=Wk (.extract (.tmp t) i) d) (Z:={ Z with t:=Z.t.set t (.ae (vs.set i .af)) }) (σ':={ σ' with t:=σ'.t.set t (.ae (vs.set i .af)) }) (by simpa using hl) hb eP (λj hj hd=>by
       grind) h
      refine ⟨σ1',e1,e2.shift (λj hj=>?_) (λj hj=>?_) (by simp) (by simp)⟩ <;>
       (have hne:¬ t=j:=λe=>hj (by simp [Wk,iy,Src.tmps,e])
        simp [WbB,hne])
     ·rename_i hh; rw [if_neg hh];split at h
      ·cases h
      ·rename_i hp; rw [if_neg hp]; cases h; exact ⟨_,rfl,j8 _ hl hb eP hW⟩
    ·cases h
   ·cases h
  ·cases h
 | call f xs ys=>
  simp only [dU] at hr;simp only [ck,Wab,Waa] at h ⊢;obtain ⟨vs,h1,h2⟩:=h;obtain ⟨σ1',e1,e2⟩:=QX (d4:=Wk (.call f xs ys) d) hl hb hr eP hW h2;exact ⟨σ1',⟨vs,by grind [yK,oB],e1⟩,e2⟩
 | aQ f xs ys=>
  simp only [dU] at hr;have hr2:∀ t∈xs.flatMap (λp=>p.1.tmps),σ'.t[t]?=Z.t[t]?:=λt ht=>hr t (Wbw _ ht);simp only [ck,dr (s:=f) (λt ht=>hr t (by simp [ht]))] at h ⊢;split at h
  ·simp only [Wab,Waa] at h ⊢;obtain ⟨vs,h1,h2⟩:=h;obtain ⟨σ1',e1,e2⟩:=QX (d4:=Wk (.aQ f xs ys) d) hl hb hr2 eP hW h2;exact ⟨σ1',⟨vs,by grind [yK,oB],e1⟩,e2⟩
  ·cases h
 | makeMap=>simp only [ck] at h ⊢; exact pJ hl hb eP hW h
 | bE sz id=>
  simp only [ck,hb] at h ⊢;split at h
  ·rename_i hg;cases h;exact ⟨_,rfl,uB _ _ _ hl hb eP hW⟩
  ·cases h
 | a9 kd ok z x y=>
  simp only [dU] at hr;simp only [ck,dr (s:=x) (λt ht=>hr t (by simp [ht])),dr (s:=y) (λt ht=>hr t (by simp [ht])),hb] at h ⊢;split at h
  ·split at h
   ·split at h
    ·rename_i hc; rw [if_pos hc];simp only [Wab,Waa,Option.pure_def,Waf] at h ⊢;obtain ⟨r,h1,rfl⟩:=h;exact ⟨_,⟨r,h1,rfl⟩,j8 _ hl hb eP hW⟩
    ·cases h
   ·cases h
  ·cases h
 | bz kd x y z=>
  simp only [dU] at hr;simp only [ck,dr (s:=x) (λt ht=>hr t (by simp [ht])),dr (s:=y) (λt ht=>hr t (by simp [ht])),dr (s:=z) (λt ht=>hr t (by simp [ht])),hb] at h ⊢;split at h
  ·cases h
  ·rename_i hdst;rw [if_neg hdst];split at h
   ·split at h
    ·split at h
     ·rename_i hc; rw [if_pos hc];simp only [Wab,Waa,Option.pure_def,Waf] at h ⊢;obtain ⟨v,h1,es',h2,rfl⟩:=h;refine ⟨_,⟨v,h1,es',h2,rfl⟩,Av _ _ hb (λi hi=>?_)⟩;by_cases hd:d=some i
      ·simp [hd] at hdst
      ·exact hW i hi hd
     ·cases h
    ·cases h
   ·cases h
 | bC x=>
  simp only [dU] at hr;simp only [ck,dr hr,hb] at h ⊢;split at h
  ·split at h
   ·cases h; exact ⟨_,rfl,j8 _ hl hb eP hW⟩
   ·cases h
  ·cases h
 | _=>exact pure h
end
section
variable {o:COp}{j k id n r:Nat}{d dst:Option Nat}{v:V}{b:List B}{s:Src × Nat}{agg ah:Bool}{a:Src}{σ1':St}{fl:Fl}
variable {cb:CB} {nb:Nat} {Z σ' σ1:St}
def Wo(o:COp):List Nat:=Wk o.k o.dst
theorem jv{g:Option (Nat × Bool)}(h:∀ j w,g=some (j,w)->σ'.t[j]?=Z.t[j]?):iS σ' g=iS Z g:=by
 cases g <;> grind [iS]
theorem jT{w:Bool}(h:o.guard=some (j,w)):j∈fC o:=by simp [fC,h]
theorem oK(h:j∈dU o.k):j∈fC o:=by simp [fC,h]
theorem ge(o:COp)(hl:σ'.t.length=Z.t.length)(hb:σ'.b=Z.b)(hr:∀ t∈fC o,σ'.t[t]?=Z.t[t]?)(h:dz cb nb Z o=some σ1) :
  ∃ σ1',dz cb nb σ' o=some σ1'/\Over (Wo o) Z σ1 σ' σ1':=by
 unfold dz at h ⊢
 grind [Wo,jv,jT,zef,oK,j8,eP,Q3,vM]
def pv(Z:St)(ah:Bool):K->Option V
 | .move x _=>if ah then none else some (x.get Z).ag
 | k=>cJ Z k
theorem Ug{k:K}(hp:eN k=true)(Z:St)(d:Option Nat)(ah:Bool):ck cb nb Z d ah k=(pv Z ah k).map (λv=>Z.put d v):=by
 cases k <;> simp [eN] at hp <;> first | rfl | (subst hp; cases ah <;> rfl)
theorem zg4{k:K}(hp:eN k=true)(ah:Bool)(hr:∀ t∈dU k,σ'.t[t]?=Z.t[t]?):pv σ' ah k=pv Z ah k:=by
 cases k with
 | move x take=>grind [dU,pv,dr]
 | _=>exact QZ _ hr (.inr hp)
theorem DL(o:COp)(hp:eN o.k=true)(hr:∀ t∈fC o,σ'.t[t]?=Z.t[t]?)(h:dz cb nb Z o=some σ1):∃ v,σ1=Z.put o.dst v/\dz cb nb σ' o=some (σ'.put o.dst v):=by
 unfold dz at h ⊢;rw [jv (λj w hg=>hr j (jT hg))];split at h
 ·rw [Ug hp] at h ⊢;rw [zg4 hp _ (λt ht=>hr t (oK ht))];rw [Wag] at h
  grind
 ·cases h; exact ⟨_,rfl,rfl⟩
 ·cases h
theorem KU{k:K}(h:eN k=true):iy k=[]:=by
 cases k <;> simp [eN] at h <;> first | rfl | (subst h; rfl)
theorem U4(h:Z.au nb d false v=some σ1)(hv:∀ p cs,v≠.bx p cs):σ1.b=Z.b:=by
 cases v <;> grind [St.aq,St.au,gz]
theorem Fv{Z:St}:∀ (ss:List (Src × Nat)) (b:List B),(∀ s∈ss,∀ id,gS (s.1.get Z)=some id->fQ b id=b)->dG Z ss b=b
 | [],b,h=>rfl
 | s::ss,b,h=>by
  have ih:=Fv ss b (λs' hs'=>h s' (by simp [hs']));unfold dG;split
  ·exact ih
  ·cases ho:gS (s.1.get Z) with
   | none=>exact ih
   | some id=>simp only [h s (by simp) id ho]; exact ih
theorem zgL(h:zh0 b[id]?=true):fQ b id=b:=by
 grind [fQ,zh0]
theorem Rf(b:List B)(n:Nat)(acc:List Nat):o7 b n [] acc=acc:=by cases n <;> rfl
theorem YK(hm:s.2<2):BU s=none:=by
 grind [BU]
theorem Rb(hm:s.2<2)(h:od Z.b (s.1.get Z)=true)(hv:jh Z s=some v):eg v=[]:=by
 have hl:wK s.2 (s.1.get Z)=none:=by unfold wK; rw [if_neg (by omega)]
 rw [jh,YK hm] at hv;simp [wF,hl] at hv;cases hx:s.1.get Z with
 | own id off len sz=>
  rw [hx] at hv;simp only [i4] at hv;cases hc:((Z.b[id]?).getD .gone).cs? with
  | none=>rw [hc] at hv; cases hv
  | some cs=>rw [hc] at hv; cases hv; rfl
 | ptr id off=>grind [od]
 | st cs=>grind [od]
 | mp id=>grind [od]
 | fn f caps=>
  grind [od,eg,i4]
 | _=>
  grind [eg,i4,V.plain]
theorem Tj{take:Bool}(hl:(agg||!take)=true)(hg:a.get σ'=a.get Z)(hb:∀ id off,a.get Z=.ptr id off->σ'.b[id]?=Z.b[id]?)(h:ck cb nb Z dst ah (.load agg n a take)=some σ1):∃ v,σ1=Z.put dst v/\ck cb nb σ' dst ah (.load agg n a take)=some (σ'.put dst v):=by
 simp only [ck,hg] at h ⊢;cases hx:a.get Z with
 | ptr id off=>
  rw [hx] at h;have hb:=hb id off hx;simp only [hb];simp only at h;cases hbb:Z.b[id]? with
  | none=>rw [hbb] at h; cases h
  | some x=>
   rw [hbb] at h;cases x with
   | live p cs=>
    simp only at h ⊢;cases agg with
    | true=>
     simp only [if_true] at h ⊢;split at h
     ·rename_i hle;simp only [hle,if_true];cases p with
      | true=>grind
      | false=>
       cases take with
       | true=>
        simp [Waa] at h ⊢
        grind
       | false=>
        simp [Waa] at h ⊢
        grind
     ·cases h
    | false=>
     grind
   | fz cs=>
    grind
   | _=>cases h
 | fp m cs=>
  grind
 | _=>rw [hx] at h; cases h
theorem zh9{take:Bool}(hl:(agg||!take)=true)(h:ck cb nb Z dst ah (.load agg n a take)=some σ1):∃ v,σ1=Z.put dst v:=by
 obtain ⟨v,h,_⟩:=Tj (σ':=Z) hl rfl (λ_ _ _=>rfl) h;exact ⟨v,h⟩
theorem WL(h:dz cb nb Z o=some σ1)(hq:j7 Z o σ1=true):σ1.b=Z.b:=by
 unfold dz at h;unfold j7 at hq;cases hg:iS Z o.guard with
 | none=>rw [hg] at h; cases h
 | some g=>
  rw [hg] at h hq;cases g with
  | false=>grind [gz]
  | true=>
   simp only at h hq;have sp:eN o.k=true->σ1.b=Z.b:=by
    intro hp;rw [Ug hp,Wag] at h
    grind [gz]
   cases hk:o.k with
   | load agg n x take=>
    grind [zh9,gz]
   | toStr x=>
    rw [hk] at h;simp [ck] at h
    grind [gz]
   | aE n x=>
    rw [hk] at h;simp [ck] at h
    repeat' (split at h)
    ·rw [Waa] at h
     grind [gz]
    all_goals cases h
   | bG x=>
    rw [hk] at h;simp [ck] at h
    grind [gz]
   | bk x y=>
    rw [hk] at h;simp [ck] at h
    grind [gz]
   | ay n sz x l hh m=>
    rw [hk] at h;simp [ck] at h
    grind [gz]
   | move x take=>
    grind [tv,gz,ck]
   | append sz bytes s x=>
    grind [St.aq,tv,zdG,gS,gz,ck]
   | ofStr x=>
    grind [gz,ck]
   | buildSlice sz n z ps=>
    rw [hk] at h hq;simp at hq;simp [ck,hq,Waa,St.aq] at h
    grind [gz]
   | makeSlice sz bytes z l c=>
    grind [St.aq,gz,ck]
   | call f xs ys=>
    rw [hk] at h hq;simp only [WaG,Wbx,Wbj,decide_eq_true_eq,List.isEmpty_iff] at hq;obtain ⟨⟨⟨hpin,hys⟩,hargs⟩,hd⟩:=hq;subst hys;simp [ck,Waa] at h;obtain ⟨vs,h1,h2⟩:=h;unfold nu at h2;have hfz:dG Z xs Z.b=Z.b:=Fv xs _ (λs hs id hid=>by
     have:=(hargs s hs).2;cases hx:s.1.get Z <;> rw [hx] at this hid <;> simp only [gS] at hid <;> cases hid;exact zgL this)
    have hids:gZ Z.b vs=[]:=by
     unfold gZ;have:vs.flatMap eg=[]:=by
      rw [WbH];intro v hv;obtain ⟨i,hi⟩:=WbK hv;have hlt:i<xs.length:=by grind [OI]
      obtain ⟨v',g1,g2⟩:=Sg h1 i _ (Wac hlt)
      grind [Rb]
     rw [this,Rf]
    simp only [hfz,hids,oh,Wab,Wbz] at h2;simp only [Waa] at h2;obtain ⟨⟨r,bor'⟩,_,h3⟩:=h2;simp only at h3;split at h3
    ·have e:iF (λk=>(([]:List Nat)++(WbO (nb+·) []).take (bor'.length-([]:List Nat).length)).getD k 0) (([]:List Nat)++(WbO (nb+·) []).take (bor'.length-([]:List Nat).length)) bor' Z.b=Z.b:=by simp [iF]
     rw [e,hpin] at h3;generalize rP _ r=r' at h3;cases hdd:o.dst with
     | none=>rw [hdd] at hd; cases hd
     | some d=>
      rw [hdd] at hd h3;have:=U4 h3 (λp cs hbx=>by
       subst hbx;simp only [St.au,St.ao] at h3;split at h3
       ·cases h3;simp only [St.put,St.ab] at hd;split at hd
        ·rename_i v hv;rw [WbB] at hv;simp only [if_true] at hv;split at hv
         ·cases hv; simp [wS] at hd
         ·cases hv
        ·cases hd
       ·cases h3)
      exact this
    ·cases h3
   | extract x i=>
    rw [hk] at h hq;simp at hq;obtain ⟨hpin,hq⟩:=hq;simp only [ck,hpin] at h;split at h
    ·rename_i vs hvs;rw [hvs] at hq;simp only at hq;split at h
     ·rename_i _ v t hvi;rw [hvi] at hq;split at h
      ·split at h
       ·have:=U4 h (λp cs hbx=>by subst hbx; simp at hq);exact this
       ·grind [gz]
      ·cases h
     ·cases h
    ·cases h
   | a9 kd ok z x y=>
    rw [hk] at h hq;simp only [ck] at h;split at h
    ·split at h
     ·split at h
      ·simp [Waa] at h
       grind [gz]
      ·cases h
     ·cases h
    ·cases h
   | bC x=>
    grind [gz,ck]
   | _=>
    grind
theorem Q6(hb:σ'.b=Z.b∨eN o.k=true)(hr:∀ t∈fC o,σ'.t[t]?=Z.t[t]?)(hd:∀ d,o.dst=some d->σ1'.t[d]?=σ1.t[d]?):j7 σ' o σ1'=j7 Z o σ1:=by
 unfold j7;rw [jv (λj w hg=>hr j (jT hg))];have hrk:∀ t∈dU o.k,σ'.t[t]?=Z.t[t]?:=λt ht=>hr t (oK ht);cases hk:o.k with
 | call f xs ys=>
  rw [hk] at hrk hb;have hb:σ'.b=Z.b:=hb.resolve_right (by simp [eN]);rw [hb];have e:(xs.all λs=>decide (s.2<2)&&od Z.b (s.1.get σ'))=(xs.all λs=>decide (s.2<2)&&od Z.b (s.1.get Z)):=by
   have hc:∀ s∈xs,s.1.get σ'=s.1.get Z:=λs hs=>dr (λt ht=>hrk t (Wbs.2 ⟨s,hs,ht⟩));rw [WbF,Wbj,Wbj];constructor
   ·intro hh c hcc; rw [<- hc c hcc]; exact hh c hcc
   ·intro hh c hcc; rw [hc c hcc]; exact hh c hcc
  simp only [e];cases hds:o.dst with
  | none=>rfl
  | some d=>simp only [hd d hds]
 | extract x i=>
  rw [hk] at hrk;simp only [dr (s:=x) hrk]
 | append sz bytes s x=>
  rw [hk] at hrk;simp only [dU] at hrk;simp only [dr (s:=s) (λt ht=>hrk t (by simp [ht]))]
 | _=>rfl
theorem kV{a b:List Nat}(h:xf a b=true):∀ x∈a,x ∉ b:=by
 grind [xf]
structure Side (A B:COp) (sa sb:Bool) (Z σ1 σ2 σ1':St):Prop where
 fA:∀ k,k ∉ Wo A->σ1.t[k]?=Z.t[k]?
 fB:∀ k,k ∉ Wo B->σ1'.t[k]?=Z.t[k]?
 dB:∀ d,B.dst=some d->σ1'.t[d]?=σ2.t[d]?
 dA:∀ d,A.dst=some d->σ2.t[d]?=σ1.t[d]?
 bB:Z.b=σ1.b∨eN B.k=true∨hI B.k=true∨sb=true
 bA:σ1'.b=Z.b∨eN A.k=true∨hI A.k=true∨sa=true
theorem zkZ{A B:COp}{σ2:St}(ha:dz cb nb Z A=some σ1)(hb:dz cb nb σ1 B=some σ2)(hs:pE A B=true)(hq:eN A.k=true∨eN B.k=true∨(j7 Z A σ1=true/\j7 σ1 B σ2=true)) :
  ∃ σ1',dz cb nb Z B=some σ1'/\dz cb nb σ1' A=some σ2/\∀ sa sb,Side A B sa sb Z σ1 σ2 σ1':=by
 simp only [pE,WaG] at hs;have s1:=kV hs.1;have s2:=kV hs.2;have wa:∀ k∈Wo A,k ∉ fC B/\k ∉ Wo B:=λk hk=>by
  grind [Wk,Wo]
 have wb:∀ k∈Wo B,k ∉ fC A/\k ∉ Wo A:=λk hk=>by
  grind [Wk,Wo]
 obtain ⟨_,_,oa⟩:=ge A rfl rfl (λ_ _=>rfl) ha;obtain ⟨_,_,ob⟩:=ge B rfl rfl (λ_ _=>rfl) hb;have rB:∀ t∈fC B,Z.t[t]?=σ1.t[t]?:=λt ht=>(oa.fr t (λhh=>(wa t hh).1 ht)).symm;have key:∃ σ1',dz cb nb Z B=some σ1'/\(∀ k∈Wo B,σ1'.t[k]?=σ2.t[k]?)/\(∀ k,k ∉ Wo B->σ1'.t[k]?=Z.t[k]?)/\σ1'.t.length=Z.t.length /\
   ∃ σ2',dz cb nb σ1' A=some σ2'/\(∀ k∈Wo A,σ2'.t[k]?=σ1.t[k]?)/\(∀ k,k ∉ Wo A->σ2'.t[k]?=σ1'.t[k]?)/\σ2'.b=σ2.b/\(Z.b=σ1.b∨eN B.k=true)/\(σ1'.b=Z.b∨eN A.k=true):=by
  have viaB:∀ σ1',dz cb nb Z B=some σ1'->(∀ k,k ∉ Wo B->σ1'.t[k]?=Z.t[k]?)->∀ t∈fC A,σ1'.t[t]?=Z.t[t]?:=λσ1' _ h t ht=>h t (λhh=>(wb t hh).1 ht);by_cases hbp:eN B.k=true
  ·obtain ⟨v,e1,e2⟩:=DL B hbp rB hb;have hWB:∀ k,B.dst=some k->k∈Wo B:=λk hk=>eP k hk;have hl:(Z.put B.dst v).t.length=Z.t.length:=xm _ _ _;have off:∀ k,k ∉ Wo B->(Z.put B.dst v).t[k]?=Z.t[k]?:=λk hk=>by grind [gP]
   refine ⟨_,e2,λk hk=>?_,off,hl,?_⟩
   ·have hkd:B.dst=some k:=by
     grind [Wk,Wo,KU]
    rw [e1,gP,gP,oa.len];by_cases hlt:k<Z.t.length
    ·rw [if_pos ⟨hkd,hlt⟩,if_pos ⟨hkd,hlt⟩]
    ·rw [if_neg (λh=>hlt h.2),if_neg (λh=>hlt h.2),Wbu (by omega),Wbu (by rw [oa.len]; omega)]
   ·obtain ⟨σ2',f1,f2⟩:=ge A (σ':=Z.put B.dst v) hl (gz _ _ _) (viaB _ e2 off) ha;exact ⟨σ2',f1,f2.on,f2.off,by rw [f2.b,e1,gz],.inr hbp,.inl (gz _ _ _)⟩
  ·by_cases hap:eN A.k=true
   ·obtain ⟨v,e1,_⟩:=DL A hap (λ_ _=>rfl) ha;have hb1:Z.b=σ1.b:=by rw [e1,gz]
    obtain ⟨σ1',f1,f2⟩:=ge B (σ':=Z) oa.len.symm hb1 rB hb;have hl:σ1'.t.length=Z.t.length:=f2.a7;refine ⟨σ1',f1,f2.on,f2.off,hl,?_⟩;obtain ⟨v',e3,e4⟩:=DL A (σ':=σ1') hap (viaB _ f1 f2.off) ha;refine ⟨_,e4,λk hk=>?_,λk hk=>?_,by rw [gz,f2.b],.inl hb1,.inr hap⟩
    ·have hkd:A.dst=some k:=by
      grind [Wk,Wo,KU]
     rw [e3,gP,gP,hl];by_cases hlt:k<Z.t.length
     ·rw [if_pos ⟨hkd,hlt⟩,if_pos ⟨hkd,hlt⟩]
     ·rw [if_neg (λh=>hlt h.2),if_neg (λh=>hlt h.2),Wbu (by omega),Wbu (by omega)]
    ·rw [gP,if_neg (λh=>hk (eP k h.1))]
   ·have hq:j7 Z A σ1=true/\j7 σ1 B σ2=true:=by
     grind
    have hb1:=WL ha hq.1;have hb2:=WL hb hq.2;obtain ⟨σ1',f1,f2⟩:=ge B (σ':=Z) oa.len.symm hb1.symm rB hb;refine ⟨σ1',f1,f2.on,f2.off,f2.a7,?_⟩;obtain ⟨σ2',g1,g2⟩:=ge A (σ':=σ1') f2.a7 (by rw [f2.b,hb2,hb1]) (viaB _ f1 f2.off) ha;exact ⟨σ2',g1,g2.on,g2.off,by rw [g2.b,hb2],.inl hb1.symm,.inl (by rw [f2.b,hb2,hb1])⟩
 obtain ⟨σ1',k1,k2,k3,k4,σ2',k5,k6,k7,k8,k9,k10⟩:=key;have e:σ2'=σ2:=by
  have et:σ2'.t=σ2.t:=by
   apply Wby;intro k;by_cases hA:k∈Wo A
   ·rw [k6 k hA,ob.fr k (wa k hA).2]
   ·rw [k7 k hA];by_cases hB:k∈Wo B
    ·rw [k2 k hB]
    ·rw [k3 k hB,ob.fr k hB,oa.fr k hA]
  cases σ2'; simp_all
 subst e;exact ⟨σ1',k1,k5,λsa sb=>⟨oa.fr,k3,λd hd=>k2 d (eP d hd),λd hd=>k6 d (eP d hd),k9.imp_right .inl,k10.imp_right .inl⟩⟩
theorem zav(hb:σ'.b=Z.b∨eN o.k=true∨hI o.k=true)(hr:∀ t∈fC o,σ'.t[t]?=Z.t[t]?)(hd:∀ d,o.dst=some d->σ1'.t[d]?=σ1.t[d]?):j7 σ' o σ1'=j7 Z o σ1:=by
 rcases hb with h | h | h
 ·grind [Q6]
 ·grind [Q6]
 ·unfold j7;rw [jv (λj w hg=>hr j (jT hg))];cases hk:o.k <;> rw [hk] at h <;> simp [hI] at h <;> rfl
theorem zaG(hb:σ'.b=Z.b∨eN o.k=true∨hI o.k=true)(hr:∀ t∈fC o,σ'.t[t]?=Z.t[t]?):BJ nb σ' o id=BJ nb Z o id:=by
 unfold BJ;rcases hb with hb | h | h
 rotate_left
 ·simp [h]
 ·simp [h]
 congr 1;rw [jv (λj w hg=>hr j (jT hg))];cases hk:o.k with
 | call f xs ys=>
  have hrk:∀ t∈dU o.k,σ'.t[t]?=Z.t[t]?:=λt ht=>hr t (oK ht);rw [hk] at hrk;simp only [dU] at hrk;have e1:xs.mapM (jh σ')=xs.mapM (jh Z):=oB xs (λs hs=>yK hb (λt ht=>hrk t (Wbs.2 ⟨s,hs,ht⟩)));have e2:∀ vs,jA nb σ' o.dst vs xs ys=jA nb Z o.dst vs xs ys:=by
   intro vs;unfold jA;rw [w9 xs _ hrk,hb];congr 3;have hcc:∀ s∈xs,gS (s.1.get σ')=gS (s.1.get Z):=λs hs=>by rw [dr (λt ht=>hrk t (Wbs.2 ⟨s,hs,ht⟩))]
   clear hrk e1 hk
   induction xs with
   | nil=>rfl
   | cons s xs ih=>
    simp only [WbM,hcc s (by simp)];rw [ih (λs hs=>hcc s (by simp [hs]))]
  simp only [e1,e2]
 | _=>rfl
theorem Hd{o:COp}(hb:σ'.b=Z.b∨eN o.k=true∨hI o.k=true)(hr:∀ t∈fC o,σ'.t[t]?=Z.t[t]?):∀ (w:List Nat),(∀ r∈w,σ'.t[r]?=Z.t[r]?)->uo nb σ' o w=uo nb Z o w
 | [],_=>rfl
 | r::w,h=>by
  simp [uo,h r (by simp),Hd hb hr w (λr hr=>h r (by simp [hr]))]
  grind [zaG]
theorem YS(hr:∀ t∈fC o,σ'.t[t]?=Z.t[t]?)(h:σ'.t[r]?=Z.t[r]?):uE σ' o r=uE Z o r:=by
 grind [Src.tmps,dU,oK,uE]
theorem Zc(hr:∀ t∈fC o,σ'.t[t]?=Z.t[t]?)(hd:∀ d,o.dst=some d->σ1'.t[d]?=σ1.t[d]?):xg σ' o σ1'=xg Z o σ1:=by
 unfold xg;rw [jv (λj w hg=>hr j (jT hg))];have hrk:∀ t∈dU o.k,σ'.t[t]?=Z.t[t]?:=λt ht=>hr t (oK ht);cases hk:o.k with
 | call f xs ys=>
  rw [hk] at hrk;have e:(xs.all λs=>decide (s.2<2)&&Cd (s.1.get σ'))=(xs.all λs=>decide (s.2<2)&&Cd (s.1.get Z)):=by
   have hc:∀ s∈xs,s.1.get σ'=s.1.get Z:=λs hs=>dr (λt ht=>hrk t (Wbs.2 ⟨s,hs,ht⟩));rw [WbF,Wbj,Wbj];constructor
   ·intro hh c hcc; rw [<- hc c hcc]; exact hh c hcc
   ·intro hh c hcc; rw [hc c hcc]; exact hh c hcc
  cases hds:o.dst with
  | none=>rfl
  | some d=>simp only [e,hd d hds]
 | _=>rfl
theorem MT{vs:List V}{xs:List (Src × Nat)}{ys:List Nat}(hb:σ'.b=Z.b)(hrk:∀ t∈xs.flatMap (λp=>p.1.tmps),σ'.t[t]?=Z.t[t]?):jA nb σ' dst vs xs ys=jA nb Z dst vs xs ys:=by
 unfold jA;rw [w9 xs _ hrk,hb];congr 3;have hcc:∀ s∈xs,gS (s.1.get σ')=gS (s.1.get Z):=λs hs=>by grind [dr]
 clear hrk
 induction xs with
 | nil=>rfl
 | cons s xs ih=>
  simp only [WbM,hcc s (by simp)];rw [ih (λs hs=>hcc s (by simp [hs]))]
theorem OA(hb:σ'.b=Z.b∨eN o.k=true∨hI o.k=true)(hr:∀ t∈fC o,σ'.t[t]?=Z.t[t]?):kOf nb σ' o=kOf nb Z o:=by
 unfold kOf;rw [jv (λj w hg=>hr j (jT hg))];have hrk:∀ t∈dU o.k,σ'.t[t]?=Z.t[t]?:=λt ht=>hr t (oK ht);cases hk:o.k with
 | call f xs ys=>
  rw [hk] at hrk hb;simp only [dU] at hrk;have hb:σ'.b=Z.b:=hb.resolve_right (by simp [eN,hI]);have e1:xs.mapM (jh σ')=xs.mapM (jh Z):=oB xs (λs hs=>yK hb (λt ht=>hrk t (Wbs.2 ⟨s,hs,ht⟩)));simp only [e1,MT hb hrk]
 | aQ f xs ys=>
  rw [hk] at hrk hb;simp only [dU] at hrk;have hb:σ'.b=Z.b:=hb.resolve_right (by simp [eN,hI]);have hrk2:∀ t∈xs.flatMap (λp=>p.1.tmps),σ'.t[t]?=Z.t[t]?:=λt ht=>hrk t (Wbw _ ht);have e1:xs.mapM (jh σ')=xs.mapM (jh Z):=oB xs (λs hs=>yK hb (λt ht=>hrk2 t (Wbs.2 ⟨s,hs,ht⟩)));simp only [e1,MT hb hrk2,dr (s:=f) (λt ht=>hrk t (Wbv _ ht))]
 | aE n x=>
  rw [hk] at hrk hb;have hb:σ'.b=Z.b:=hb.resolve_right (by simp [eN,hI]);simp only [dr (s:=x) hrk,hb]
 | load agg n x take=>
  rw [hk] at hrk;simp only [dr (s:=x) hrk]
 | store n x y=>
  rw [hk] at hrk;simp only [dU] at hrk;simp only [dr (s:=x) (λt ht=>hrk t (Wbv _ ht))]
 | append sz bytes x y=>
  rw [hk] at hrk;simp only [dU] at hrk;simp only [dr (s:=x) (λt ht=>hrk t (Wbv _ ht)),dr (s:=y) (λt ht=>hrk t (Wbw _ ht))]
 | _=>rfl
theorem qd(hk:kOf nb σ' o=kOf nb Z o)(hw:∀ t∈fl.roots,σ'.t[t]?=Z.t[t]?):ux nb σ' o fl=ux nb Z o fl:=by
 unfold ux;rw [hk];cases kOf nb Z o with
 | none=>rfl
 | some K=>
  simp only;have e2:fl.w.all (yD σ' K)=fl.w.all (yD Z K):=by
   have hc:∀ r∈fl.w,yD σ' K r=yD Z K r:=λr hr=>by
    unfold yD;rw [hw r (by simp [Fl.roots,hr])]
   rw [WbF,Wbj,Wbj];constructor
   ·intro hh c hcc; rw [<- hc c hcc]; exact hh c hcc
   ·intro hh c hcc; rw [hc c hcc]; exact hh c hcc
  cases hf:fl.root with
  | none=>simp only [e2]
  | some r=>
   have:O0 σ' r=O0 Z r:=by
    funext id;unfold O0;rw [hw r (by simp [Fl.roots,hf])]
   simp only [this,e2]
theorem xl(hb:σ'.b=Z.b∨eN o.k=true∨hI o.k=true∨(fl.s&&!fl.l)=true)(hr:∀ t∈fC o,σ'.t[t]?=Z.t[t]?)(hw:∀ t∈fl.roots,σ'.t[t]?=Z.t[t]?)(hd:∀ d,o.dst=some d->σ1'.t[d]?=σ1.t[d]?):kW nb σ' o fl σ1'=kW nb Z o fl σ1:=by
 unfold kW;rw [Zc hr hd];cases hl:fl.l with
 | true=>
  grind [OA,qd]
 | false=>
 simp;cases hs:fl.s with
 | true=>rfl
 | false=>
  rw [hs] at hb;have hb:σ'.b=Z.b∨eN o.k=true∨hI o.k=true:=by
   grind
  simp;rw [zav hb hr hd,Hd hb hr fl.w (λr h=>hw r (by simp [Fl.roots,h]))]
  grind [Fl.roots,YS]
theorem ND(h:k≠id):(fQ b id)[k]?=b[k]?:=by
 grind [fQ]
theorem Kl{Z:St}{k:Nat}:∀ (ss:List (Src × Nat)) (b:List B),k ∉ ss.filterMap (λs=>gS (s.1.get Z))->(dG Z ss b)[k]?=b[k]?
 | [],b,h=>rfl
 | s::ss,b,h=>by
  unfold dG;have h1:k ∉ ss.filterMap (λs=>gS (s.1.get Z)):=by
   grind
  rw [Kl ss _ h1];split
  ·rfl
  ·cases ho:gS (s.1.get Z) with
   | none=>rfl
   | some id=>
    refine ND (λe=>h ?_);rw [List.mem_filterMap];exact ⟨s,by simp,by rw [ho,e]⟩
theorem Ca{x:B}{f:Nat->V}(h:Z.ao nb d x f=some σ1)(hk:k ∉ d.toList.map (nb+·)):σ1.b[k]?=Z.b[k]?:=by
 cases d <;> grind [St.ao,St.ab,gz]
theorem zd1{sz:Nat}{es:Ls}(h:Z.aq nb d ah sz es=some σ1)(hk:k ∉ d.toList.map (nb+·)):σ1.b[k]?=Z.b[k]?:=by
 grind [St.aq,Ca,gz]
theorem zdu(h:Z.au nb d ah v=some σ1)(hk:k ∉ d.toList.map (nb+·)):σ1.b[k]?=Z.b[k]?:=by
 unfold St.au at h
 grind [Ca,zd1,gz]
theorem MW(g:Nat->Nat):∀ (ids:List Nat) (bor:Bor) (b:List B) (id:Nat),id ∉ ids->(iF g ids bor b)[id]?=b[id]?
 | [],bor,b,id,h=>by cases bor <;> rfl
 | i::ids,[],b,id,h=>rfl
 | i::ids,x::bor,b,id,h=>by
  simp [iF];rw [MW g ids bor _ id (λhh=>h (by simp [hh])),List.getElem?_set_ne (λe=>h (by simp [e]))]
theorem zgF(h:dz cb nb Z o=some σ1)(ha:BJ nb Z o id=true):σ1.b[id]?=Z.b[id]?:=by
 unfold BJ at ha;rw [WbA,WbA] at ha;rcases ha with (ha | ha) | ha
 ·obtain ⟨v,rfl,_⟩:=DL o ha (λ_ _=>rfl) h;rw [gz]
 ·have:σ1.b=Z.b:=by
   grind [hI,j7,WL,dz]
  rw [this]
 ·unfold dz at h;cases hg:iS Z o.guard with
  | none=>rw [hg] at h; cases h
  | some g=>
   rw [hg] at h ha;cases g with
   | false=>simp only at h; cases h; rw [gz]
   | true=>
    simp only at h ha;cases hk:o.k with
    | call f xs ys=>
     rw [hk] at h ha;simp only [ck,Wab,Waa] at h;obtain ⟨vs,h1,h2⟩:=h;simp only [h1] at ha;have ha:id ∉ jA nb Z o.dst vs xs ys:=by
      grind
     simp only [jA,Wbt,not_or] at ha;obtain ⟨⟨⟨a1,a2⟩,a3⟩,a4⟩:=ha;unfold nu at h2;simp only [Wab,Waa,Prod.exists] at h2;obtain ⟨bor,_,r,bor',_,h2⟩:=h2;split at h2
     ·have:=zdu h2 a4;rw [this];simp only;rw [MW _ _ _ _ _ ?_,Kl _ _ a2];intro hh;rw [Wbt] at hh;rcases hh with hh | hh
      ·exact a1 hh
      ·exact a3 (List.mem_of_mem_take hh)
     ·cases h2
    | alloc p cs=>
     rw [hk] at h ha;simp only [ck] at h;refine Ca h (λhh=>?_);have:(o.dst.toList.map (nb+·)).contains id=true:=WbE.2 hh;simp only [this] at ha; cases ha
    | box p x=>
     rw [hk] at h ha;have hn:id ∉ o.dst.toList.map (nb+·):=λhh=>by
      grind
     simp only [ck] at h;split at h
     ·split at h
      ·cases h
      ·exact Ca h hn
     ·split at h
      ·exact Ca h hn
      ·cases h
    | _=>rw [hk] at ha; cases ha
theorem TU(h:dz cb nb Z o=some σ1)(hs:xg Z o σ1=true):∃ v,σ1=Z.put o.dst v/\∀ σ':St,(∀ t∈fC o,σ'.t[t]?=Z.t[t]?)->dz cb nb σ' o=some (σ'.put o.dst v):=by
 unfold dz at h;unfold xg at hs;cases hg:iS Z o.guard with
 | none=>rw [hg] at h; cases h
 | some g=>
  rw [hg] at h hs;cases g with
  | false=>
   grind [jv,jT,dz]
  | true=>
   simp only at h hs;cases hk:o.k with
   | call f xs ys=>
    cases hds:o.dst with
    | none=>rw [hk,hds] at hs; cases hs
    | some d=>
     rw [hk,hds] at hs;rw [hk,hds] at h;simp only [WaG,Wbx,Wbj,decide_eq_true_eq,List.isEmpty_iff] at hs;obtain ⟨⟨⟨hpin,hys⟩,hargs⟩,hd⟩:=hs;subst hys;rw [hpin] at h;simp [ck,Waa] at h;obtain ⟨vs,h1,h2⟩:=h;have hown:∀ s∈xs,gS (s.1.get Z)=none:=λs hs=>by
      have:=(hargs s hs).2;cases hx:s.1.get Z <;> rw [hx] at this <;> simp [Cd] at this <;> rfl
     have hrefs:vs.flatMap eg=[]:=by
      rw [WbH];intro v hv;obtain ⟨i,hi⟩:=WbK hv;have hlt:i<xs.length:=by rw [<- OI h1]; exact (List.getElem?_eq_some_iff.1 hi).1
      obtain ⟨v',g1,g2⟩:=Sg h1 i _ (Wac hlt);rw [hi] at g1; cases g1;refine Rb (hargs _ (List.getElem_mem hlt)).1 ?_ g2;have:=(hargs _ (List.getElem_mem hlt)).2;cases hx:(xs[i]).1.get Z <;> rw [hx] at this <;> simp [Cd] at this <;> simp [od,this]
     have gen:∀ (τ:St),(∀ s∈xs,gS (s.1.get τ)=none)->nu cb nb τ (some d) false f vs xs []=(cb f (vs.map (lr (fD []))) []).bind λp=>
       if ((p.2.take ([]:List Nat).length).map B.len=([]:Bor).map B.len/\p.2.length=(([]:List Nat)++(([]:List Nat).map (nb+·)).take (p.2.length-([]:List Nat).length)).length/\vs.all (λa=>(eg a).all ([]:List Nat).contains)/\F5 p.1/\(o4 p.1).all (λk=>decide (k<(([]:List Nat)++(([]:List Nat).map (nb+·)).take (p.2.length-([]:List Nat).length)).length))/\p.2.all (B.lend (List.range (([]:List Nat)++(([]:List Nat).map (nb+·)).take (p.2.length-([]:List Nat).length)).length))/\ua (p.2.take ([]:List Nat).length) ([]:Bor)/\(p.2.drop ([]:List Nat).length).all B.isRow/\w7 τ.b nb []) then
        St.au nb τ (some d) false (rP (λk=>(([]:List Nat)++(([]:List Nat).map (nb+·)).take (p.2.length-([]:List Nat).length)).getD k 0) p.1)
       else none:=by
      intro τ hτ;have hfz:dG τ xs τ.b=τ.b:=Fv xs _ (λs hs id hid=>by rw [hτ s hs] at hid; cases hid);have hids:gZ τ.b vs=[]:=by unfold gZ; rw [hrefs,Rf]
      unfold nu;simp only [hfz,hids,oh,Wab,Wbz];congr 1;funext p;have e:iF (λk=>(([]:List Nat)++(WbO (nb+·) []).take (p.2.length-([]:List Nat).length)).getD k 0) (([]:List Nat)++(WbO (nb+·) []).take (p.2.length-([]:List Nat).length)) p.2 τ.b=τ.b:=by simp [iF]
      rw [e]
     rw [gen Z hown,Waa] at h2;obtain ⟨⟨r,bor'⟩,hcb,h3⟩:=h2;simp only at h3;split at h3
     ·rename_i hcond;generalize hr':rP _ r=r' at h3;have hnb:∀ p cs,r'≠.bx p cs:=λp cs hbx=>by
       subst hbx;simp only [St.au,St.ao] at h3;split at h3
       ·cases h3;simp only [St.put,St.ab] at hd;split at hd
        ·rename_i v hv;rw [WbB] at hv;simp only [if_true] at hv;split at hv
         ·cases hv; simp [wS] at hd
         ·cases hv
        ·cases hd
       ·cases h3
      have putc:∃ v,∀ τ:St,τ.au nb (some d) false r'=some (τ.put (some d) v):=by
       cases r' with
       | bx p cs=>exact absurd rfl (hnb p cs)
       | fr sz es=>exact ⟨.gs sz es,λτ=>rfl⟩
       | gs sz es=>exact ⟨.gs sz es,λτ=>rfl⟩
       | _=>exact ⟨_,λτ=>rfl⟩
      obtain ⟨v,hv⟩:=putc;rw [hv Z] at h3;refine ⟨v,(Option.some.inj h3).symm,λσ' hr=>?_⟩;have hrk:∀ t∈dU o.k,σ'.t[t]?=Z.t[t]?:=λt ht=>hr t (oK ht);rw [hk] at hrk;have hc:∀ s∈xs,s.1.get σ'=s.1.get Z:=λs hs=>dr (λt ht=>hrk t (Wbs.2 ⟨s,hs,ht⟩));have hargs':∀ s∈xs,jh σ' s=jh Z s:=λs hs=>by
       have h2:=(hargs s hs).2;have h3:=(hargs s hs).1;have hl:∀ v,wK s.2 v=none:=λv=>by unfold wK; rw [if_neg (by omega)]
       simp only [jh,YK h3,wF,hl,hc s hs];cases hx:s.1.get Z <;> rw [hx] at h2 <;> simp [Cd] at h2 <;> rfl
      unfold dz;rw [jv (λj w hg=>hr j (jT hg)),hg];simp only [hk,hds,hpin,ck];rw [oB xs hargs',h1];simp only [Wab,Wbz];rw [gen σ' (λs hs=>by rw [hc s hs]; exact hown s hs),hcb];simp only [Wbz];rw [if_pos (by exact hcond),hr',hv σ']
     ·cases h3
   | _=>rw [hk] at hs; cases hs
theorem MA(hl:hI o.k=true)(hr:∀ t∈fC o,σ'.t[t]?=Z.t[t]?)(hb:∀ agg n a take id off,o.k=.load agg n a take->a.get Z=.ptr id off->σ'.b[id]?=Z.b[id]?)(h:dz cb nb Z o=some σ1):∃ v,σ1=Z.put o.dst v/\dz cb nb σ' o=some (σ'.put o.dst v):=by
 unfold dz at h ⊢;rw [jv (λj w hg=>hr j (jT hg))];split at h
 ·cases hk:o.k with
  | load agg n a take=>
   rw [hk] at h hl;exact Tj hl (dr (λt ht=>hr t (oK (by rw [hk]; exact ht)))) (λid off=>hb _ _ _ _ id off hk) h
  | _=>rw [hk] at hl; cases hl
 ·cases h; exact ⟨_,rfl,rfl⟩
 ·cases h
theorem Ud{A B:COp}{w:List Nat}(hra:uE Z A r=true)(hm:uk (some r) w=true)(hB:dz cb nb σ' B=some σ1)(hw:uo nb σ' B w=true)(ht:σ'.t[r]?=Z.t[r]?) :
  ∀ agg n a take id off,A.k=.load agg n a take->a.get Z=.ptr id off->σ1.b[id]?=σ'.b[id]?:=by
 intro agg n a take id off hk hg;unfold uE at hra;rw [WaG] at hra;have hra:=hra.2;rw [hk] at hra;cases a with
 | const v=>cases hra
 | tmp p=>
  simp only at hra;split at hra
  ·rename_i id1 o1 id2 o2 h1 h2;have e:=Nat.eq_of_beq_eq_true hra;have:id=id1:=by
    simp only [Src.get,Wak,h1,WbN] at hg;cases hg; rfl
   subst this; subst e;have hm:r∈w:=WbE.1 hm;have key:∀ (w:List Nat),r∈w->uo nb σ' B w=true->BJ nb σ' B id=true:=by
    intro w
    induction w with
    | nil=>intro h; cases h
    | cons x w ih=>
     intro h hh;simp only [uo,WaG] at hh;rcases WbL.1 h with rfl | h
     ·have:=hh.1;rw [ht,h2] at this;exact this
     ·exact ih h hh.2
   exact zgF hB (key w hm hw)
  ·rename_i h1;simp only [Src.get,Wak,h1,WbN] at hg;cases hg
  ·cases hra
theorem ze0{σ2:St}{d:Nat}(e:σ2=σ1.put dst v)(hd:dst=some d)(hl:σ1.t.length=Z.t.length):(Z.put dst v).t[d]?=σ2.t[d]?:=by
 grind [gP]
theorem zl7{A B:COp}{qa qb:Fl}{σ2:St}(ha:dz cb nb Z A=some σ1)(hb:dz cb nb σ1 B=some σ2)(fa:kW nb Z A qa σ1=true)(fb:kW nb σ1 B qb σ2=true)(pk:Dp (A,qa) (B,qb)=true)(hL:(qa.l&&qb.l)=false∨eN A.k=true∨eN B.k=true) :
  ∃ σ1',dz cb nb Z B=some σ1'/\dz cb nb σ1' A=some σ2/\kW nb Z B qb σ1'=true/\kW nb σ1' A qa σ2=true:=by
 simp only [Dp,WaG] at pk;obtain ⟨⟨hs,hroots⟩,hq0⟩:=pk;have hq:eN A.k=true∨eN B.k=true∨((!qa.l)=true/\(!qb.l)=true/\(((((((eN A.k=true∨eN B.k=true)∨(((qa.q=true/\qb.q=true)/\(!qa.s)=true)/\(!qb.s)=true))∨((uk qa.root qb.w=true/\(!qa.s)=true)/\(!qb.s)=true))∨((uk qb.root qa.w=true/\(!qa.s)=true)/\(!qb.s)=true))∨qa.s=true)∨qb.s=true))):=by
  grind
 have hroots:=kV hroots;have rr:∀ t,t∈qa.roots∨t∈qb.roots->t ∉ Wo A/\t ∉ Wo B:=by
  intro t ht;constructor
  ·intro hh;exact hroots t (Wbt.2 (.inl hh)) (Wbt.2 ht)
  ·intro hh;exact hroots t (Wbt.2 (.inr hh)) (Wbt.2 ht)
 have hs0:=hs;simp only [pE,WaG] at hs;have s1:=kV hs.1;have s2:=kV hs.2;have wa:∀ k∈Wo A,k ∉ fC B/\k ∉ Wo B:=λk hk=>by
  grind [Wk,Wo]
 have wb:∀ k∈Wo B,k ∉ fC A/\k ∉ Wo A:=λk hk=>by
  grind [Wk,Wo]
 obtain ⟨_,_,oa⟩:=ge A rfl rfl (λ_ _=>rfl) ha;obtain ⟨_,_,ob⟩:=ge B rfl rfl (λ_ _=>rfl) hb;have rB:∀ t∈fC B,Z.t[t]?=σ1.t[t]?:=λt ht=>(oa.fr t (λhh=>(wa t hh).1 ht)).symm;have main:∃ σ1',dz cb nb Z B=some σ1'/\dz cb nb σ1' A=some σ2/\Side A B (qa.s&&!qa.l) (qb.s&&!qb.l) Z σ1 σ2 σ1':=by
  have fa':=fa;have fb':=fb;have swp:∀ hq,∃ σ1',dz cb nb Z B=some σ1'/\dz cb nb σ1' A=some σ2/\Side A B (qa.s&&!qa.l) (qb.s&&!qb.l) Z σ1 σ2 σ1':=λhq=>by
   obtain ⟨σ1',q1,q2,q3⟩:=zkZ ha hb hs0 hq;exact ⟨σ1',q1,q2,q3 _ _⟩
  have nos:∀ {s:Bool},(!s)=true->s=false:=λ{s} h=>by grind
  rcases hq with h | h | ⟨hla,hlb,hq⟩
  ·exact swp (.inl h)
  ·exact swp (.inr (.inl h))
  have hla:=nos hla;have hlb:=nos hlb;simp only [kW,hla,cond_false] at fa';simp only [kW,hlb,cond_false] at fb';rcases hq with (((((h | h) | h) | h) | h) | h) | h
  ·exact swp (.inl h)
  ·exact swp (.inr (.inl h))
  ·obtain ⟨⟨⟨hqa,hqb⟩,hsa⟩,hsb⟩:=h;have h:qa.q=true/\qb.q=true:=⟨hqa,hqb⟩;simp only [nos hsa,nos hsb,cond_false,WaG,WbA,Wbx] at fa' fb';obtain ⟨⟨fa1,fa2⟩,fa3⟩:=fa';obtain ⟨⟨fb1,fb2⟩,fb3⟩:=fb';refine swp (.inr (.inr ⟨?_,?_⟩))
   ·rcases fa1 with e | e
    ·rw [h.1] at e; cases e
    ·exact e
   ·rcases fb1 with e | e
    ·rw [h.2] at e; cases e
    ·exact e
  ·
   obtain ⟨⟨h,hsa⟩,hsb⟩:=h;simp only [nos hsa,nos hsb,cond_false,WaG,WbA,Wbx] at fa' fb';obtain ⟨⟨fa1,fa2⟩,fa3⟩:=fa';obtain ⟨⟨fb1,fb2⟩,fb3⟩:=fb';cases hr:qa.root with
   | none=>rw [hr] at h; cases h
   | some r=>
    rw [hr] at h fa2;simp only [uk] at h;simp only at fa2;have hrm:r∈qb.w:=WbE.1 h;have hrA:r ∉ Wo A:=(rr r (.inl (by simp [Fl.roots,hr]))).1;have hlA:hI A.k=true:=by
     grind [uE]
    obtain ⟨v,e1,_⟩:=MA (σ':=Z) hlA (λ_ _=>rfl) (λ_ _ _ _ _ _ _ _=>rfl) ha;have hb1:σ1.b=Z.b:=by rw [e1,gz]
    obtain ⟨σ1',f1,f2⟩:=ge B (σ':=Z) oa.len.symm hb1.symm rB hb;have hw:uo nb Z B qb.w=true:=by
     rw [<- Hd (Z:=Z) (σ':=σ1) (.inl hb1) (λt ht=>(rB t ht).symm) qb.w (λt ht=>oa.fr t (rr t (.inr (by simp [Fl.roots,ht]))).1)];exact fb3
    have hblk:=Ud fa2 h f1 hw rfl;obtain ⟨v',e3,e4⟩:=MA (σ':=σ1') hlA (λt ht=>f2.off t (λhh=>(wb t hh).1 ht)) hblk ha;have e:σ1'.put A.dst v'=σ2:=by
     have eb:(σ1'.put A.dst v').b=σ2.b:=by rw [gz,f2.b]
     have et:(σ1'.put A.dst v').t=σ2.t:=by
      apply Wby;intro k;rw [gP,f2.a7];by_cases hA:A.dst=some k/\k<Z.t.length
      ·rw [if_pos hA];have hkA:k∈Wo A:=eP k hA.1;rw [ob.fr k (wa k hkA).2,e3,gP,if_pos hA]
      ·rw [if_neg hA];by_cases hB:k∈Wo B
       ·exact f2.on k hB
       ·rw [f2.off k hB,ob.fr k hB,e3,gP,if_neg hA]
     cases hz:σ1'.put A.dst v'; rw [hz] at eb et; cases σ2; grind
    refine ⟨σ1',f1,by rw [e4,e],oa.fr,f2.off,λd hd=>f2.on d (eP d hd),λd hd=>ob.fr d (wa d (eP d hd)).2,.inl hb1.symm,.inr (.inr (.inl hlA))⟩
  ·
   obtain ⟨⟨h,hsa⟩,hsb⟩:=h;simp only [nos hsa,nos hsb,cond_false,WaG,WbA,Wbx] at fa' fb';obtain ⟨⟨fa1,fa2⟩,fa3⟩:=fa';obtain ⟨⟨fb1,fb2⟩,fb3⟩:=fb';cases hr:qb.root with
   | none=>rw [hr] at h; cases h
   | some r=>
    rw [hr] at h fb2;simp only at fb2;have hlB:hI B.k=true:=by
     grind [uE]
    have hrA:r ∉ Wo A:=(rr r (.inr (by simp [Fl.roots,hr]))).1;have hblk:=Ud fb2 h ha fa3 (oa.fr r hrA).symm;obtain ⟨v,e1,e2⟩:=MA (σ':=Z) hlB (λt ht=>rB t ht) (λagg n a take id off hk hg=>(hblk agg n a take id off hk hg).symm) hb;have hoff:∀ k,k ∉ Wo B->(Z.put B.dst v).t[k]?=Z.t[k]?:=λk hk=>by rw [gP,if_neg (λh=>hk (eP k h.1))]
    have hl:(Z.put B.dst v).t.length=Z.t.length:=xm _ _ _;obtain ⟨σ2',f1,f2⟩:=ge A (σ':=Z.put B.dst v) hl (gz _ _ _) (λt ht=>hoff t (λhh=>(wb t hh).1 ht)) ha;have e:σ2'=σ2:=by
     have eb:σ2'.b=σ2.b:=by rw [f2.b,e1,gz]
     have et:σ2'.t=σ2.t:=by
      apply Wby;intro k;rw [e1,gP,oa.len];by_cases hB:B.dst=some k/\k<Z.t.length
      ·rw [if_pos hB];have hkB:k∈Wo B:=eP k hB.1;rw [f2.off k (wb k hkB).2,gP,if_pos hB]
      ·rw [if_neg hB];by_cases hA:k∈Wo A
       ·exact f2.on k hA
       ·rw [f2.off k hA,oa.fr k hA,gP,if_neg hB]
     cases σ2'; cases σ2; grind
    subst e;refine ⟨_,e2,f1,oa.fr,hoff,λd hd=>?_,λd hd=>f2.on d (eP d hd),.inr (.inr (.inl hlB)),.inl (gz _ _ _)⟩;rw [ze0 e1 hd oa.len]
  ·
   have hsa:qa.s=true:=h;simp only [hsa,cond_true] at fa';obtain ⟨v,e3,e4⟩:=TU ha fa';have hb1:σ1.b=Z.b:=by rw [e3,gz]
   obtain ⟨σ1',f1,f2⟩:=ge B (σ':=Z) oa.len.symm hb1.symm rB hb;have e4:=e4 σ1' (λt ht=>f2.off t (λhh=>(wb t hh).1 ht));have e:σ1'.put A.dst v=σ2:=by
    have eb:(σ1'.put A.dst v).b=σ2.b:=by rw [gz,f2.b]
    have et:(σ1'.put A.dst v).t=σ2.t:=by
     apply Wby;intro k;rw [gP,f2.a7];by_cases hA:A.dst=some k/\k<Z.t.length
     ·rw [if_pos hA];have hkA:k∈Wo A:=eP k hA.1;rw [ob.fr k (wa k hkA).2,e3,gP,if_pos hA]
     ·rw [if_neg hA];by_cases hB:k∈Wo B
      ·exact f2.on k hB
      ·rw [f2.off k hB,ob.fr k hB,e3,gP,if_neg hA]
    cases hz:σ1'.put A.dst v; rw [hz] at eb et; cases σ2; grind
   exact ⟨σ1',f1,by rw [e4,e],oa.fr,f2.off,λd hd=>f2.on d (eP d hd),λd hd=>ob.fr d (wa d (eP d hd)).2,.inl hb1.symm,.inr (.inr (.inr (by rw [hsa,hla]; rfl)))⟩
  ·
   have hsb:qb.s=true:=h;simp only [hsb,cond_true] at fb';obtain ⟨v,e1,e2⟩:=TU hb fb';have e2:=e2 Z rB;have hoff:∀ k,k ∉ Wo B->(Z.put B.dst v).t[k]?=Z.t[k]?:=λk hk=>by rw [gP,if_neg (λh=>hk (eP k h.1))]
   have hl:(Z.put B.dst v).t.length=Z.t.length:=xm _ _ _;obtain ⟨σ2',f1,f2⟩:=ge A (σ':=Z.put B.dst v) hl (gz _ _ _) (λt ht=>hoff t (λhh=>(wb t hh).1 ht)) ha;have e:σ2'=σ2:=by
    have eb:σ2'.b=σ2.b:=by rw [f2.b,e1,gz]
    have et:σ2'.t=σ2.t:=by
     apply Wby;intro k;rw [e1,gP,oa.len];by_cases hB:B.dst=some k/\k<Z.t.length
     ·rw [if_pos hB];have hkB:k∈Wo B:=eP k hB.1;rw [f2.off k (wb k hkB).2,gP,if_pos hB]
     ·rw [if_neg hB];by_cases hA:k∈Wo A
      ·exact f2.on k hA
      ·rw [f2.off k hA,oa.fr k hA,gP,if_neg hB]
    cases σ2'; cases σ2; grind
   subst e;refine ⟨_,e2,f1,oa.fr,hoff,λd hd=>?_,λd hd=>f2.on d (eP d hd),.inr (.inr (.inr (by rw [hsb,hlb]; rfl))),.inl (gz _ _ _)⟩;rw [ze0 e1 hd oa.len]
 obtain ⟨σ1',k1,k2,S⟩:=main;refine ⟨σ1',k1,k2,?_,?_⟩
 ·rw [<- fb];exact xl S.bB rB (λt ht=>(oa.fr t (rr t (.inr ht)).1).symm) S.dB
 ·rw [<- fa];exact xl S.bA (λt ht=>S.fB t (λhh=>(wb t hh).1 ht)) (λt ht=>S.fB t (rr t (.inl ht)).2) S.dA
end
end Go.Proofs.YtipklgbboecciaaGreat
