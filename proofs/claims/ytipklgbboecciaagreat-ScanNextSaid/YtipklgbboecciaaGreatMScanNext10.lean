/- Part 10 of the proof of ScanNext: an abstract machine over plain values, its soundness, and the functions of the program on plain values. -/
import Derived.Test.YtipklgbboecciaaGreatMScanNext9
namespace Go.Proofs.YtipklgbboecciaaGreat
set_option maxRecDepth 100000
set_option linter.unusedVariables false
set_option linter.unusedSimpArgs false
open Bool renaming and_eq_true->WaG,false_eq_true->WaR,not_eq_true'->Wbx,or_eq_true->WbA
open Nat renaming eq_of_beq_eq_true->Wao,le_refl->Wah,beq->Wae,min_eq_left->WcH,zero_le->WaK,zero_add->Wau
open List renaming getElem?_eq_getElem->Wac,all_eq_true->Wbj,mem_append_right->Wbw,mem_append_left->Wbv,mem_cons_of_mem->WcB,mem_cons->WbL,getElem?_append_right->Wal,getElem?_eq_some_iff->Wam,mem_map_of_mem->WcC,drop_eq_getElem_cons->WaM,flatMap_eq_nil_iff->WbH,length_eq_zero_iff->WaT,replicate->Wad,mem_iff_getElem?->Wbh,map_congr_left->WcE,mem_singleton->WcF,append_assoc->WcG,getElem?_append_left->Wan,length_take->Wch,take_append_drop->Wcw,mem_of_mem_take->WaI,getElem?_take->Wai,mem_cons_self->Wcy
open Option renaming map_eq_some_iff->Wag,map_some->Wbl,isSome_none->WcD,bind_some->Wbz,bind_eq_bind->Wab
open Option.some renaming inj->WcI
section
variable {d:Option Nat}{af:Bool}{n:Nat}
section
variable {s s':SS} {W:Nat->Int} {Z:St} {T:Nat->Option CF} {D:Nat} {cb:ACB}
theorem zaX{N:Nat}{a:A}{v:V}(g:G N W a v)(h:zbA a=true):Co v=true/\mD v=[]/\∀ g,oQ g v=v:=by
 have one:GE a=true->(∀ vs,v≠.ah vs)->Co v=true/\mD v=[]/\∀ g,oQ g v=v:=by
  intro h1 h2;obtain ⟨q1,q2,q3⟩:=Pk g h1;have e1:Co v=vE v:=by unfold Co; grind
  have e2:mD v=dL v:=by unfold mD; grind
  have e3:∀ g,oQ g v=jI g v:=λg=>by unfold oQ; grind
  exact ⟨by rw [e1]; exact q1,by rw [e2]; exact q2,λg=>by rw [e3]; exact q3 g⟩
 cases g with
 | ah av vs hl hh=>
  have gl:GL N W av vs:=⟨hl,hh⟩;have all:∀ v∈vs,vE v=true/\dL v=[]/\∀ g,jI g v=v:=λv hv=>by
   obtain ⟨i,hi⟩:=Wbh.1 hv;have hlt:i<av.length:=by grind
   exact Pk (gl.2 i _ v (Wac hlt) hi) (Wbj.1 h _ (List.getElem_mem hlt))
  refine ⟨Wbj.2 λv hv=>(all v hv).1,?_,λg=>?_⟩
  ·show vs.flatMap dL=[];rw [WbH];exact λv hv=>(all v hv).2.1
  ·show V.ah (vs.map (jI g))=V.ah vs;congr 1
   conv=>rhs; rw [<- List.map_id vs]
   exact WcE λv hv=>(all v hv).2.2 g
 | ex v=>
  refine one h (λvs e=>?_);subst e; cases h
 | ak q sz n row es hn hl hr hh=>exact one h (λvs e=>by unfold mkL at e; split at e <;> cases e)
 | ai q sz lo hi row es hl hr hh=>exact one h (λvs e=>by unfold mkL at e; split at e <;> cases e)
 | am q sz rows es hl hr hh=>exact one h (λvs e=>by unfold mkL at e; split at e <;> cases e)
 | any v=>cases h
 | _=>exact one h (λvs e=>by cases e)
def StepA(T:Nat->Option CF)(D:Nat)(s s':SS)(W:Nat->Int)(Z:St)(d:Option Nat)(af:Bool)(k:K):Prop:=∃ ρ' σ',Sat s' ρ' σ'/\Ext s s' W ρ'/\Evt T D (λc=>bZ c 0 Z d af k=some σ')
theorem AJ(S:Sat s W Z):∀ {cs bs:List A} {vs:List V},GL s.iv.length W cs vs->nZ A.plain cs=some bs->∃ ws,vs.mapM V.plain=some ws/\GL s.iv.length W bs ws
 | [],bs,vs,g,h=>by
  cases h;cases vs with
  | nil=>exact ⟨[],rfl,.nil⟩
  | cons _ _=>have:=g.1; simp at this
 | c::cs,bs,vs,g,h=>by
  cases vs with
  | nil=>have:=g.1; simp at this
  | cons v vs=>
   unfold nZ at h;split at h
   ·rename_i b bs' h1 h2;cases h;obtain ⟨w,q1,q2,_⟩:=j3 g.head h1;obtain ⟨ws,r1,r2⟩:=AJ S g.tail h2;exact ⟨w::ws,by simp_all,.cons q2 r2⟩
   ·cases h
theorem zdl(hcb:Oy T D cb)(S:Sat s W Z){f:Nat}{args:List (Src × Nat)}{xs:List Nat}(h:ky cb s d af (.call f args xs)=some s'):StepA T D s s' W Z d af (.call f args xs):=by
 simp [ky] at h;split at h
 ·rename_i av h1;obtain ⟨vs,q1,q2,q3,q4⟩:=OH S h1;split at h
  ·rename_i b r hb hr;split at h
   ·rename_i hc;simp at hc;have gc:∀ N ρ',GL N ρ' (av.map (WG s)) vs:=λN ρ'=>S.upL hc.2 q2;obtain ⟨v,gv,ev⟩:=hcb _ _ _ hr vs gc;have gB:=yW S h1 S.bs hb;have S1:Sat { s with b:=b } W { Z with b:=di Z args Z.b }:=⟨S.bnd,S.fct,S.fbd,S.ts,gB⟩;obtain ⟨p1,p2,p3⟩:=zaX (gv 0 W) hc.1;obtain ⟨σ',r1,r2,r3⟩:=Wm S1 (gv _ W) h;refine ⟨W,σ',r2,.same (by rw [r3]),ev.imp λc hcv=>?_⟩;have hrefs:vs.flatMap dL=[]:=WbH.2 λv hv=>(q3 v hv).1;have hids:fW (di Z args Z.b) vs=[]:=by unfold fW; rw [hrefs]; rfl
    have hren:∀ g,vs.map (jI g)=vs:=λg=>by
     conv=>rhs; rw [<- List.map_id vs]
     exact WcE λv hv=>(q3 v hv).2 g
    simp only [bZ,q1,Wab,Wbz,kY];rw [hids];simp only [lZ,Wbz,hren,hcv,List.length_nil,List.nil_append,List.map_nil,List.take_zero,Nat.sub_self];rw [if_pos ⟨trivial,trivial,Wbj.2 λv hv=>by rw [(q3 v hv).1]; rfl,p1,by rw [p2]; rfl,rfl,rfl,rfl,rfl⟩];simp only [gA,p3];exact r1
   ·cases h
  ·cases h
 ·cases h
theorem StepA.of{σ':St}(S':Sat s' W σ')(hl:s'.iv.length=s.iv.length){k:K}(h:∀ c,bZ c 0 Z d af k=some σ'):StepA T D s s' W Z d af k:=⟨W,σ',S',.same hl,Evt.all h⟩
theorem Sat.nameC(S:Sat s W Z)(id o:Nat):∃ ρ',Sat (s.nameC id o) ρ' Z/\Ext s (s.nameC id o) W ρ'/\(s.nameC id o).t=s.t:=by
 have retell:∀ {s1:SS} {ρ1:Nat->Int} {p:Bool} {cs:List A} {a:A},Sat s1 ρ1 Z->s1.b[id]?=some (.live p cs)->(∀ vs v,Z.b[id]?=some (.live p vs)->vs[o]?=some v->G s1.iv.length ρ1 a v)->Sat { s1 with b:=s1.b.set id (.live p (cs.set o a)) } ρ1 Z:=by
  intro s1 ρ1 p cs a S1 hb h;refine ⟨S1.bnd,S1.fct,S1.fbd,S1.ts,⟨by simp [S1.bs.1],λi x y hx hy=>?_⟩⟩;have hx:(s1.b.set id (.live p (cs.set o a)))[i]?=some x:=hx;by_cases e:id=i
  ·subst e;have hlt:id<s1.b.length:=(Wam.1 hb).1;rw [List.getElem?_set_self hlt] at hx
   ·cases hx;obtain ⟨vs,hvs,gv⟩:=nK S1 hb;rw [hvs] at hy;cases hy;refine .live p _ _ ⟨by simp [gv.1],λj c v hc hv=>?_⟩;rw [List.getElem?_set] at hc;split at hc
    ·rename_i e;subst e;split at hc
     ·cases hc; exact h vs v hvs hv
     ·cases hc
    ·exact gv.2 j c v hc hv
  ·rw [List.getElem?_set_ne e] at hx;exact S1.bs.2 i x y hx hy
 unfold SS.nameC;split
 ·rename_i p cs hb;obtain ⟨vs,hvs,gv⟩:=nK S hb;split
  ·rename_i k lo hi hc;split
   ·obtain ⟨v,hv,g⟩:=gv.get hc;cases g;rename_i n hn;obtain ⟨S1,E⟩:=S.sym hn;have hb1:(Lin.sy s.iv.length).bd (s.sym lo hi).iv.length:=Aw (by simp [SS.sym]);have he:(Lin.sy s.iv.length).ev (ji W s.iv.length n)=n:=by rw [sB,mB]
    refine ⟨ji W s.iv.length n,retell S1 hb (λvs' v' h1 h2=>?_),⟨E.le,E.eq⟩,rfl⟩;rw [hvs] at h1; cases h1;rw [hv] at h2; cases h2;have:=G.int (W:=ji W s.iv.length n) k _ hb1
    rwa [he] at this
   ·exact ⟨W,S,.refl,rfl⟩
  ·rename_i q sz lo hi row hc;split
   ·obtain ⟨v,hv,g⟩:=gv.get hc;cases g;rename_i es hl hr hh;obtain ⟨S1,E⟩:=S.sym hl;have hb1:(Lin.sy s.iv.length).bd (s.sym lo hi).iv.length:=Aw (by simp [SS.sym]);have he:(Lin.sy s.iv.length).ev (ji W s.iv.length es.length)=es.length:=by rw [sB,mB]
    refine ⟨ji W s.iv.length es.length,retell S1 hb (λvs' v' h1 h2=>?_),⟨E.le,E.eq⟩,rfl⟩;rw [hvs] at h1; cases h1;rw [hv] at h2; cases h2;exact .ak _ _ _ _ es hb1 he.symm hr (λr hr' i a v h1 h2=>E.g (hh r hr' i a v h1 h2))
   ·exact ⟨W,S,.refl,rfl⟩
  ·exact ⟨W,S,.refl,rfl⟩
 ·exact ⟨W,S,.refl,rfl⟩
theorem zdR(S:Sat s W Z){cs:List A}{vs:List V}(g:GL s.iv.length W cs vs){off:Lin}{o:Nat}(ho:off.ev W=o){lo hi:Int}(h1:off.lb s.iv=some lo)(h2:off.ub s.iv=some hi)(c1:nn lo=true)(c2:leI (hi+1) cs.length=true){j:A}
  (hu:jJ (λc=>s.up c j) ((cs.drop lo.toNat).take (hi.toNat+1-lo.toNat))=true):∃ v,vs[o]?=some v/\G s.iv.length W j v:=by
 have h1:=Ih S.bnd h1; have h2:=sC S.bnd h2;have c1:=Ao c1; have c2:=gT c2;have hlt:o<cs.length:=by omega
 have hlt':o<vs.length:=by rw [<- g.1]; exact hlt
 refine ⟨vs[o],Wac hlt',?_⟩;have hmem:cs[o]∈(cs.drop lo.toNat).take (hi.toNat+1-lo.toNat):=by
  refine List.mem_of_getElem? (i:=o-lo.toNat) ?_
  grind
 exact S.up (jY hu _ hmem) (g.2 o _ _ (Wac hlt) (Wac hlt'))
theorem zcS(S:Sat s W Z){agg:Bool}{a:Src}{take:Bool}(h:ky cb s d af (.load agg n a take)=some s'):StepA T D s s' W Z d af (.load agg n a take):=by
 simp [ky] at h;have hs1:∃ ρ1,Sat (s.nameL agg (s.src a)) ρ1 Z/\Ext s (s.nameL agg (s.src a)) W ρ1:=by
  unfold SS.nameL;split
  ·exact ⟨W,S,.refl⟩
  ·split
   ·split
    ·obtain ⟨ρ1,q1,q2,q3⟩:=S.nameC _ _;exact ⟨ρ1,q1,q2⟩
    ·exact ⟨W,S,.refl⟩
   ·exact ⟨W,S,.refl⟩
 obtain ⟨ρ1,S1,E1⟩:=hs1;generalize s.nameL agg (s.src a)=s1 at h S1 E1;have fin:∀ {a':A} {v:V},some (s1.put d a')=some s'->G s1.iv.length ρ1 a' v->(∀ c,bZ c 0 Z d af (.load agg n a take)=some (Z.put d v))->StepA T D s s' W Z d af (.load agg n a take):=by
  intro a' v q1 q2 q3;cases q1;exact ⟨ρ1,_,S1.put d q2,E1.trans (.same (by rw [mT])),Evt.all q3⟩
 split at h
 ·rename_i id off hx;have g:=ij S1 hx;generalize hv:a.get Z=v at g;cases g with
  | ptr _ _ o ho hho=>
   split at h
   ·rename_i p cs hb;obtain ⟨vs,hvs,gv⟩:=nK S1 hb;split at h
    ·split at h
     ·rename_i o' ho';have ho':=lit?_ok (W:=ρ1) ho';split at h
      ·rename_i hc;simp only [WaG] at hc;have hc2:=j2 hc.2;have e:o'.toNat=o:=by omega
       rw [e] at h hc2;have gp:=(gv.drop o).take n;rw [gv.1] at hc2;split at h
       ·exact fin h (.agg _ _ gp.1 gp.2) (λc=>by grind [bZ])
       ·split at h
        ·cases h
        ·simp only [Wag] at h;obtain ⟨bs,hbs,h⟩:=h;obtain ⟨ws,w1,w2⟩:=AJ S1 gp hbs;exact fin (congrArg some h) (.agg _ _ w2.1 w2.2) (λc=>by grind [bZ])
      ·cases h
     ·cases h
    ·split at h
     ·rename_i o' ho';have ho':=lit?_ok (W:=ρ1) ho';split at h
      ·rename_i v0 hn hcell;have hn:=Ao hn;have e:o'.toNat=o:=by omega
       rw [e] at h hcell;obtain ⟨w,hw,gw⟩:=gv.get hcell;split at h
       ·split at h
        ·cases h
        ·cases h;have S2:Sat (s1.ab id (.live false (cs.set o v0.ag))) ρ1 (Z.ab id (.live false (vs.set o w.ag))):=S1.ab id (.live false _ _ (gv.set o gw.ag));exact ⟨ρ1,_,S2.put d (G.tk gw),E1.trans (.same (by rw [mT]; rfl)),Evt.all λc=>by grind [bZ]⟩
       ·rename_i htk;exact fin h gw.ag (λc=>by grind [bZ])
      ·cases h
     ·split at h
      ·rename_i lo hi h1 h2;split at h
       ·rename_i hc;simp only [WaG,Wbx] at hc;split at h
        ·rename_i hu;obtain ⟨w,hw,gw⟩:=zdR S1 gv hho h1 h2 hc.1 hc.2.1 hu;exact fin h gw.ag (λc=>by grind [bZ])
        ·cases h
       ·cases h
      ·cases h
   ·rename_i cs hb;obtain ⟨vs,hvs,gv⟩:=Wi S1 hb;split at h
    ·rename_i o' ho';have ho':=lit?_ok (W:=ρ1) ho';split at h
     ·split at h
      ·rename_i hc;simp only [WaG] at hc;have hc2:=j2 hc.2;have e:o'.toNat=o:=by omega
       rw [e] at h hc2;have gp:=(gv.drop o).take n;rw [gv.1] at hc2;exact fin h (.agg _ _ gp.1 gp.2) (λc=>by grind [bZ])
      ·cases h
     ·split at h
      ·rename_i v0 hn hcell;have hn:=Ao hn;have e:o'.toNat=o:=by omega
       rw [e] at hcell;obtain ⟨w,hw,gw⟩:=gv.get hcell;exact fin h gw (λc=>by grind [bZ])
      ·cases h
    ·split at h
     ·rename_i lo hi h1 h2;split at h
      ·rename_i hc;simp only [WaG] at hc;split at h
       ·rename_i hu;obtain ⟨w,hw,gw⟩:=zdR S1 gv hho h1 h2 hc.1 hc.2 hu;exact fin h gw (λc=>by grind [bZ])
       ·cases h
      ·cases h
     ·cases h
   ·cases h
 ·rename_i cs hx;have g:=ij S1 hx;generalize hv:a.get Z=v at g;cases g with
  | fp _ m vs hn hl hh=>
   split at h
   ·split at h
    ·rename_i hc;have hc:=j2 hc;refine fin h (v:=.agg (vs.take n)) (.agg _ _ (by simp; omega) (λi a v h1 h2=>?_)) (λc=>by grind [bZ]);rw [Wai] at h1 h2;split at h1
     ·rename_i hi; rw [if_pos hi] at h2; exact hh i a v h1 h2
     ·cases h1
    ·cases h
   ·split at h
    ·rename_i c0 cs0;cases vs with
     | nil=>simp at hl
     | cons v vs=>exact fin h (hh 0 _ _ rfl rfl) (λc=>by simp [bZ,hv])
    ·cases h
 ·cases h
theorem zaU(S:Sat s W Z){a x:Src}(h:ky cb s d af (.store n a x)=some s'):StepA T D s s' W Z d af (.store n a x):=by
 simp [ky] at h;split at h
 ·cases h
 split at h
 ·rename_i id off hx;have g:=ij S hx;generalize hv:a.get Z=v at g;cases g with
  | ptr _ _ o ho hho=>
   split at h
   ·rename_i cs hb;obtain ⟨vs,hvs,gv⟩:=nK S hb;split at h
    ·rename_i b hb2;obtain ⟨u,q1,q2,q3⟩:=j3 (S.src x) hb2;split at h
     ·rename_i hn;have hn:=Wao hn;simp only [Wag] at h;obtain ⟨cs',hcs,h⟩:=h;obtain ⟨w1,w2⟩:=zaM S gv q3 hho hcs;cases h;refine StepA.of (s:=s) (S.ab id (.live true _ _ w1)) rfl (λc=>?_);simp only [bZ,WcD,WaR,if_false,hv,hvs,q1,Wab,Wbz];rw [if_pos ⟨by rw [<- q3.1]; exact hn,by rw [<- hn,q3.1]; exact w2⟩]
     ·cases h
    ·cases h
   ·rename_i cs hb;obtain ⟨vs,hvs,gv⟩:=nK S hb;split at h
    ·rename_i o' ho';have ho':=lit?_ok (W:=W) ho';split at h
     ·rename_i hn0;have hn0:=Ao hn0;have e:o'.toNat=o:=by omega
      rw [e] at h;have one:∀ {b:A} {w:V},x.get Z=w->G s.iv.length W b w->(match Wae n 1&&Nat.blt o cs.length with | true=>some ((s.ac x).ab id (.live false (cs.set o b))) | false=>none)=some s'->(∀ us,w≠.agg us)->(∀ us,w≠.st us)->(∀ us,w≠.ah us)->(∀ p us,w≠.bx p us)->w≠.ae->StepA T D s s' W Z none af (.store n a x):=by
       intro b w hw gw h9 n1 n2 n3 n4 n5;split at h9
       ·rename_i hc;simp only [WaG] at hc;have c1:=Wao hc.1; have c2:=Dz hc.2;cases h9;obtain ⟨S1,l1,l2⟩:=HJ S x;refine StepA.of (s:=s) (σ':=(Z.ac x).ab id (.live false (vs.set o w))) (S1.ab id (.live false _ _ ?_)) (by show (s.ac x).iv.length=_; rw [l1]) (λc=>?_)
        ·rw [l1]; exact gv.set o gw
        ·simp only [bZ,WcD,WaR,if_false,hv,hvs,hw];cases w with
         | agg us=>exact absurd rfl (n1 _)
         | st us=>exact absurd rfl (n2 _)
         | ah us=>exact absurd rfl (n3 _)
         | bx p us=>exact absurd rfl (n4 _ _)
         | ae=>exact absurd rfl n5
         | _=>rw [if_pos ⟨c1,by rw [<- gv.1]; exact c2⟩]
       ·cases h9
      have gx:=S.src x;generalize hsx:s.src x=b at h gx;generalize hw:x.get Z=w at gx;cases gx with
      | agg us ws hl hh=>
       simp only at h;split at h
       ·rename_i hc;simp only [WaG] at hc;have c1:=Wao hc.1; have c2:=j2 hc.2;cases h;refine StepA.of (s:=s) (σ':=Z.ab id (.live false (cD vs o ws))) (S.ab id (.live false _ _ (qe gv ⟨hl,hh⟩ o))) rfl (λc=>?_);simp only [bZ,WcD,WaR,if_false,hv,hvs,hw];rw [if_pos ⟨by omega,by rw [<- gv.1]; exact c2⟩]
       ·cases h
      | st us ws hl hh=>
       simp only at h;split at h
       ·rename_i hc;simp only [WaG] at hc;have c1:=Wao hc.1; have c2:=j2 hc.2;cases h;refine StepA.of (s:=s) (σ':=Z.ab id (.live false (cD vs o ws))) (S.ab id (.live false _ _ (qe gv ⟨hl,hh⟩ o))) rfl (λc=>?_);simp only [bZ,WcD,WaR,if_false,hv,hvs,hw];rw [if_pos ⟨by omega,by rw [<- gv.1]; exact c2⟩]
       ·cases h
      | ah us ws hl hh=>cases h
      | bx p us ws hl hh=>cases h
      | any w=>cases h
      | ex w=>
       simp only at h;split at h
       ·exact one hw (.ex _) h (λ_ e=>by cases e) (λ_ e=>by cases e) (λ_ e=>by cases e) (λ_ _ e=>by cases e) (λe=>by cases e)
       ·cases h
      | ak q sz m row es hn hl hr hh=>exact one hw (.ak q sz m row es hn hl hr hh) h (λ_ e=>by unfold mkL at e; split at e <;> cases e) (λ_ e=>by unfold mkL at e; split at e <;> cases e) (λ_ e=>by unfold mkL at e; split at e <;> cases e) (λ_ _ e=>by unfold mkL at e; split at e <;> cases e) (λe=>by unfold mkL at e; split at e <;> cases e)
      | ai q sz lo hi row es hl hr hh=>exact one hw (.ai q sz lo hi row es hl hr hh) h (λ_ e=>by unfold mkL at e; split at e <;> cases e) (λ_ e=>by unfold mkL at e; split at e <;> cases e) (λ_ e=>by unfold mkL at e; split at e <;> cases e) (λ_ _ e=>by unfold mkL at e; split at e <;> cases e) (λe=>by unfold mkL at e; split at e <;> cases e)
      | am q sz rows es hl hr hh=>exact one hw (.am q sz rows es hl hr hh) h (λ_ e=>by unfold mkL at e; split at e <;> cases e) (λ_ e=>by unfold mkL at e; split at e <;> cases e) (λ_ e=>by unfold mkL at e; split at e <;> cases e) (λ_ _ e=>by unfold mkL at e; split at e <;> cases e) (λe=>by unfold mkL at e; split at e <;> cases e)
      | int k e hb=>exact one hw (.int k e hb) h (λ_ e=>by cases e) (λ_ e=>by cases e) (λ_ e=>by cases e) (λ_ _ e=>by cases e) (λe=>by cases e)
      | iv k lo hi m hb=>exact one hw (.iv k lo hi m hb) h (λ_ e=>by cases e) (λ_ e=>by cases e) (λ_ e=>by cases e) (λ_ _ e=>by cases e) (λe=>by cases e)
      | cmp c hb=>exact one hw (.cmp c hb) h (λ_ e=>by cases e) (λ_ e=>by cases e) (λ_ e=>by cases e) (λ_ _ e=>by cases e) (λe=>by cases e)
      | bool b=>exact one hw (.bool b) h (λ_ e=>by cases e) (λ_ e=>by cases e) (λ_ e=>by cases e) (λ_ _ e=>by cases e) (λe=>by cases e)
      | str b=>exact one hw (.str b) h (λ_ e=>by cases e) (λ_ e=>by cases e) (λ_ e=>by cases e) (λ_ _ e=>by cases e) (λe=>by cases e)
      | fp us m ws hn hl hh=>exact one hw (.fp us m ws hn hl hh) h (λ_ e=>by cases e) (λ_ e=>by cases e) (λ_ e=>by cases e) (λ_ _ e=>by cases e) (λe=>by cases e)
      | ptr i2 o2 f2 h2 h3=>exact one hw (.ptr i2 o2 f2 h2 h3) h (λ_ e=>by cases e) (λ_ e=>by cases e) (λ_ e=>by cases e) (λ_ _ e=>by cases e) (λe=>by cases e)
      | own i2 o2 m2 f2 l2 z2 h2 h3 h4 h5=>exact one hw (.own i2 o2 m2 f2 l2 z2 h2 h3 h4 h5) h (λ_ e=>by cases e) (λ_ e=>by cases e) (λ_ e=>by cases e) (λ_ _ e=>by cases e) (λe=>by cases e)
     ·cases h
    ·cases h
   ·cases h
 ·cases h
end
end
section
variable {N bytes sz:Nat}{d:Option Nat}{af:Bool}{zero:List V}{x:Src}{a:A}{v:V}
section
variable {s s':SS} {W:Nat->Int} {Z:St} {T:Nat->Option CF} {D:Nat} {cb:ACB}
theorem Sa{cs:List A}{vs:List V}(g:GL N W cs vs)(n:Nat):All2 (GL N W) (Wad n cs) (Wad n vs):=All2.rep g n
theorem V4(S:Sat s W Z){n:Lin}{m:Nat}(hm:n.ev W=m)(h:U1 s bytes n=true):m*bytes<=cy/\m<=cy:=by
 unfold U1 at h;split at h
 ·rename_i u hu;have hu:=sC S.bnd hu;simp at h;have h1:=gT h.1; have h2:=gT h.2;have:(m:Int)*(bytes:Int)<=u*(bytes:Int):=Int.mul_le_mul_of_nonneg_right (by omega) (Int.natCast_nonneg _);constructor
  ·have:((m*bytes:Nat):Int)<=(cy:Int):=by push_cast; omega
   omega
  ·omega
 ·cases h
theorem UH(S:Sat s W Z){l c:Src}(h:ky cb s d af (.makeSlice sz bytes zero l c)=some s'):StepA T D s s' W Z d af (.makeSlice sz bytes zero l c):=by
 simp [ky] at h;split at h
 ·rename_i s1 k1 el h1;obtain ⟨ρ1,S1,E1,g1,b1⟩:=S.int h1;split at h
  ·rename_i s2 k2 ec h2;obtain ⟨ρ2,S2,E2,g2,b2⟩:=S1.int h2;have el1:el.ev ρ2=el.ev ρ1:=E2.ev b1;have b1':=E2.bd b1;split at h
   ·rename_i hc;simp only [WaG,SS.btw] at hc;have c1:=S2.le hc.1.1; have c2:=S2.le hc.1.2;rw [f5] at c1 c2; rw [gG] at c1;have hcn:ec.ev ρ2=((ec.ev ρ2).toNat:Nat):=by omega
    obtain ⟨q1,q2⟩:=V4 S2 hcn hc.2;have gi:(l.get Z).int?=some (el.ev ρ2):=by rw [g1,el1]; rfl
    have gj:(c.get Z).int?=some (ec.ev ρ2):=by rw [g2]; rfl
    have cond:0<=el.ev ρ2/\el.ev ρ2<=ec.ev ρ2/\(ec.ev ρ2).toNat*bytes<=cy/\ec.ev ρ2<=cy:=⟨by omega,by omega,q1,by omega⟩;split at h
    ·split at h
     ·rename_i ln cn e1 e2;have e1:=lit?_ok (W:=ρ2) e1; have e2:=lit?_ok (W:=ρ2) e2;obtain ⟨σ',r1,r2,r3⟩:=zQ S2 (X:=.live true (Wad (ec.ev ρ2).toNat zero).flatten) (f:=λid=>.own id 0 (el.ev ρ2).toNat sz) (.live true _ _ (by grind [qg,Ha,Sa])) (λid=>.own _ _ _ _ _ _ (lm _) (lm _) (by rw [gG]; rfl) (by rw [gG,<- e1]; omega)) h;refine ⟨ρ2,σ',r2,(E1.trans E2).trans (.same (by rw [r3])),Evt.all λcc=>?_⟩;simp only [bZ,gi,gj];rw [if_pos cond]; exact r1
     ·cases h
    ·have fin:∀ {a':A},some (s2.put d a')=some s'->G s2.iv.length ρ2 a' (.gs sz (Wad (el.ev ρ2).toNat zero))->StepA T D s s' W Z d false (.makeSlice sz bytes zero l c):=by
      intro a' e g;cases e;refine ⟨ρ2,_,S2.put d g,(E1.trans E2).trans (.same (by rw [mT])),Evt.all λcc=>?_⟩
      grind [St.ao,bZ]
     split at h
     ·rename_i ln e1;have e1:=lit?_ok (W:=ρ2) e1;rw [<- e1] at h;exact fin h (pV (q:=1) (Sa (qg zero) _))
     ·refine fin h (JH (q:=1) b1' (by grind) (λr hr=>?_));rw [List.eq_of_mem_replicate hr]; exact qg zero
   ·cases h
  ·cases h
 ·cases h
theorem RM(S:Sat s W Z){n:Nat}{ps:List (Nat × Nat × Src)}(h:ky cb s d af (.buildSlice sz n zero ps)=some s'):StepA T D s s' W Z d af (.buildSlice sz n zero ps):=by
 simp [ky] at h;split at h
 ·rename_i cs hcs;obtain ⟨vs,h1,h2⟩:=S.fill (Ha (Sa (qg zero) n)) hcs;split at h
  ·rename_i hc;simp only [WaG] at hc;have hn:=Wao hc.1;cases h;refine ⟨W,_,S.put d (pV (q:=2) (sz:=sz) .nil),.same (by rw [mT]),Evt.all λc=>?_⟩;simp [bZ,h1];rw [if_pos ⟨hn,hc.2⟩]; rfl
  ·rename_i hc;obtain ⟨σ',r1,r2,r3⟩:=Dr S (q:=2) (pV (q:=2) (ua h2)) h;refine ⟨W,σ',r2,.same (by rw [r3]),Evt.all λc=>?_⟩;simp [bZ,h1]
   simp_all
 ·cases h
theorem Z2(S:Sat s W Z){y:Src}(h:ky cb s d af (.append sz bytes x y)=some s'):StepA T D s s' W Z d af (.append sz bytes x y):=by
 simp [ky] at h;split at h
 ·rename_i s0 a h0;obtain ⟨ρ0,S0,E0,g0⟩:=S.ak h0;split at h
  ·rename_i s1 b0 h1;obtain ⟨ρ1,S1,E1,g1⟩:=S0.ak h1;have ga:=E1.g g0;split at h
   ·rename_i b hb;obtain ⟨u,hu,gb⟩:=C8 S1 g1 hb;split at h
    ·rename_i n q sz1 _ _ m q2 sz2 _ _ l1 l2 l3 l4;obtain ⟨es,hes,ia⟩:=oN S1.bnd l2 ga;obtain ⟨es2,hes2,ib⟩:=oN S1.bnd l4 gb;obtain ⟨n1,n2⟩:=ia.len _ l1;obtain ⟨m1,m2⟩:=ib.len _ l3;split at h
     ·rename_i hc;simp only [WaG] at hc;obtain ⟨c1,c2,c3,c4⟩:=hc;have c1:=Wao c1; have c2:=Wao c2;subst c1; subst c2;rw [HO c3] at hes2;subst hes2;have hcap:=V4 S1 (m:=es.length+es2.length) (by rw [yP]; omega) c4;split at h
      ·rename_i r hr;have gr:G s1.iv.length ρ1 r (mkL 1 sz2 (es++es2))∨(es=[]/\G s1.iv.length ρ1 r (mkL 0 sz2 es2)):=by
        split at hr
        ·rename_i e1 e2;cases hr;refine .inr ⟨?_,gb⟩;have:=n1;cases l1;rw [gG] at this;exact WaT.1 (by simpa using this)
        ·rename_i rs rs' _ _ _;cases hr;have ga':=ga;rw [hes] at ga';have r1:=zE ga' rfl;have r2:=zE (q:=0) (sz:=sz2) (es:=es2) gb rfl
         grind [All2.append,pV]
        ·split at hr
         ·rename_i hq;cases hr;refine .inl (JH (q:=1) (Hh n2 m2) (by grind [yP]) (λr hr=>?_));rcases List.mem_append.1 hr with hr | hr
          ·obtain ⟨row,w1,w2⟩:=ia.rows r hr;exact S1.upL (jY hq _ (Wbv _ w1)) w2
          ·obtain ⟨row,w1,w2⟩:=ib.rows r hr;exact S1.upL (jY hq _ (Wbw _ w1)) w2
         ·cases hr
       obtain ⟨S2,k1,k2⟩:=HJ S1 x;have put:∀ {s':SS} {af:Bool},(s1.ac x).ao d af sz2 r=some s'->∃ σ',(Z.ac x).ao 0 d af sz2 (es++es2)=some σ'/\Sat s' ρ1 σ'/\s'.iv=s1.iv:=by
        grind [Dr]
       split at h
       ·split at h
        ·obtain ⟨σ',w1,w2,w3⟩:=put h;refine ⟨ρ1,σ',w2,(E0.trans E1).trans (.same (by rw [w3])),Evt.all λc=>?_⟩;have e1:x.get Z=.gs sz2 es:=hes;simp only [bZ,e1,hu];rw [if_pos (by grind)];simp only [WaR,if_false];simp only [St.ao,WaR,if_false] at w1;exact w1
        ·cases h
       ·split at h
        ·rename_i _ _;obtain ⟨σ',w1,w2,w3⟩:=put h;have he0:es=[]:=by
          have:=n1;cases l1;rw [gG] at this;exact WaT.1 (by simpa using this)
         subst he0;refine ⟨ρ1,σ',w2,(E0.trans E1).trans (.same (by rw [w3])),Evt.all λc=>?_⟩;have e1:x.get Z=.fr sz2 []:=hes;simp only [bZ,e1,hu];rw [if_pos (by grind)];simpa using w1
        ·cases h
       ·cases h
      ·cases h
     ·cases h
    ·cases h
   ·cases h
  ·cases h
 ·cases h
theorem zb1(g:G N W a v)(h:XR a=true):Hb v=true:=by
 cases g with
 | ah=>cases h
 | any=>cases h
 | ex v=>exact h
 | ak q sz n row es hn hl hr hh=>unfold mkL; split <;> rfl
 | ai q sz lo hi row es hl hr hh=>unfold mkL; split <;> rfl
 | am q sz rows es hl hr hh=>unfold mkL; split <;> rfl
 | _=>rfl
theorem zeh(g:G N W a v)(h:zdd a=false):v.bg=a.held:=by
 have m:∀ {q sz:Nat} {es:Ls},(mkL q sz es).bg=Nat.ble 1 q:=by
  intro q sz es;cases q with
  | zero=>rfl
  | succ q=>cases q with
   | zero=>rfl
   | succ q=>exact (Nat.ble_eq_true_of_le (show 1<=q+1+1 by omega)).symm
 cases g with
 | ex v=>cases h
 | any v=>cases h
 | ak q sz n row es hn hl hr hh=>exact m
 | ai q sz lo hi row es hl hr hh=>exact m
 | am q sz rows es hl hr hh=>exact m
 | _=>rfl
theorem Xx(S:Sat s W Z){i:Nat}(h:ky cb s d af (.extract x i)=some s'):StepA T D s s' W Z d af (.extract x i):=by
 simp [ky] at h;split at h
 ·cases h
 rename_i t;split at h
 ·rename_i av ht;obtain ⟨v,hv,g⟩:=S.ts.get ht;cases g with
  | ah _ vs hl hh=>
   have gl:GL s.iv.length W av vs:=⟨hl,hh⟩;split at h
   ·rename_i a ha;obtain ⟨w,hw,gw⟩:=gl.get ha;split at h
    ·cases h
    ·rename_i hdt;have hd:d≠some t:=by
      rintro rfl
      simp_all
     split at h
     ·rename_i hc;simp only [WaG,Wbx] at hc;have hall:vs.all Hb=true:=Wbj.2 λv hv=>by
       obtain ⟨j,hj⟩:=Wbh.1 hv
       grind [zb1]
      have hheld:=zeh gw hc.2;have hg:(Src.tmp t).get Z=.ah vs:=by grind [Src.get]
      split at h
      ·rename_i hb;rw [hb] at hheld;have gj:=gl.set i (a:=.ex .ae) (b:=.ae) (.ex _);have S1:Sat { s with t:=s.t.set t (.ah (av.set i (.ex .ae))) } W { Z with t:=Z.t.set t (.ah (vs.set i .ae)) }:=⟨S.bnd,S.fct,S.fbd,S.ts.set t (.ah _ _ gj.1 gj.2),S.bs⟩;obtain ⟨σ',r1,r2,r3⟩:=Wm S1 gw h;refine ⟨W,σ',r2,.same (by rw [r3]),Evt.all λc=>?_⟩;simp only [bZ,hg,hw];rw [if_pos ⟨hall,hd⟩,hheld,if_pos rfl]; exact r1
      ·rename_i hb;rw [hb] at hheld;split at h
       ·cases h
       ·cases h;refine ⟨W,_,S.put d gw.ag,.same (by rw [mT]),Evt.all λc=>?_⟩;simp only [bZ,hg,hw];rw [if_pos ⟨hall,hd⟩,hheld];simp
     ·cases h
   ·cases h
 ·cases h
theorem zdC(es:Ls)(n:Nat):es.take (min es.length n)=es.take n:=by
 grind
theorem zdV:∀ {es:Ls},(∀ r∈es,r.length=1)->es.flatten.length=es.length/\∀ (i:Nat) (v:V),es.flatten[i]?=some v->∃ r∈es,r=[v]
 | [],_=>⟨rfl,λi v h=>by simp at h⟩
 | r::es,h=>by
  obtain ⟨q1,q2⟩:=zdV (es:=es) (λr hr=>h r (by simp [hr]));have hr:=h r (by simp);cases r with
  | nil=>simp at hr
  | cons x r=>cases r with
   | cons _ _=>simp at hr
   | nil=>
    refine ⟨by simp [q1],λi v hi=>?_⟩;cases i with
    | zero=>simp at hi; subst hi; exact ⟨[x],by simp,rfl⟩
    | succ i=>
     obtain ⟨r,h1,h2⟩:=q2 i v (by simpa using hi);exact ⟨r,by simp [h1],h2⟩
theorem zc9(S:Sat s W Z){y:Src}(h:ky cb s d af (.copy sz x y)=some s'):StepA T D s s' W Z d af (.copy sz x y):=by
 simp only [ky] at h;split at h
 ·rename_i id off len sz1 b hx hb;have g:=ij S hx;generalize hv:x.get Z=v at g;cases g with
  | own _ _ _ o n _ ho hn ho' hn'=>
   obtain ⟨u,hu,gu⟩:=C8 S (S.src y) hb;split at h
   ·rename_i o' n' cs q sz2 lo hi e1 e2 hcs hl;obtain ⟨vs,hvs,gv⟩:=nK S hcs;obtain ⟨es,hes,ib⟩:=oN S.bnd hl gu;have e1:=lit?_ok (W:=W) e1; have e2:=lit?_ok (W:=W) e2;have f1:o'.toNat=o:=by omega
    have f2:n'.toNat=n:=by omega
    split at h
    ·rename_i hc;simp only [WaG] at hc;obtain ⟨c1,c2,c3,c4,c5,c6⟩:=hc;have c1:=Wao c1; have c2:=Wao c2;have c6:=j2 c6;subst c1; subst c2;rw [HO c3] at hes;subst hes;rw [f1,f2] at c6;have fin:∀ {cs':List A} {r:A},some ((s.ab id (.live true cs')).put d r)=some s'->GL s.iv.length W cs' (cD vs o (es.take (min es.length n)).flatten)->G s.iv.length W r (.sc (.int .i64 ((min es.length n:Nat):Int)))->StepA T D s s' W Z d af (.copy sz2 x y):=by
      intro cs' r e g1 g2;cases e;have S1:=S.ab id (.live true _ _ g1);refine ⟨W,_,S1.put d g2,.same (by rw [mT]; rfl),Evt.all λc=>?_⟩
      grind [bZ]
     split at h
     ·rename_i q' z' rs;rw [f1,f2] at h;have gr:=zE (q:=0) (sz:=sz2) (es:=es) gu rfl;refine fin h ?_ ?_
      ·rw [zdC]; exact qe gv (Ha (gr.take n)) o
      ·have hm:kT n' rs.length=((min es.length n:Nat):Int):=by
        have:=Ah n' (rs.length:Int);have:=gr.1;omega
       rw [hm];have:=G.int (N:=s.iv.length) (W:=W) .i64 (.lit ((min es.length n:Nat):Int)) (lm _)
       rwa [gG] at this
     ·split at h
      ·rename_i c0 hz hrows;have hz:=Wao hz;subst hz;rw [f1,f2] at h;split at h
       ·rename_i hq;simp only [WaG] at hq;generalize hseg:(cs.drop o).take n=seg at h hq;generalize hseg2:seg.map (λx=>n7 12 s.iv x s.iv c0)=seg2 at h hq;refine fin h ?_ (.iv _ _ _ _ ⟨Int.natCast_nonneg _,by grind⟩);have hl2:seg2.length=seg.length:=by rw [<- hseg2]; simp
        have hl1:seg.length=n:=by rw [<- hseg]; simp; omega
        have gs:GL s.iv.length W seg ((vs.drop o).take n):=by rw [<- hseg]; exact (gv.drop _).take _
        have gs2:GL s.iv.length W seg2 ((vs.drop o).take n):=S.upL hq.1 gs;have gall:=qe gv gs2 o;have hlen:=gv.1;have hsame:cD vs o ((vs.drop o).take n)=vs:=by
         unfold cD;rw [Wch,List.length_drop,WcH (by omega)];rw [<- List.drop_drop,WcG,Wcw,Wcw]
        rw [hsame] at gall;have hrow1:∀ r∈es,GL s.iv.length W [c0] r:=λr hr=>by
         obtain ⟨row,w1,w2⟩:=ib.rows r hr
         grind
        have hf:=zdV (es:=es.take (min es.length n)) (λr hr=>by have:=(hrow1 r (WaI hr)).1; simpa using this.symm);have hk:(es.take (min es.length n)).flatten.length=min es.length n:=by grind
        generalize hnew:(es.take (min es.length n)).flatten=new at hf hk ⊢;have hkn:min es.length n<=n:=Nat.min_le_right _ _;refine ⟨by rw [gall.1]; simp [cD]; omega,λi a u h1 h2=>?_⟩;unfold cD at h2;by_cases hio:i<o
        ·rw [WcG,Wan (by simp; omega),Wai,if_pos hio] at h2;exact gall.2 i a u h1 h2
        ·by_cases hik:i<o+min es.length n
         ·rw [WcG,Wal (by simp; omega),Wch,WcH (by omega),Wan (by omega)] at h2;obtain ⟨r,w1,w2⟩:=hf.2 _ _ h2;have gr:=(hrow1 r (WaI w1));rw [w2] at gr;have ha:a∈seg2:=by
           grind [rj]
          exact S.up (jY hq.2 a ha) gr.head
         ·rw [Wal (by simp; omega)] at h2;simp only [List.length_append,Wch] at h2;rw [List.getElem?_drop,WcH (by omega),hk] at h2;rw [show o+min es.length n+(i-(o+min es.length n))=i by omega] at h2;exact gall.2 i a u h1 h2
       ·cases h
      ·cases h
    ·cases h
   ·cases h
 ·cases h
theorem zci(hcb:Oy T D cb)(S:Sat s W Z){k:K}(h:ky cb s d af k=some s'):StepA T D s s' W Z d af k:=by
 have pure:(ka s k).map (λr=>r.1.put d r.2)=some s'->(∀ c,bZ c 0 Z d af k=(cx Z k).map (λv=>Z.put d v))->StepA T D s s' W Z d af k:=by
  intro e hk;simp only [Wag] at e;obtain ⟨⟨s1,a⟩,e,rfl⟩:=e;obtain ⟨ρ1,u,q1,q2,q3,q4⟩:=zc5 S e;exact ⟨ρ1,_,q2.put d q4,q3.trans (.same (by rw [mT])),Evt.all λc=>by rw [hk,q1]; rfl⟩
 cases k with
 | call f args xs=>exact zdl hcb S h
 | load agg n a take=>exact zcS S h
 | store n a x=>exact zaU S h
 | makeSlice sz bytes zero l c=>exact UH S h
 | buildSlice sz n zero ps=>exact RM S h
 | append sz bytes x y=>exact Z2 S h
 | copy sz x y=>exact zc9 S h
 | extract x i=>exact Xx S h
 | move x take=>
  simp [ky] at h;split at h
  ·cases h
  ·obtain ⟨ρ1,S1,E1⟩:=S.name x;split at h
   ·cases h;obtain ⟨S2,l1,l2⟩:=HJ S1 x;refine ⟨ρ1,_,S2.put d (by rw [l1]; exact (S1.src x).mv),E1.trans (.same (by rw [mT,l1])),Evt.all λc=>?_⟩
    grind [bZ]
   ·cases h;refine ⟨ρ1,_,S1.put d (S1.src x).ag,E1.trans (.same (by rw [mT])),Evt.all λc=>?_⟩
    grind [bZ]
 | alloc p cs=>
  obtain ⟨σ',r1,r2,r3⟩:=zQ S (X:=.live p cs) (f:=λid=>.ptr id 0) (.live p _ _ (qg cs)) (λid=>.ptr _ _ _ (lm _) (by rw [gG]; rfl)) h;exact ⟨W,σ',r2,.same (by rw [r3]),Evt.all λc=>by simp [bZ]; exact r1⟩
 | box p x=>
  simp [ky] at h;split at h
  ·rename_i cs hx;have g:=ij S hx;generalize hv:x.get Z=v at g;cases g with
   | st _ vs hl hh=>
    split at h
    ·cases h
    ·obtain ⟨σ',r1,r2,r3⟩:=zQ S (X:=.live false vs) (f:=λid=>.ptr id 0) (.live false _ _ ⟨hl,hh⟩) (λid=>.ptr _ _ _ (lm _) (by rw [gG]; rfl)) h;exact ⟨W,σ',r2,.same (by rw [r3]),Evt.all λc=>by simp only [bZ,hv,WaR,if_false]; exact r1⟩
  ·split at h
   ·rename_i b hb;obtain ⟨u,q1,q2,q3⟩:=j3 (S.src x) hb;obtain ⟨σ',r1,r2,r3⟩:=zQ S (X:=.live p u.cells) (f:=λid=>.ptr id 0) (.live p _ _ q3) (λid=>.ptr _ _ _ (lm _) (by rw [gG]; rfl)) h;refine ⟨W,σ',r2,.same (by rw [r3]),Evt.all λc=>?_⟩;simp only [bZ];split
    ·rename_i cs hcs; rw [hcs] at q1; cases q1
    ·rw [q1]; exact r1
   ·cases h
 | ofStr x=>
  simp [ky] at h;split at h
  ·rename_i str hx;have g:=ij S hx;generalize hv:x.get Z=v at g;cases g;cases h;refine ⟨W,_,S.put d (v:=.sl 1 (uA str)) ?_,.same (by rw [mT]),Evt.all λc=>by simp only [bZ,WaR,if_false,hv]⟩;refine pV (q:=0) ?_;unfold uA;refine All2.map (R:=λ(a b:UInt8)=>a=b) (λa b e=>?_) ⟨rfl,λi a b h1 h2=>by rw [h1] at h2; exact WcI h2⟩;subst e;have:=G.int (N:=s.iv.length) (W:=W) .u8 (.lit (a.toNat:Int)) (lm _);rw [gG] at this;exact .cons this .nil
  ·cases h
 | pick c a b=>exact pure h (λc=>rfl)
 | build z ps=>exact pure h (λc=>rfl)
 | ay z ps=>exact pure h (λc=>rfl)
 | nilCheck x=>exact pure h (λc=>rfl)
 | bin op x y=>exact pure h (λc=>rfl)
 | aY a b c d=>exact pure h (λc=>rfl)
 | bI a b c=>exact pure h (λc=>rfl)
 | un op x=>exact pure h (λc=>rfl)
 | conv k x=>exact pure h (λc=>rfl)
 | toStr x=>exact pure h (λc=>rfl)
 | adc a b c d=>exact pure h (λc=>rfl)
 | ax a b c d e f=>exact pure h (λc=>rfl)
 | aT a b c d e=>exact pure h (λc=>rfl)
 | aD a b c d=>exact pure h (λc=>rfl)
 | fieldAddr a b=>exact pure h (λc=>rfl)
 | field a b c d=>exact pure h (λc=>rfl)
 | al a b c d=>exact pure h (λc=>rfl)
 | aj a b c=>exact pure h (λc=>rfl)
 | aQ a b c d e=>exact pure h (λc=>rfl)
 | bo a=>exact pure h (λc=>rfl)
 | aO a=>exact pure h (λc=>rfl)
 | mm a b c=>exact pure h (λc=>rfl)
 | pull a b=>exact pure h (λc=>rfl)
 | _=>cases h
end
end
section
variable {g:Option (Nat × Bool)}{b:Bool}{c:Cnd}{j N:Nat}{ss:List SS}{o:COp}{a:A}{v:V}{d:Option Nat}
section
variable {s s':SS} {W ρ':Nat->Int} {Z σ':St} {T:Nat->Option CF} {D:Nat} {cb:ACB}
theorem nq(S:Sat s W Z)(h:DL s g=some b):gJ Z g=some b:=by
 unfold DL at h;split at h
 ·exact h
 ·split at h
  ·rename_i j want _ b' ht;obtain ⟨v,hv,gv⟩:=S.ts.get ht;cases gv
   grind [gJ]
  ·rename_i j want _ ht;obtain ⟨v,hv,gv⟩:=S.ts.get ht;cases gv
   grind [gJ]
  ·cases h
theorem Yc(S:Sat s W Z)(b:Bool)(h:V2 (s.dec c)=some b):c.not.ev W=b:=by
 unfold V2 at h
 grind [Sat.dec,Qh]
theorem zbV(S:Sat s W Z)(ht:s.t[j]?=some (.cmp c))
  (h:ss=(match s.assume (s.dec c) c with | some s1=>[s1.put (some j) (.ex (.sc (.bool true)))] | none=>[])++(match s.assume (V2 (s.dec c)) c.not with | some s1=>[s1.put (some j) (.ex (.sc (.bool false)))] | none=>[])):∃ s1∈ss,Sat s1 W Z/\Ext s s1 W W:=by
 obtain ⟨v,hv,gv⟩:=S.ts.get ht;cases gv with
 | cmp _ hb=>
  cases hc:c.ev W with
  | true=>
   obtain ⟨s1,e1,S1,l1,l2,l3⟩:=S.assume (λb h=>S.dec h) hb hc;rw [e1] at h;refine ⟨s1.put (some j) (.ex (.sc (.bool true))),by rw [h]; simp,?_,.same (by rw [mT,l1])⟩;refine S1.retell (t:=j) (a:=.ex (.sc (.bool true))) (λw hw=>?_);rw [hv] at hw; cases hw;rw [hc]; exact .ex _
  | false=>
   obtain ⟨s1,e1,S1,l1,l2,l3⟩:=S.assume (Yc S) (WP hb) (by rw [Qh,hc]; rfl);rw [e1] at h;refine ⟨s1.put (some j) (.ex (.sc (.bool false))),by rw [h]; simp,?_,.same (by rw [mT,l1])⟩;refine S1.retell (t:=j) (a:=.ex (.sc (.bool false))) (λw hw=>?_);rw [hv] at hw; cases hw;rw [hc]; exact .ex _
theorem Yo(S:Sat s W Z)(hv:Z.t[j]?=some (.sc (.bool b))):Sat (s.put (some j) (.ex (.sc (.bool b)))) W Z:=
 S.retell (t:=j) (a:=.ex (.sc (.bool b))) (λw hw=>by rw [hv] at hw; cases hw; exact .ex _)
theorem Tz(S:Sat s W Z)(h:PN s g=some ss):∃ s1∈ss,Sat s1 W Z/\Ext s s1 W W:=by
 unfold PN at h;split at h
 ·cases h; exact ⟨s,by simp,S,.refl⟩
 ·split at h
  ·cases h; exact ⟨s,by simp,S,.refl⟩
  ·cases h; exact ⟨s,by simp,S,.refl⟩
  ·rename_i j _ _ c ht;exact zbV S ht (WcI h).symm
  ·rename_i j _ _ ht;obtain ⟨v,hv,gv⟩:=S.ts.get ht;cases gv with
   | bool b=>
    cases h;cases b with
    | true=>exact ⟨_,by simp,Yo S hv,.same (by rw [mT])⟩
    | false=>exact ⟨_,by simp,Yo S hv,.same (by rw [mT])⟩
  ·cases h
theorem Vz(hcb:Oy T D cb)(S:Sat s W Z)(h:U4 cb s o=some s'):∃ ρ' σ',Sat s' ρ' σ'/\Ext s s' W ρ'/\Evt T D (λc=>cW c 0 Z o=some σ'):=by
 unfold U4 at h;split at h
 ·rename_i hg;obtain ⟨ρ1,σ1,q1,q2,q3⟩:=zci hcb S h
  grind [nq,cW]
 ·rename_i hg;cases h;exact ⟨W,_,S.put _ (.ex _),.same (by rw [mT]),Evt.all λc=>by grind [nq,cW]⟩
 ·cases h
theorem z8{α Y:Type}{f:α->Option (List Y)}:∀ {l:List α} {r:List Y},Em f l=some r->∀ x∈l,∃ y,f x=some y/\∀ z∈y,z∈r
 | [],r,h,x,hx=>by cases hx
 | a::l,r,h,x,hx=>by
  unfold Em at h;split at h
  ·rename_i y m h1 h2;cases h;rcases WbL.1 hx with rfl | hx
   ·grind
   ·obtain ⟨w,h3,h4⟩:=z8 h2 x hx
    grind
  ·cases h
theorem XI(hcb:Oy T D cb):∀ {ops:List COp} {s:SS} {W:Nat->Int} {Z:St} {outs:List SS},Sat s W Z->Zj cb ops s=some outs->∃ s'∈outs,∃ ρ' σ',Sat s' ρ' σ'/\Ext s s' W ρ'/\Evt T D (λc=>ny c 0 ops Z=some σ')
 | [],s,W,Z,outs,S,h=>by cases h; exact ⟨s,by simp,W,Z,S,.refl,Evt.all λc=>rfl⟩
 | o::ops,s,W,Z,outs,S,h=>by
  unfold Zj at h;split at h
  ·rename_i ss hs;obtain ⟨s1,m1,S1,E1⟩:=Tz S hs;obtain ⟨y,h1,h2⟩:=z8 h s1 m1;split at h1
   ·rename_i s2 h3;obtain ⟨ρ2,σ2,S2,E2,ev2⟩:=Vz hcb S1 h3;obtain ⟨s3,m3,ρ3,σ3,S3,E3,ev3⟩:=XI hcb S2 h1;refine ⟨s3,h2 _ m3,ρ3,σ3,S3,(E1.trans E2).trans E3,(ev2.and ev3).imp λc hc=>?_⟩
    grind [ny]
   ·cases h1
  ·cases h
theorem za6(g:G N W a v){id:Nat}(h:idA a=some id):xI v=some id:=by
 cases g with
 | ptr=>cases h; rfl
 | own=>cases h; rfl
 | _=>cases h
theorem Zx(g:G N W a v)(h:Yw a=true):xI v=none/\VX v=true:=by
 have m:∀ {q sz:Nat} {es:Ls},(q=0∨q=1)->xI (mkL q sz es)=none/\VX (mkL q sz es)=true:=by
  rintro q sz es (rfl | rfl) <;> exact ⟨rfl,rfl⟩
 cases g with
 | fp=>exact ⟨rfl,rfl⟩
 | ak q sz n row es hn hl hr hh=>
  cases q with
  | zero=>exact m (.inl rfl)
  | succ q=>cases q with
   | zero=>exact m (.inr rfl)
   | succ q=>cases h
 | ai q sz lo hi row es hl hr hh=>
  cases q with
  | zero=>exact m (.inl rfl)
  | succ q=>cases q with
   | zero=>exact m (.inr rfl)
   | succ q=>cases h
 | am q sz rows es hl hr hh=>
  cases q with
  | zero=>exact m (.inl rfl)
  | succ q=>cases q with
   | zero=>exact m (.inr rfl)
   | succ q=>cases h
 | _=>cases h
theorem On(g:G N W a v)(h:UZ a=true):(∃ sz es,v=.gs sz es)∨∃ sz es,v=.fr sz es:=by
 have m:∀ {q sz:Nat} {es:Ls},q≠0->(∃ sz' es',mkL q sz es=.gs sz' es')∨∃ sz' es',mkL q sz es=.fr sz' es':=by
  intro q sz es hq;cases q with
  | zero=>exact absurd rfl hq
  | succ q=>cases q with
   | zero=>exact .inl ⟨_,_,rfl⟩
   | succ q=>exact .inr ⟨_,_,rfl⟩
 cases g with
 | ak q sz n row es hn hl hr hh=>exact m (λe=>by subst e; cases h)
 | ai q sz lo hi row es hl hr hh=>exact m (λe=>by subst e; cases h)
 | am q sz rows es hl hr hh=>exact m (λe=>by subst e; cases h)
 | _=>cases h
theorem zc8(S:Sat s W Z){r id:Nat}(h:Zs s r id=true):Lf Z r id=true:=by
 unfold Zs at h;split at h
 ·rename_i a ha;obtain ⟨v,hv,g⟩:=S.ts.get ha
  grind [za6,Lf]
 ·cases h
theorem zbT(S:Sat s W Z){K:List Nat}{r:Nat}(h:W4 s K r=true):vG Z K r=true:=by
 unfold W4 at h;split at h
 ·rename_i a ha;obtain ⟨v,hv,g⟩:=S.ts.get ha
  grind [vG,za6,Zx]
 ·cases h
theorem Qn(S:Sat s W Z){args:List (Src × Nat)}{av:List A}(h:nZ (BN s) args=some av):∃ vs,args.mapM (hS Z)=some vs/\iq 0 Z d vs args []=args.filterMap (λx=>F5 (s.src x.1))++d.toList:=by
 obtain ⟨vs,q1,q2,q3,q4⟩:=OH S h;refine ⟨vs,q1,?_⟩;have hrefs:vs.flatMap dL=[]:=WbH.2 λv hv=>(q3 v hv).1;have hids:fW (di Z args Z.b) vs=[]:=by unfold fW; rw [hrefs]; rfl
 have hown:∀ {args:List (Src × Nat)} {av:List A},nZ (BN s) args=some av->args.filterMap (λx=>fP (x.1.get Z))=args.filterMap (λx=>F5 (s.src x.1)):=by
  intro args
  induction args with
  | nil=>intro av h; rfl
  | cons x args ih=>
   grind [Vp,nZ]
 unfold iq;rw [hids,hown h];cases d with
 | none=>simp
 | some d=>simp
theorem ze4(S:Sat s W Z){K:List Nat}(h:zdv s o=some K):kOf 0 Z o=some K:=by
 unfold zdv at h;split at h
 ·cases h
 ·grind [nq,kOf]
 ·rename_i hg;simp only [kOf,nq S hg];split at h
  ·rename_i agg n a take hk;rw [hk];simp only;split at h
   ·rename_i id off hx;have g:=ij S hx;generalize hv:a.get Z=v at g;cases g; exact h
   ·rename_i cs hx;have g:=ij S hx;generalize hv:a.get Z=v at g;cases g; exact h
   ·cases h
  ·rename_i n a x hk;rw [hk];simp only;split at h
   ·rename_i id off hx;have g:=ij S hx;generalize hv:a.get Z=v at g;cases g; exact h
   ·cases h
  ·rename_i hk; rw [hk]; simpa using h
  ·rename_i hk; rw [hk]; simpa using h
  ·rename_i hk; rw [hk]; simpa using h
  ·rename_i hk; rw [hk]; simpa using h
  ·rename_i hk; rw [hk]; simpa using h
  ·rename_i hk; rw [hk]; exact h
  ·rename_i sz bytes x y hk;rw [hk];simp only;have gx:=S.src x;have gy:=S.src y;split at h
   ·rename_i h1 h2 h3;have hy:∀ id off len sz,y.get Z≠.own id off len sz:=by
     intro id off len sz e;have:=XQ gy h1 (λw e=>by rw [e] at h3; cases h3) (λe=>by rw [e] at h3; cases h3);rw [e] at this; cases this
    rcases On gx h2 with ⟨sz',es,e⟩ | ⟨sz',es,e⟩
    ·rw [e];cases hyv:y.get Z with
     | own id off len sz=>exact absurd hyv (hy _ _ _ _)
     | _=>simpa using h
    ·rw [e];cases hyv:y.get Z with
     | own id off len sz=>exact absurd hyv (hy _ _ _ _)
     | _=>simpa using h
   ·cases h
  ·rename_i f args hk;rw [hk];simp only;split at h
   ·rename_i av has;obtain ⟨vs,q1,q2⟩:=Qn S (d:=o.dst) has;rw [q1];simp only [q2]; exact h
   ·cases h
  ·cases h
theorem zey(S:Sat s W Z){fl:Fl}(h:zdq s o fl=true):rc 0 Z o fl=true:=by
 unfold zdq at h;split at h
 ·rename_i K hK;simp only [WaG] at h;obtain ⟨⟨⟨h1,h2⟩,h3⟩,h4⟩:=h;simp only [rc,ze4 S hK,WaG];refine ⟨⟨⟨?_,?_⟩,?_⟩,?_⟩
  ·grind [zc8]
  ·have e:∀ (d:Nat),(K.all λid=>Wae id (0+d))=K.all λid=>Wae id d:=λd=>by rw [Wau]
   rw [<- h2];congr 1;split
   ·rename_i d hd; rw [hd]; exact e d
   ·rename_i hd; rw [hd]
  ·exact Wbj.2 λr hr=>zbT S (Wbj.1 h3 r hr)
  ·simpa using h4
 ·cases h
theorem Ru(g:G N W a v)(h:Lv a=true):yO v=true:=by
 have m:∀ {q sz:Nat} {es:Ls},Nat.ble q 1=true->yO (mkL q sz es)=true:=by
  intro q sz es hq;have hq:=j2 hq;cases q with
  | zero=>rfl
  | succ q=>cases q with
   | zero=>rfl
   | succ q=>omega
 cases g with
 | ex v=>exact h
 | agg=>rfl
 | fp=>rfl
 | ak q sz n row es hn hl hr hh=>exact m h
 | ai q sz lo hi row es hl hr hh=>exact m h
 | am q sz rows es hl hr hh=>exact m h
 | _=>cases h
theorem Xl{b:List B}(g:G N W a v)(h:Lv a=true):lU b v=true:=by
 have h1:=Ru g h;cases v with
 | fn f caps=>exact h1
 | sc v=>rfl
 | agg cs=>rfl
 | sl sz es=>rfl
 | gs sz es=>rfl
 | fp n cs=>rfl
 | _=>cases h1
theorem WU(S:Sat s W Z)(g:G s.iv.length W a v)(h:KL s a=true):lU Z.b v=true:=by
 have m:∀ {q sz:Nat} {es:Ls},lU Z.b (mkL q sz es)=true:=by
  intro q sz es; unfold mkL; split <;> rfl
 cases g with
 | own id o m off len sz ho hm h1 h2=>
  simp only [KL] at h;split at h
  ·rename_i cs hcs;obtain ⟨vs,hvs,_⟩:=Wi S hcs;simp only [lU,hvs]; rfl
  ·cases h
 | ptr=>cases h
 | any=>cases h
 | ex=>cases h
 | st=>cases h
 | ak=>exact m
 | ai=>exact m
 | am=>exact m
 | _=>rfl
theorem Rf(S:Sat s W Z)(h:Lw s d=true):(match (generalizing:=false) d with | some d=>(match Z.t[d]? with | some v=>!uj v | none=>false) | none=>false)=true:=by
 unfold Lw at h;cases d with
 | none=>cases h
 | some d=>
  simp only at h ⊢;have m:∀ {q sz:Nat} {es:Ls},uj (mkL q sz es)=false:=by
   intro q sz es; unfold mkL; split <;> rfl
  have key:∀ {a:A} {v:V},s.t[d]?=some a->Z.t[d]?=some v->G s.iv.length W a v->(∀ id o,a≠.ptr id o)->a≠.any->(∀ w,a=.ex w->uj w=false)->(match Z.t[d]? with | some v=>!uj v | none=>false)=true:=by
   intro a v h1 h2 g n1 n2 n3;rw [h2];simp only [Wbx];cases g with
   | ptr id o off ho hh=>exact absurd rfl (n1 _ _)
   | any=>exact absurd rfl n2
   | ex=>exact n3 _ rfl
   | ak=>exact m
   | ai=>exact m
   | am=>exact m
   | _=>rfl
  split at h
  ·cases h
  ·cases h
  ·rename_i w hw;obtain ⟨v,hv,g⟩:=S.ts.get hw;refine key hw hv g (λ_ _ e=>by cases e) (λe=>by cases e) (λw' e=>?_);cases e;simpa using h
  ·rename_i a n1 n2 n3 ha;obtain ⟨v,hv,g⟩:=S.ts.get ha;exact key ha hv g (λid o e=>n1 _ _ e) (λe=>n2 e) (λw e=>absurd e (n3 w))
  ·cases h
theorem zdL(S:Sat s W Z)(S':Sat s' ρ' σ')(h:Zk s o s'=true):t9 Z o σ'=true:=by
 unfold Zk at h;split at h
 ·grind [nq,t9]
 ·rename_i hg;split at h
  ·rename_i f args xs d hk hd;simp only [WaG] at h;obtain ⟨⟨⟨h1,h2⟩,h3⟩,h4⟩:=h;have:=Rf S' h4;simp only [t9,nq S hg,hk,hd,WaG];refine ⟨⟨⟨h1,h2⟩,Wbj.2 λx hx=>?_⟩,this⟩;have:=Wbj.1 h3 x hx;simp only [WaG] at this ⊢;exact ⟨this.1,Ru (S.src x.1) this.2⟩
  ·cases h
 ·cases h
end
end
section
variable {o:COp}
section
variable {s s':SS} {W ρ':Nat->Int} {Z σ':St} {T:Nat->Option CF} {D:Nat} {cb:ACB}
theorem Ua{v:V}(h:(∃ sz es,v=.gs sz es)∨∃ sz es,v=.fr sz es):fP v=none/\Zi v=false/\V1 v=true:=by
 rcases h with ⟨_,_,rfl⟩ | ⟨_,_,rfl⟩ <;> exact ⟨rfl,rfl,rfl⟩
theorem SP(q sz:Nat)(es:Ls):(match some (mkL q sz es) with | some (.bx _ _)=>false | some _=>true | none=>false)=true:=by
 match q with
 | 0=>rfl
 | 1=>rfl
 | n+2=>rfl
theorem zbw(S:Sat s W Z)(S':Sat s' ρ' σ')(h:Vv s o s'=true):i4 Z o σ'=true:=by
 unfold Vv at h;split at h
 ·rename_i hg;simp [i4,nq S hg];split at h
  ·rename_i hk; rw [hk]; exact h
  ·rename_i hk; rw [hk]
  ·rename_i hk; rw [hk]
  ·rename_i hk; rw [hk]
  ·rename_i hk; rw [hk]
  ·rename_i hk; rw [hk]; exact h
  ·rename_i hk; rw [hk]; exact h
  ·rename_i sz bytes x y hk;rw [hk];simp only [WaG] at h ⊢;obtain ⟨q1,q2,_⟩:=Ua (On (S.src x) h.2)
   grind
  ·rename_i f args xs hk;rw [hk];simp only [WaG] at h ⊢;obtain ⟨⟨⟨h1,h2⟩,h3⟩,h4⟩:=h;have q:=Rf S' h4;refine ⟨⟨⟨h1,h2⟩,Wbj.2 λx hx=>?_⟩,q⟩;have:=Wbj.1 h3 x hx;simp only [WaG,WbA] at this ⊢;refine ⟨this.1,?_⟩;rcases this.2 with q | q
   ·exact WU S (S.src x.1) q
   ·exact Xl (S.src x.1) q
  ·rename_i x i hk;rw [hk];simp only [WaG] at h ⊢;refine ⟨h.1,?_⟩;have h2:=h.2;split at h2
   ·rename_i av hx;have g:=ij S hx;generalize hv:x.get Z=v at g;cases g with
    | ah _ vs hl hh=>
     have gl:GL s.iv.length W av vs:=⟨hl,hh⟩;simp only;have key:∀ {a:A},av[i]?=some a->(∀ p cs,a≠.bx p cs)->a≠.any->(∀ w,a≠.ex w)->(match vs[i]? with | some (.bx _ _)=>false | some _=>true | none=>false)=true:=by
      intro a ha n1 n2 n3;obtain ⟨w,hw,gw⟩:=gl.get ha;rw [hw];cases gw with
      | bx p cs vs hl hh=>exact absurd rfl (n1 _ _)
      | any=>exact absurd rfl n2
      | ex w=>exact absurd rfl (n3 w)
      | ak q sz n row es hn hl hr hh=>exact SP _ _ _
      | ai q sz lo hi row es hl hr hh=>exact SP _ _ _
      | am q sz rows es hl hr hh=>exact SP _ _ _
      | _=>rfl
     split at h2
     ·cases h2
     ·cases h2
     ·cases h2
     ·rename_i a n1 n2 n3 ha;exact key ha (λp cs e=>n1 p cs (by rw [e])) (λe=>n2 (by rw [e])) (λw e=>n3 w (by rw [e]))
     ·cases h2
   ·cases h2
  ·rename_i hk1 hk2 hk3 hk4 hk5 hk6 hk7 hk8 hk9 hk10;cases hk:o.k with
   | load a b c d=>exact absurd hk (hk1 _ _ _ _)
   | toStr x=>exact absurd hk (hk2 _)
   | ofStr x=>exact absurd hk (hk3 _)
   | ax a b c d e f=>exact absurd hk (hk4 _ _ _ _ _ _)
   | move a b=>exact absurd hk (hk5 _ _)
   | buildSlice a b c d=>exact absurd hk (hk6 _ _ _ _)
   | makeSlice a b c d e=>exact absurd hk (hk7 _ _ _ _ _)
   | append a b c d=>exact absurd hk (hk8 _ _ _ _)
   | call a b c=>exact absurd hk (hk9 _ _ _)
   | extract a b=>exact absurd hk (hk10 _ _)
   | _=>first | (rw [hk] at h; done) | (rw [hk] at h; exact h) | (rw [hk] at h; cases h)
 ·rename_i hg; simp only [i4,nq S hg]
 ·cases h
theorem zcO(S:Sat s W Z){r:Nat}(h:Y4 s o r=true):rk Z o r=true:=by
 unfold Y4 at h;simp at h;unfold rk;rw [h.1,Bool.true_and];have h2:=h.2;split at h2
 ·rename_i agg n p take hk;rw [hk];simp only;split at h2
  ·rename_i id o1 id' o2 e1 e2;obtain ⟨v,hv,g⟩:=S.ts.get e1;obtain ⟨w,hw,g'⟩:=S.ts.get e2;cases g; cases g';simp only [hv,hw]; exact h2
  ·rename_i cs a e1 e2;obtain ⟨v,hv,g⟩:=S.ts.get e1;obtain ⟨w,hw,g'⟩:=S.ts.get e2;cases g;simp [hv]
  ·cases h2
 ·cases h2
theorem zad(S:Sat s W Z){id:Nat}(h:Sp s o id=true):xv 0 Z o id=true:=by
 unfold Sp at h;unfold xv;simp only [WbA] at h ⊢;rcases h with h | h
 ·exact .inl h
 ·refine .inr ?_;split at h
  ·grind [nq]
  ·rename_i hg;rw [nq S hg];simp only;split at h
   ·rename_i f args hk;rw [hk];simp only;split at h
    ·rename_i av has;obtain ⟨vs,q1,q2⟩:=Qn S (d:=o.dst) has
     grind
    ·cases h
   ·grind
   ·grind
   ·cases h
  ·cases h
theorem Rh(S:Sat s W Z){o:COp}:∀ {w:List Nat},LT s o w=true->qY 0 Z o w=true
 | [],h=>rfl
 | r::w,h=>by
  simp [LT] at h;simp [qY];refine ⟨?_,Rh S h.2⟩;have h1:=h.1;split at h1
  ·rename_i id off ht;obtain ⟨v,hv,g⟩:=S.ts.get ht;cases g
   grind [zad]
  ·rename_i cs ht;obtain ⟨v,hv,g⟩:=S.ts.get ht;cases g;simp [hv]
  ·cases h1
theorem zg8(S:Sat s W Z)(S':Sat s' ρ' σ'){fl:Fl}(h:flA s o fl s'=true):flT 0 Z o fl σ'=true:=by
 unfold flA at h;simp only [WaG] at h;obtain ⟨h1,h2⟩:=h;unfold flT;simp;constructor
 ·grind [Rh,jD,zey,zbw,zcO,zdL]
 ·unfold yY;simp only [WbA] at h2 ⊢;refine h2.imp id (λq=>?_);split at q
  ·rename_i d hd;rw [hd];simp only;split at q
   ·rename_i a ha;obtain ⟨v,hv,g⟩:=S'.ts.get ha;rw [hv];exact (Ua (On g q)).2.2
   ·cases q
  ·cases q
theorem X3(hcb:Oy T D cb):∀ {ops:List (COp × Fl)} {s:SS} {W:Nat->Int} {Z:St} {outs:List SS},Sat s W Z->Ze cb ops s=some outs->∃ s'∈outs,∃ ρ' σ',Sat s' ρ' σ'/\Ext s s' W ρ'/\Evt T D (λc=>su c 0 ops Z=some σ')
 | [],s,W,Z,outs,S,h=>by cases h; exact ⟨s,by simp,W,Z,S,.refl,Evt.all λc=>rfl⟩
 | (o,q)::ops,s,W,Z,outs,S,h=>by
  unfold Ze at h;split at h
  ·rename_i ss hs;obtain ⟨s1,m1,S1,E1⟩:=Tz S hs;obtain ⟨y,h1,h2⟩:=z8 h s1 m1;split at h1
   ·rename_i s2 h3;obtain ⟨ρ2,σ2,S2,E2,ev2⟩:=Vz hcb S1 h3;split at h1
    ·rename_i hf;have hfl:=zg8 S1 S2 hf;obtain ⟨s3,m3,ρ3,σ3,S3,E3,ev3⟩:=X3 hcb S2 h1;refine ⟨s3,h2 _ m3,ρ3,σ3,S3,(E1.trans E2).trans E3,(ev2.and ev3).imp λc hc=>?_⟩
     grind [su]
    ·cases h1
   ·cases h1
  ·cases h
theorem Cu:∀ {fz:List Nat} {s s':SS} {W:Nat->Int} {Z:St},Sat s W Z->wY s fz=some s'->Sat s' W (qp 0 fz Z)/\s'.iv=s.iv
 | [],s,s',W,Z,S,h=>by cases h; exact ⟨S,rfl⟩
 | d::fz,s,s',W,Z,S,h=>by
  unfold wY at h;unfold qp;split at h
  ·rename_i hd;rw [hd];simp;have keep:wY s fz=some s'->fc Z.b d=Z.b->Sat s' W (qp 0 fz { Z with b:=fc Z.b d })/\s'.iv=s.iv:=by
    intro h e; rw [e]; exact Cu S h
   split at h
   ·rename_i c cs hb;obtain ⟨vs,hvs,gv⟩:=nK S hb;cases vs with
    | nil=>have:=gv.1; simp at this
    | cons v vs=>
     have e:fc Z.b d=Z.b.set d (.fz (v::vs)):=by unfold fc; rw [hvs]
     rw [e];obtain ⟨q1,q2⟩:=Cu (S.ab d (.fz _ _ gv)) h;exact ⟨q1,q2⟩
   ·rename_i x n1 hb;obtain ⟨y,hy,gy⟩:=S.bs.get hb;refine keep h ?_;unfold fc;rw [hy];cases gy with
    | gone=>rfl
    | fz=>rfl
    | live p cs vs hg=>
     cases p with
     | false=>rfl
     | true=>
      cases vs with
      | nil=>rfl
      | cons v vs=>
       cases cs with
       | nil=>have:=hg.1; simp at this
       | cons c cs=>exact absurd rfl (n1 c cs)
   ·rename_i hb;refine keep h ?_;unfold fc;rw [List.getElem?_eq_none (by rw [<- S.bs.1]; grind)]
  ·rename_i hd;rw [hd];simp only [Wau];split at h
   ·cases h
   ·rename_i n1;have e:i8 Z.b (d-100000)=Z.b:=by
     unfold i8;split
     ·rename_i c cs hy;have hlt:d-100000<s.b.length:=by rw [S.bs.1]; grind
      have gy:=S.bs.2 _ _ _ (Wac hlt) hy
      exfalso
      generalize hx:s.b[d-100000]=x at gy;cases gy with
      | live p cs' vs hg=>exact n1 cs' (by grind)
     ·rfl
    rw [e]; exact Cu S h
end
end
section
variable {e:Ex}{l:List (Ex × SS)}
section
variable {s s' j:SS} {W ρ' ρj:Nat->Int} {Z σ':St} {T:Nat->Option CF} {D:Nat} {cb:ACB} {N0 Nj:Nat} {th:Th}
def wj(N0:Nat)(th:Th)(W:Nat->Int):Nat->Int:=λx=>if x<N0 then W x else match Dg x th with
 | some e=>e.ev W
 | none=>0
def Low(N0:Nat)(W ρ':Nat->Int):Prop:=∀ x,x<N0->ρ' x=W x
theorem Low.refl:Low N0 W W:=λ_ _=>rfl
theorem Low.trans{ρ1 ρ2:Nat->Int}{M:Nat}(h:Low N0 W ρ1)(h':Low M ρ1 ρ2)(hM:N0<=M):Low N0 W ρ2:=λx hx=>by rw [h' x (by omega),h x hx]
theorem wA:Low N0 W (wj N0 th W):=λx hx=>by unfold wj; rw [if_pos hx]
theorem SA{x:Nat}{e:Lin}(h:Dg x th=some e)(hx:N0<=x):wj N0 th W x=e.ev W:=by
 grind [wj]
theorem WS:∀ {th:Th} {x:Nat} {e:Lin},Dg x th=some e->∃ p∈th,p.1=x
 | [],x,e,h=>by cases h
 | p::l,x,e,h=>by
  unfold Dg at h;split at h
  ·simp_all
  ·obtain ⟨q,hq,e⟩:=WS h; exact ⟨q,by simp [hq],e⟩
theorem zf1(h0:N0<=Nj)(hb:jJ (λp=>Nat.blt p.1 Nj) th=true):Thm N0 th W (wj N0 th W) Nj:=
 ⟨wA,λx e h hx=>SA h hx,h0,λx e h=>by
  obtain ⟨p,hp,rfl⟩:=WS h; exact Dz (jY hb p hp)⟩
theorem All2.up{α Y γ:Type}{R:α->Y->Prop}{S:α->γ->Prop}{T:Y->γ->Prop}(H:∀ a b c,R a b->S a c->T b c){l:List α}{m:List Y}{n:List γ}(h:All2 R l m)(h':All2 S l n):All2 T m n:=by
 refine ⟨by rw [<- h'.1,h.1],λi b c hb hc=>?_⟩;have hlt:i<l.length:=by rw [h'.1]; grind
 exact H l[i] b c (h.2 i _ b (Wac hlt) hb) (h'.2 i _ c (Wac hlt) hc)
theorem Ta(B:Bnd s.iv W)(F:Fct s.fs W)(H:Thm N0 th W ρj Nj){n:Nat}{cs ds:List A}{vs:List V}(h:j5 (leA N0 s th n) cs ds=true)(g:GL s.iv.length W cs vs):GL Nj ρj ds vs:=
 All2.up (R:=λa b=>leA N0 s th n a b=true) (S:=G s.iv.length W) (T:=G Nj ρj) (λa b c hab hg=>P6 B F H n hab hg) (An h) g
theorem zfm(B':Bnd s.iv W)(F:Fct s.fs W)(H:Thm N0 th W ρj Nj){a j:BB}{x:B}(h:Zu N0 s th a j=true)(g:GB s.iv.length W a x):GB Nj ρj j x:=by
 unfold Zu at h;split at h
 ·cases g; exact .gone
 ·simp at h;obtain ⟨rfl,h2⟩:=h;cases g with
  | live _ _ vs hg=>exact .live _ _ _ (Ta B' F H h2 hg)
 ·cases g with
  | fz _ vs hg=>exact .fz _ _ (Ta B' F H h hg)
 ·cases h
theorem YC(S:Sat s W Z):∀ {l:IV} {x:Nat},ZR N0 s th x l=true->∀ i q,l[i]?=some q->q.1<=wj N0 th W (x+i)/\wj N0 th W (x+i)<=q.2
 | [],x,h,i,q,hq=>by simp at hq
 | p::l,x,h,i,q,hq=>by
  simp [ZR] at h;obtain ⟨h1,h2⟩:=h;cases i with
  | succ i=>
   have:=YC S h2 i q (by simpa using hq)
   grind
  | zero=>
   simp at hq;subst hq;rw [Nat.add_zero];split at h1
   ·rename_i e he;have key:wj N0 th W x=e.ev W:=by
     split at he
     ·rename_i hx; cases he; rw [sB]; exact wA x (Dz hx)
     ·rename_i hx; exact SA he (zb9 hx)
    rw [key];simp only [WaG] at h1;have a1:=S.le h1.1;have a2:=S.le h1.2;rw [f5,gG] at a1;rw [iH] at a2;omega
   ·cases h1
theorem Q2(S:Sat s W Z)(h:leS N0 s j=some th):Sat j (wj N0 th W) Z/\N0<=j.iv.length:=by
 unfold leS at h;simp only at h;split at h
 ·rename_i hc;simp only [WaG] at hc;injection h with h
  subst h;generalize thB N0 (thL N0 [] s.t j.t) s.b j.b=th at hc ⊢;obtain ⟨⟨c1,c2,c3⟩,c4,c5,c6⟩:=hc;have c1:=j2 c1;have H:Thm N0 th W (wj N0 th W) j.iv.length:=zf1 c1 c2;refine ⟨⟨λx q hq=>?_,λf hf=>?_,λf hf=>?_,Ta S.bnd S.fct H c3 S.ts,?_⟩,c1⟩
  ·have:=YC S c5 x q hq
   rwa [Wau] at this
  ·have:=jY c6 f hf;split at this
   ·rename_i e he;rw [<- (Ii H he).1]; exact S.le this
   ·cases this
  ·have:=jY c6 f hf;split at this
   ·rename_i e he;exact (Ii H he).2
   ·cases this
  ·exact All2.up (R:=λa b=>Zu N0 s th a b=true) (S:=GB s.iv.length W) (T:=GB j.iv.length (wj N0 th W)) (λa b c hab hg=>zfm S.bnd S.fct H hab hg) (An c4) S.bs
 ·cases h
def Hold(N0:Nat)(W:Nat->Int)(e:Ex)(Z:St)(l:List (Ex × SS)):Prop:=∃ s ρ',(e,s)∈l/\Sat s ρ' Z/\N0<=s.iv.length/\Low N0 W ρ'
theorem Hold.imp{e':Ex}{m:List (Ex × SS)}(H:∀ s,(e,s)∈l->(e',s)∈m)(h:Hold N0 W e Z l):Hold N0 W e' Z m:=by
 obtain ⟨s,r,h1,h2⟩:=h; exact ⟨s,r,H s h1,h2⟩
theorem zea{s1 s2:SS}(h:zct N0 s1 s2=some j)(S:Sat s W Z)(hs:s=s1∨s=s2):∃ ρ',Sat j ρ' Z/\N0<=j.iv.length/\Low N0 W ρ':=by
 unfold zct at h;simp only at h;split at h
 ·rename_i h1 h2;cases h;rcases hs with rfl | rfl
  ·obtain ⟨q1,q2⟩:=Q2 S h1; exact ⟨_,q1,q2,wA⟩
  ·obtain ⟨q1,q2⟩:=Q2 S h2; exact ⟨_,q1,q2,wA⟩
 ·cases h
theorem zdt{a b:Ex}(h:YW a b=true):a=b:=by
 cases a <;> cases b <;> first | rfl | (cases h; done) | (simp only [YW] at h; rw [Wao h])
theorem RW{e e':Ex}{s0:SS}:∀ {l:List (Ex × SS)},Hold N0 W e' Z ((e,s0)::l)->Hold N0 W e' Z (Ju N0 e s0 l)
 | [],h=>h
 | p::l,h=>by
  unfold Ju;obtain ⟨s,r,hm,S,hN,hL⟩:=h;have rest:Hold N0 W e' Z ((e,s0)::l)->Hold N0 W e' Z (p::Ju N0 e s0 l):=λq=>(RW q).imp λs h=>by simp [h]
  have skip:Hold N0 W e' Z (p::Ju N0 e s0 l):=by
   simp only [WbL] at hm;rcases hm with hm | hm | hm
   ·exact rest ⟨s,r,by simp [hm],S,hN,hL⟩
   ·exact ⟨s,r,by simp [hm],S,hN,hL⟩
   ·exact rest ⟨s,r,by simp [hm],S,hN,hL⟩
  split
  ·rename_i he;have he:=zdt he;split
   ·rename_i j hj;simp only [WbL] at hm;have into:s=p.2∨s=s0->e'=p.1->Hold N0 W e' Z ((p.1,j)::l):=by
     intro h1 h2;obtain ⟨r1,S1,n1,l1⟩:=zea hj S h1;exact ⟨j,r1,by simp [h2],S1,n1,hL.trans l1 (Wah _)⟩
    rcases hm with hm | hm | hm
    ·cases hm; exact into (.inr rfl) he
    ·exact into (.inl (by rw [<- hm])) (by rw [<- hm])
    ·exact ⟨s,r,by simp [hm],S,hN,hL⟩
   ·exact skip
  ·exact skip
theorem Ig(h:Hold N0 W e Z l):Hold N0 W e Z (LC N0 l):=by
 unfold LC;have key:∀ (l acc:List (Ex × SS)),Hold N0 W e Z (l++acc)->Hold N0 W e Z (l.foldl (λacc p=>Ju N0 p.1 p.2 acc) acc):=by
  intro l
  induction l with
  | nil=>intro acc h; exact h
  | cons p l ih=>
   intro acc h;refine ih _ ?_;obtain ⟨s,r,hm,q⟩:=h;simp at hm;rcases hm with hm | hm | hm
   ·exact (RW (e:=p.1) (s0:=p.2) (l:=acc) (e':=e) ⟨s,r,by grind,q⟩).imp λs h=>Wbw _ h
   ·exact ⟨s,r,Wbv _ hm,q⟩
   ·exact (RW (e:=p.1) (s0:=p.2) (l:=acc) (e':=e) ⟨s,r,WcB _ hm,q⟩).imp λs h=>Wbw _ h
 exact key l [] (by rw [List.append_nil]; exact h)
theorem Es(h:Hold N0 W e Z l):Hold N0 W e Z (KS N0 l):=by
 grind [KS,Ig]
theorem Kh(dead:Nat->Bool)(q sz:Nat)(es:Ls):oq dead (mkL q sz es)=mkL q sz es:=by
 match q with
 | 0=>rfl
 | 1=>rfl
 | n+2=>rfl
theorem Xg{N:Nat}{dead:Nat->Bool}{a:A}{v:V}(g:G N W a v):G N W (LQ dead a) (oq dead v):=by
 cases g with
 | ex v=>exact .ex _
 | ptr id o off ho h=>
  simp [LQ,oq];cases dead id with
  | true=>exact .ex _
  | false=>exact .ptr _ _ _ ho h
 | own id o m off len sz ho hm h h'=>
  simp [LQ,oq];cases dead id with
  | true=>exact .ex _
  | false=>exact .own _ _ _ _ _ _ ho hm h h'
 | ah cs vs hl hh=>
  cases cs with
  | nil=>cases vs with
   | nil=>exact .ex _
   | cons v vs=>simp at hl
  | cons c cs=>cases vs with
   | nil=>simp at hl
   | cons v vs=>exact .ex _
 | st cs vs hl hh=>
  simp [LQ];split
  ·rename_i h1;have gl:GL N W cs vs:=⟨hl,hh⟩;have:oq dead (.st vs)=.st vs:=by
    simp only [oq];rw [if_neg];rw [List.any_eq_true]
    rintro ⟨v,hv,hd⟩
    obtain ⟨i,hi⟩:=Wbh.1 hv;have hlt:i<cs.length:=by rw [hl]; exact (Wam.1 hi).1
    have g:=hh i _ v (Wac hlt) hi;have h2:=jY h1 _ (List.getElem_mem hlt);generalize cs[i]=a at g h2;cases g with
    | ex v=>cases v with
     | own id off len sz=>cases h2
     | _=>cases hd
    | own id o m off len sz ho hm h h'=>
     simp only [zd8] at h2;simp only at hd;rw [hd] at h2; cases h2
    | any=>cases h2
    | ak q sz n row es hn hl hr hh=>match q,hd with
     | 0,hd=>cases hd
     | 1,hd=>cases hd
     | n+2,hd=>cases hd
    | ai q sz lo hi row es hl hr hh=>match q,hd with
     | 0,hd=>cases hd
     | 1,hd=>cases hd
     | n+2,hd=>cases hd
    | am q sz rows es hl hr hh=>match q,hd with
     | 0,hd=>cases hd
     | 1,hd=>cases hd
     | n+2,hd=>cases hd
    | _=>cases hd
   rw [this]; exact .st _ _ hl hh
  ·exact .any _
 | any v=>exact .any _
 | ak q sz n row es hn hl hr hh=>rw [Kh]; exact .ak q sz n row es hn hl hr hh
 | ai q sz lo hi row es hl hr hh=>rw [Kh]; exact .ai q sz lo hi row es hl hr hh
 | am q sz rows es hl hr hh=>rw [Kh]; exact .am q sz rows es hl hr hh
 | int k e h=>exact .int k e h
 | iv k lo hi n h=>exact .iv k lo hi n h
 | cmp c h=>exact .cmp c h
 | bool b=>exact .bool b
 | str s=>exact .str s
 | agg cs vs hl hh=>exact .agg cs vs hl hh
 | bx p cs vs hl hh=>exact .bx p cs vs hl hh
 | fp cs n vs hn hl hh=>exact .fp cs n vs hn hl hh
theorem TQ{N:Nat}{dead:Nat->Bool}:∀ {ks:List Bool} {cs:List A} {vs:List V},GL N W cs vs->GL N W (PS dead ks cs) (uu dead ks vs)
 | [],cs,vs,g=>by
  cases cs with
  | nil=>cases vs with
   | nil=>exact All2.nil
   | cons v vs=>have:=g.1; simp at this
  | cons c cs=>cases vs with
   | nil=>have:=g.1; simp at this
   | cons v vs=>exact All2.map (R:=G N W) (S:=G N W) (λa b h=>.ex _) g
 | k::ks,[],vs,g=>by
  cases vs with
  | nil=>exact All2.nil
  | cons v vs=>have:=g.1; simp at this
 | k::ks,c::cs,vs,g=>by
  cases vs with
  | nil=>have:=g.1; simp at this
  | cons v vs=>
   simp [PS,uu];refine All2.cons ?_ (TQ g.tail);cases k with
   | true=>exact Xg g.head
   | false=>exact .ex _
theorem TC{N:Nat}{dead:Nat->Bool}:∀ {ks:List Bool} {cs:List BB} {vs:List B},All2 (GB N W) cs vs->All2 (GB N W) (Rb dead ks cs) (Aq dead ks vs)
 | [],cs,vs,g=>by
  cases cs with
  | nil=>cases vs with
   | nil=>exact All2.nil
   | cons v vs=>have:=g.1; simp at this
  | cons c cs=>cases vs with
   | nil=>have:=g.1; simp at this
   | cons v vs=>exact All2.map (R:=GB N W) (S:=GB N W) (λa b h=>.gone) g
 | k::ks,[],vs,g=>by
  cases vs with
  | nil=>exact All2.nil
  | cons v vs=>have:=g.1; simp at this
 | k::ks,c::cs,vs,g=>by
  cases vs with
  | nil=>have:=g.1; simp at this
  | cons v vs=>
   simp [Rb,Aq];refine All2.cons ?_ (TC g.tail);cases k with
   | true=>
    simp;cases g.head with
    | gone=>exact .gone
    | fz cs vs h=>exact .fz _ _ h
    | live p cs vs h=>cases p with
     | true=>exact .live _ _ _ h
     | false=>exact .live _ _ _ (All2.map (R:=G N W) (S:=G N W) (λa b h=>Xg h) h)
   | false=>exact .gone
theorem Wg(S:Sat s W Z)(kt kb:List Bool):Sat (LN kt kb s) W (fF 0 kt kb Z):=⟨S.bnd,S.fct,S.fbd,TQ S.ts,TC S.bs⟩
theorem rq:∀ {l:List (Ex × SS)} {s:SS},(Ex.normal,s)∈l->s∈ug l
 | p::l,s,h=>by
  simp at h;unfold ug;rcases h with h | h
  ·rw [<- h]; simp
  ·split
   ·exact WcB _ (rq h)
   ·exact rq h
theorem uo:∀ {l:List (Ex × SS)} {e:Ex} {s:SS},(e,s)∈l->e≠.normal->(e,s)∈vv l
 | p::l,e,s,h,he=>by
  simp at h;unfold vv;rcases h with h | h
  ·grind
  ·split
   ·exact uo h he
   ·exact WcB _ (uo h he)
end
end
section
variable {P:Nat->CB->Prop}{e:Ex}{body:Nat->CB->St->Option (Ex × St)}{norm:St->St}{n k x:Nat}{σ1:St}{na:SS->SS}{outs:List (Ex × SS)}
def Evr(T:Nat->Option CF)(D:Nat)(P:Nat->CB->Prop):Prop:=∃ L0,∀ L,L0<=L->∀ n,D<=n->P L (tp (evF T zJ L n))
section
variable {s s' j:SS} {W ρ' ρj:Nat->Int} {Z σ':St} {T:Nat->Option CF} {D:Nat} {cb:ACB} {N0 Nj:Nat} {th:Th}
theorem Evr.all(h:∀ L c,P L c):Evr T D P:=⟨0,λL _ n _=>h _ _⟩
theorem Evr.imp{Q:Nat->CB->Prop}(H:∀ L c,P L c->Q L c)(h:Evr T D P):Evr T D Q:=by
 obtain ⟨L0,h⟩:=h; exact ⟨L0,λL hL n hn=>H _ _ (h L hL n hn)⟩
theorem Evr.and{Q:Nat->CB->Prop}(h:Evr T D P)(h':Evr T D Q):Evr T D (λL c=>P L c/\Q L c):=by
 obtain ⟨L0,h⟩:=h; obtain ⟨L1,h'⟩:=h';exact ⟨L0+L1,λL hL n hn=>⟨h L (by omega) n hn,h' L (by omega) n hn⟩⟩
theorem Evr.big(k:Nat)(h:∀ L c,k<=L->P L c):Evr T D P:=⟨k,λL hL n _=>h _ _ hL⟩
theorem Evt.r{P:CB->Prop}(h:Evt T D P):Evr T D (λ_ c=>P c):=h
def Reach(T:Nat->Option CF)(D N0:Nat)(W:Nat->Int)(f:Nat->CB->Option (Ex × St))(outs:List (Ex × SS)):Prop:=∃ ex σ',Hold N0 W ex σ' outs/\Evr T D (λL c=>f L c=some (ex,σ'))
theorem Reach.mono{f:Nat->CB->Option (Ex × St)}{l m:List (Ex × SS)}(H:∀ ex σ',Hold N0 W ex σ' l->Hold N0 W ex σ' m)(h:Reach T D N0 W f l):Reach T D N0 W f m:=by
 obtain ⟨ex,σ1,h1,h2⟩:=h; exact ⟨ex,σ1,H _ _ h1,h2⟩
theorem Hold.low{M:Nat}{l:List (Ex × SS)}(hN:N0<=M)(hL:Low N0 W ρ')(h:Hold M ρ' e Z l):Hold N0 W e Z l:=by
 obtain ⟨s,r,h1,h2,h3,h4⟩:=h;exact ⟨s,r,h1,h2,by omega,hL.trans h4 hN⟩
theorem Reach.low{M:Nat}{f:Nat->CB->Option (Ex × St)}{l:List (Ex × SS)}(hN:N0<=M)(hL:Low N0 W ρ')(h:Reach T D M ρ' f l):Reach T D N0 W f l:=by
 obtain ⟨ex,σ1,h1,h2⟩:=h; exact ⟨ex,σ1,h1.low hN hL,h2⟩
theorem Ext.low(h:Ext s s' W ρ')(hN:N0<=s.iv.length):Low N0 W ρ':=λx hx=>h.eq x (by omega)
def ZJ(T:Nat->Option CF)(D N0:Nat)(f:Nat->CB->St->Option (Ex × St))(fa:SS->Option (List (Ex × SS))):Prop:=∀ s W Z outs,Sat s W Z->N0<=s.iv.length->fa s=some outs->Reach T D N0 W (λL c=>f L c Z) outs
theorem zas{body:St->Option (Ex × St)}(h:body (norm Z)=some (.normal,σ1)):nS body norm (n+1) Z=nS body norm n σ1:=by simp [nS,h]
theorem zaD{body:St->Option (Ex × St)}(he:e≠.normal)(h:body (norm Z)=some (e,σ1)):nS body norm (n+1) Z=some (e,σ1):=by
 grind [nS]
def Ends(T:Nat->Option CF)(D:Nat)(body:Nat->CB->St->Option (Ex × St))(norm:St->St)(k:Nat)(Z:St)(e:Ex)(σ':St):Prop:=Evr T D (λL c=>∀ n,k<=n->nS (body L c) norm n Z=some (e,σ'))
theorem Ends.loop(h:Ends T D body norm k Z e σ'):Evr T D (λL c=>nS (body L c) norm L Z=some (e,σ')):=
 (Evr.and h (Evr.big (P:=λL _=>k<=L) k λL c h=>h)).imp λL c h=>h.1 L h.2
theorem Ends.here(he:e≠.normal)(h:Evr T D (λL c=>body L c (norm Z)=some (e,σ'))):Ends T D body norm 1 Z e σ':=
 h.imp λL c h n hn=>by
  obtain ⟨m,rfl⟩:∃ m,n=m+1:=⟨n-1,by omega⟩;exact zaD he h
theorem Ends.next(h:Evr T D (λL c=>body L c (norm Z)=some (.normal,σ1)))(h':Ends T D body norm k σ1 e σ'):Ends T D body norm (k+1) Z e σ':=
 (Evr.and h h').imp λL c h n hn=>by
  obtain ⟨m,rfl⟩:∃ m,n=m+1:=⟨n-1,by omega⟩;rw [zas h.1]; exact h.2 m (by omega)
theorem TR{body:Nat->CB->St->Option (Ex × St)}{norm:St->St}{ba:SS->Option (List (Ex × SS))}{na:SS->SS}(hb:ZJ T D N0 body ba)
  (hn:∀ s W Z,Sat s W Z->Sat (na s) W (norm Z)) (hl:∀ s,(na s).iv=s.iv):∀ {n:Nat} {s:SS} {W:Nat->Int} {Z:St} {outs:List (Ex × SS)},Sat s W Z->N0<=s.iv.length->PU N0 ba na n s=some outs->∃ e σ' k,Hold N0 W e σ' outs/\Ends T D body norm k Z e σ'
 | 0,s,W,Z,outs,S,hN,h=>by cases h
 | n+1,s,W,Z,outs,S,hN,h=>by
  unfold PU at h;split at h
  ·rename_i o1 h1;split at h
   ·rename_i r h2;cases h;obtain ⟨e,σ1,⟨s1,ρ1,m1,S1,n1,l1⟩,ev⟩:=hb _ _ _ _ (hn _ _ _ S) (by rw [hl]; exact hN) h1;by_cases he:e=.normal
    ·subst he;obtain ⟨y,hy,hm⟩:=z8 h2 s1 (rq m1);obtain ⟨e2,σ2,k,H2,E2⟩:=TR hb hn hl S1 n1 hy;exact ⟨e2,σ2,k+1,(H2.low (Wah _) l1).imp λs h=>Wbw _ (hm _ h),Ends.next ev E2⟩
    ·exact ⟨e,σ1,1,⟨s1,ρ1,Wbv _ (uo m1 he),S1,n1,l1⟩,Ends.here he ev⟩
   ·cases h
  ·cases h
theorem zbZ(S:Sat s W Z){up:Bool}(h:Gi s th x up=true)(hx:N0<=x):(if up then W x+1<=wj N0 th W x else wj N0 th W x+1<=W x):=by
 unfold Gi at h;split at h
 ·rename_i e he;rw [SA he hx];split at h
  ·have:=S.le h;rw [iH,f5,sB] at this;rw [if_pos rfl]; omega
  ·have:=S.le h;rw [iH,f5,sB] at this;rw [if_neg (by simp)]; omega
 ·cases h
theorem Wa{l:List SS}:∀ {n:Nat} {x:Nat} {up:Bool},Ve N0 j l n=some (x,up)->LI N0 j l x up=true
 | 0,x,up,h=>by cases h
 | n+1,x,up,h=>by
  unfold Ve at h;split at h
  ·grind
  ·split at h
   ·grind
   ·exact Wa h
theorem zeF{ba:SS->Option (List (Ex × SS))}(hb:ZJ T D j.iv.length body ba)(h1:ba j=some outs)(hN:N0<=j.iv.length)
  (hn:∀ s W Z,Sat s W Z->Sat (na s) W (norm Z)) (hl:∀ s,(na s).iv=s.iv)  {up:Bool} (hc:LI N0 j ((ug outs).map na) x up=true):∀ (m:Nat) {W:Nat->Int} {Z:St} (q:Int × Int),j.iv[x]?=some q->(if up then (q.2-W x).toNat<=m else (W x-q.1).toNat<=m)->Sat j W (norm Z)->∃ e σ' k,Hold N0 W e σ' (vv outs)/\Ends T D body norm k Z e σ':=by
 simp only [LI,WaG] at hc;obtain ⟨hx0,hx1,hc⟩:=hc;have hx0:=j2 hx0;have hx1:=Dz hx1;have one:∀ {W:Nat->Int} {Z:St} (q:Int × Int),j.iv[x]?=some q->Sat j W (norm Z)->(∃ e σ' k,Hold N0 W e σ' (vv outs)/\Ends T D body norm k Z e σ') ∨
   ∃ ρ1 σ1,Sat j ρ1 (norm σ1)/\Low N0 W ρ1/\(if up then W x+1<=ρ1 x/\ρ1 x<=q.2 else ρ1 x+1<=W x/\q.1<=ρ1 x)/\Evr T D (λL c=>body L c (norm Z)=some (.normal,σ1)):=by
  intro W Z q hq S;obtain ⟨e,σ1,⟨s1,ρ1,m1,S1,n1,l1⟩,ev⟩:=hb _ _ _ _ S (Wah _) h1;by_cases he:e=.normal
  ·subst he;have:=jY hc _ (WcC (rq m1));split at this
   ·rename_i th hth;have Sn:=hn _ _ _ S1;obtain ⟨Sj,_⟩:=Q2 Sn hth;have hcount:=zbZ Sn this hx0;have hb:=Sj.bnd x q hq;refine .inr ⟨_,σ1,Sj,Low.trans (M:=N0) (λy hy=>l1 y (by omega)) wA (Wah _),?_,ev⟩
    ·rw [l1 x hx1] at hcount
     grind
   ·cases this
  ·exact .inl ⟨e,σ1,1,Hold.low (M:=j.iv.length) hN .refl ⟨s1,ρ1,uo m1 he,S1,n1,l1⟩,Ends.here he ev⟩
 intro m
 induction m with
 | zero=>
  intro W Z q hq hm S;rcases one q hq S with h | ⟨ρ1,σ1,S1,hL,hlt,ev⟩
  ·exact h
  ·cases up <;> simp only [WaR,if_false,if_true] at hm hlt <;> omega
 | succ m ih=>
  intro W Z q hq hm S;rcases one q hq S with h | ⟨ρ1,σ1,S1,hL,hlt,ev⟩
  ·exact h
  ·obtain ⟨e,σ2,k,H,E⟩:=ih q hq (by grind) S1;exact ⟨e,σ2,k+1,H.low (Wah _) hL,Ends.next ev E⟩
theorem zc2{ba:Nat->SS->Option (List (Ex × SS))}(hb:ZJ T D j.iv.length body (ba j.iv.length))
  (hn:∀ s W Z,Sat s W Z->Sat (na s) W (norm Z)) (hl:∀ s,(na s).iv=s.iv) (h:Z3 N0 ba na s j=some outs) (S:Sat s W Z) (hN:N0<=s.iv.length):∃ e σ' k,Hold N0 W e σ' outs/\Ends T D body norm k Z e σ':=by
 unfold Z3 at h;split at h
 ·rename_i th hth;obtain ⟨Sj,hNj⟩:=Q2 (hn _ _ _ S) hth;split at h
  ·rename_i o1 h1;split at h
   ·rename_i h2;cases h;obtain ⟨e,σ1,⟨s1,ρ1,m1,S1,n1,l1⟩,ev⟩:=hb _ _ _ _ Sj (Wah _) h1;by_cases he:e=.normal
    ·subst he;have:=rq m1;rw [h2] at this; cases this
    ·exact ⟨e,σ1,1,Hold.low (M:=j.iv.length) hNj wA ⟨s1,ρ1,uo m1 he,S1,n1,l1⟩,Ends.here he ev⟩
   ·split at h
    ·rename_i r hr;cases h;have hc:=Wa (x:=r.1) (up:=r.2) hr;have hx1:r.1<j.iv.length:=by
      simp only [LI,WaG] at hc;exact Dz hc.2.1
     obtain ⟨e,σ2,k,H,E⟩:=zeF (N0:=N0) hb h1 hNj hn hl hc (if r.2 then (j.iv[r.1].2-wj N0 th W r.1).toNat else (wj N0 th W r.1-j.iv[r.1].1).toNat) _ (Wac hx1) (by cases r.2 <;> simp) Sj;exact ⟨e,σ2,k,H.low (Wah _) wA,E⟩
    ·cases h
  ·cases h
 ·cases h
theorem ze6{t:Nat}{v:V}(h:Z.t[t]?=some v):Z.put (some t) v=Z:=by
 unfold St.put;have:Z.t.set t v=Z.t:=by
  obtain ⟨hl,rfl⟩:=Wam.1 h;simp
 simp [this]
theorem Od(S:Sat s W Z){x:Src}{b:Bool}(hv:x.get Z=.sc (.bool b)):Sat (ZH s x b) W Z:=by
 cases x with
 | const v=>exact S
 | tmp t=>
  have:=S.put (some t) (G.ex (N:=s.iv.length) (W:=W) (.sc (.bool b)));have hw:Z.t[t]?=some (.sc (.bool b)):=by
   grind [Src.get]
  rw [ze6 hw] at this;exact this
theorem zbx(S:Sat s W Z){x:Src}{l:List (Bool × SS)}(h:Vo s x=some l):∃ b s1,(b,s1)∈l/\Sat s1 W Z/\s1.iv.length=s.iv.length/\x.get Z=.sc (.bool b):=by
 unfold Vo at h;have g:=S.src x;split at h
 ·rename_i b hx;rw [hx] at g;cases h;generalize x.get Z=v at g ⊢;cases g
  grind
 ·rename_i c hx;rw [hx] at g;simp at h;subst h;generalize hv:x.get Z=v at g ⊢;cases g with
  | cmp c hb=>
   cases hc:c.ev W with
   | true=>
    obtain ⟨s1,e1,S1,n1,_,_⟩:=S.assume (λb h=>S.dec h) hb hc;refine ⟨true,_,Wbv _ (by rw [e1]; exact WcF.2 rfl),?_,?_,rfl⟩
    ·exact Od S1 (by rw [hv,hc])
    ·cases x <;> exact n1
   | false=>
    obtain ⟨s1,e1,S1,n1,_,_⟩:=S.assume (Yc S) (WP hb) (by rw [Qh,hc]; rfl);refine ⟨false,_,Wbw _ (by rw [e1]; exact WcF.2 rfl),?_,?_,rfl⟩
    ·exact Od S1 (by rw [hv,hc])
    ·cases x <;> exact n1
 ·rename_i hx;rw [hx] at g;split at h
  ·rename_i t;cases h;generalize hv:Src.get Z (.tmp t)=v at g ⊢;cases g with
   | bool b=>
    have:=Od S hv;refine ⟨b,_,?_,this,rfl,rfl⟩;cases b <;> simp [ZH]
  ·cases h
 ·cases h
end
end
section
variable {c:CB}{L:Nat}{a:CC}{e:Ex}
section
variable {s s' j:SS} {W ρ' ρj:Nat->Int} {Z σ':St} {T:Nat->Option CF} {D:Nat} {cb:ACB} {N0 Nj:Nat} {th:Th}
theorem zat{b:CC}(h:run c 0 L a Z=some (.normal,σ')):run c 0 L (.seq a b) Z=run c 0 L b σ':=by simp [run,h]
theorem zcd{b:CC}(he:e≠.normal)(h:run c 0 L a Z=some (e,σ')):run c 0 L (.seq a b) Z=some (e,σ'):=by
 grind [run]
theorem zbd{id:Nat}(h:run c 0 L a Z=some (e,σ')):run c 0 L (.block id a) Z=some (Z5 id e,σ'):=by
 simp [run,h,Z5];cases e with
 | normal=>rfl
 | ret=>rfl
 | exit j=>
  simp only;by_cases hj:j=id
  ·subst hj; simp
  ·rw [if_neg hj];have:Wae j id=false:=by cases hb:Wae j id with
    | true=>exact absurd (Wao hb) hj
    | false=>rfl
   rw [this]
theorem zfq(hcb:Oy T D cb)(md:MD):∀ (cc:CC) (i N0:Nat),ZJ T D N0 (λL c=>run c 0 L cc) (uX cb md cc i N0):=by
 intro cc
 induction cc with
 | skip=>
  intro i N0 s W Z outs S hN h;cases h;exact ⟨.normal,Z,⟨s,W,by simp,S,hN,.refl⟩,Evr.all λL c=>rfl⟩
 | bD ops=>
  intro i N0 s W Z outs S hN h;simp [uX] at h;obtain ⟨l,hl,rfl⟩:=h;obtain ⟨s1,m1,ρ1,σ1,S1,E1,ev⟩:=XI hcb S hl;exact ⟨.normal,σ1,Es ⟨s1,ρ1,WcC m1,S1,Nat.le_trans hN E1.le,E1.low hN⟩,ev.r.imp λL c h=>by simp only [run,h]; rfl⟩
 | bp fz ops=>
  intro i N0 s W Z outs S hN h;simp [uX] at h;split at h
  ·rename_i s0 h0;obtain ⟨S0,e0⟩:=Cu S h0;simp at h;obtain ⟨l,hl,rfl⟩:=h;obtain ⟨s1,m1,ρ1,σ1,S1,E1,ev⟩:=X3 hcb S0 hl;have hN0:N0<=s0.iv.length:=by rw [e0]; exact hN
   exact ⟨.normal,σ1,Es ⟨s1,ρ1,WcC m1,S1,Nat.le_trans hN0 E1.le,E1.low hN0⟩,ev.r.imp λL c h=>by simp only [run,h]; rfl⟩
  ·cases h
 | seq a b iha ihb=>
  intro i N0 s W Z outs S hN h;simp only [uX] at h;split at h
  ·rename_i o1 h1;split at h
   ·rename_i r h2;cases h;obtain ⟨e,σ1,⟨s1,ρ1,m1,S1,n1,l1⟩,ev⟩:=iha _ _ _ _ _ _ S hN h1;by_cases he:e=.normal
    ·subst he;obtain ⟨y,hy,hm⟩:=z8 h2 s1 (rq m1);obtain ⟨e2,σ2,H2,ev2⟩:=ihb _ _ _ _ _ _ S1 n1 hy;exact ⟨e2,σ2,(H2.low (Wah _) l1).imp λs h=>Wbw _ (hm _ h),(Evr.and ev ev2).imp λL c h=>(zat h.1).trans h.2⟩
    ·exact ⟨e,σ1,⟨s1,ρ1,Wbv _ (uo m1 he),S1,n1,l1⟩,ev.imp λL c h=>zcd he h⟩
   ·cases h
  ·cases h
 | cond x a b iha ihb=>
  intro i N0 s W Z outs S hN h;simp only [uX] at h;split at h
  ·rename_i l hl;simp only [Wag] at h;obtain ⟨o,ho,rfl⟩:=h;obtain ⟨t,s1,m1,S1,e1,hv⟩:=zbx S hl;obtain ⟨y,hy,hm⟩:=z8 ho _ m1;have hN1:N0<=s1.iv.length:=by rw [e1]; exact hN
   cases t with
   | true=>
    obtain ⟨e,σ1,H,ev⟩:=iha _ _ _ _ _ _ S1 hN1 hy;exact ⟨e,σ1,Es (H.imp λs h=>hm _ h),ev.imp λL c h=>by simp [run,hv]; exact h⟩
   | false=>
    obtain ⟨e,σ1,H,ev⟩:=ihb _ _ _ _ _ _ S1 hN1 hy;exact ⟨e,σ1,Es (H.imp λs h=>hm _ h),ev.imp λL c h=>by simp [run,hv]; exact h⟩
  ·cases h
 | block id a iha=>
  intro i N0 s W Z outs S hN h;simp only [uX,Wag] at h;obtain ⟨o,ho,rfl⟩:=h;obtain ⟨e,σ1,⟨s1,ρ1,m1,q⟩,ev⟩:=iha _ _ _ _ _ _ S hN ho;exact ⟨_,σ1,Ig ⟨s1,ρ1,WcC (f:=λp:Ex × SS=>(Z5 id p.1,p.2)) m1,q⟩,ev.imp λL c h=>zbd h⟩
 | loop kt kb a iha=>
  intro i N0 s W Z outs S hN h;simp only [uX] at h;have hn:∀ s W Z,Sat s W Z->Sat (LN kt kb s) W (fF 0 kt kb Z):=λs W Z S=>Wg S kt kb;split at h
  ·split at h
   ·rename_i j hj;simp only [Wag] at h;obtain ⟨o,ho,rfl⟩:=h;obtain ⟨e,σ1,k,H,E⟩:=zc2 (norm:=fF 0 kt kb) (iha (i+1) j.iv.length) hn (λs=>rfl) ho S hN;exact ⟨e,σ1,Ig H,E.loop⟩
   ·cases h
  ·simp only [Wag] at h;obtain ⟨o,ho,rfl⟩:=h;obtain ⟨e,σ1,k,H,E⟩:=TR (norm:=fF 0 kt kb) (iha (i+1) N0) hn (λs=>rfl) S hN ho;exact ⟨e,σ1,Ig H,E.loop⟩
 | mask kt kb=>
  intro i N0 s W Z outs S hN h;cases h;exact ⟨.normal,_,⟨_,W,by simp,Wg S kt kb,hN,.refl⟩,Evr.all λL c=>rfl⟩
 | exit id=>
  intro i N0 s W Z outs S hN h;cases h;exact ⟨_,Z,⟨s,W,by simp,S,hN,.refl⟩,Evr.all λL c=>rfl⟩
 | ret=>
  intro i N0 s W Z outs S hN h;cases h;exact ⟨_,Z,⟨s,W,by simp,S,hN,.refl⟩,Evr.all λL c=>rfl⟩
 | fork p c a b=>
  intro i N0 s W Z outs S hN h;cases h
end
end
section
variable {v:V}{t:Nat}{a:A}{b:List B}
section
variable {s s' j:SS} {W ρ' ρj:Nat->Int} {Z σ':St} {T:Nat->Option CF} {D:Nat} {cb:ACB} {N0 Nj:Nat} {th:Th}
def IsRes(v:V):Prop:=(∃ x,v=.sc x)∨(∃ cs,v=.agg cs)∨(∃ sz es,v=.sl sz es)∨∃ sz es,v=.gs sz es
def Clean(v:V):Prop:=Pl v/\∀ vs,v≠.ah vs
theorem IsRes.clean(h:IsRes v):Clean v:=by
 rcases h with ⟨_,rfl⟩ | ⟨_,rfl⟩ | ⟨_,_,rfl⟩ | ⟨_,_,rfl⟩ <;> exact ⟨⟨rfl,λg=>rfl⟩,λvs h=>by cases h⟩
theorem IsRes.tmp(h:IsRes v)(e:Z.t.getD t .ae=v):fD 0 Z (.tmp t)=some v/\fD 0 Z (.aN t)=some v/\iG 0 Z.b v=[]:=by
 simp only [fD,e];rcases h with ⟨_,rfl⟩ | ⟨_,rfl⟩ | ⟨_,_,rfl⟩ | ⟨_,_,rfl⟩ <;> exact ⟨rfl,rfl,rfl⟩
theorem R5{q sz:Nat}{es:Ls}(h:Nat.ble 2 q=false):IsRes (mkL q sz es):=by
 have:=JP h
 match q,this with
 | 0,_=>exact .inr (.inr (.inl ⟨_,_,rfl⟩))
 | 1,_=>exact .inr (.inr (.inr ⟨_,_,rfl⟩))
theorem zew{N:Nat}(g:G N W a v)(h:Ki a=true):IsRes v:=by
 cases g with
 | int k e hb=>exact .inl ⟨_,rfl⟩
 | iv k lo hi n hb=>exact .inl ⟨_,rfl⟩
 | cmp c hb=>exact .inl ⟨_,rfl⟩
 | bool b=>exact .inl ⟨_,rfl⟩
 | str s=>exact .inl ⟨_,rfl⟩
 | agg cs vs hl hh=>exact .inr (.inl ⟨_,rfl⟩)
 | ak q sz n row es hn hl hr hh=>grind [A.hard,R5,Ki]
 | ai q sz lo hi row es hl hr hh=>grind [A.hard,R5,Ki]
 | am q sz rows es hl hr hh=>grind [A.hard,R5,Ki]
 | _=>cases h
theorem zb8(h:Ki a=true):CK a=[]:=by
 cases a <;> first | rfl | cases h
structure ResOk (s:SS) (W:Nat->Int) (Z:St) (r:RV) (a:A) (v:V):Prop where
 one:fD 0 Z r=some v
 g:G s.iv.length W a v
 cl:Clean v
 gone:∀ t,r.slot=some t->CK (s.t.getD t (.ex .ae))=iG 0 Z.b (Z.t.getD t .ae)
theorem PJ(S:Sat s W Z)(e:s.t.getD t (.ex .ae)=a)(h:Ki a=true):∃ v,ResOk s W Z (.tmp t) a v/\ResOk s W Z (.aN t) a v:=by
 have g:G s.iv.length W a (Z.t.getD t .ae):=by rw [<- e]; exact S.src (.tmp t)
 have r:=zew g h;obtain ⟨q1,q2,q3⟩:=r.tmp rfl;have gn:∀ u,some t=some u->CK (s.t.getD u (.ex .ae))=iG 0 Z.b (Z.t.getD u .ae):=λu hu=>by grind [zb8]
 exact ⟨_,⟨q1,g,r.clean,gn⟩,⟨q2,g,r.clean,gn⟩⟩
theorem Yi(S:Sat s W Z){x:Value}(e:s.t.getD t (.ex .ae)=.ex (.sc x)):∃ v,ResOk s W Z (.tmp t) (.ex (.sc x)) v/\ResOk s W Z (.aN t) (.ex (.sc x)) v:=by
 have g:G s.iv.length W (.ex (.sc x)) (Z.t.getD t .ae):=by rw [<- e]; exact S.src (.tmp t)
 have r:IsRes (Z.t.getD t .ae):=by
  generalize Z.t.getD t .ae=w at g;cases g; exact .inl ⟨_,rfl⟩
 obtain ⟨q1,q2,q3⟩:=r.tmp rfl;have gn:∀ u,some t=some u->CK (s.t.getD u (.ex .ae))=iG 0 Z.b (Z.t.getD u .ae):=λu hu=>by cases hu; rw [q3,e]; rfl
 exact ⟨_,⟨q1,g,r.clean,gn⟩,⟨q2,g,r.clean,gn⟩⟩
theorem XC{u:V}(h:v.plain=some u):Clean u:=by
 cases v with
 | fn f caps=>cases caps with
  | nil=>cases h; exact ⟨⟨rfl,λg=>rfl⟩,λvs h=>by cases h⟩
  | cons c cs=>cases h
 | _=>first | (cases h; done) | (cases h; exact ⟨⟨rfl,λg=>rfl⟩,λvs h=>by cases h⟩)
theorem Yz(S:Sat s W Z){r:RV}(h:NI s r=some a):∃ v,ResOk s W Z r a v:=by
 cases r with
 | tmp t=>
  simp only [NI] at h;have gt:G s.iv.length W (s.t.getD t (.ex .ae)) (Z.t.getD t .ae):=S.src (.tmp t);split at h
  ·rename_i id off len sz he;rw [he] at gt;generalize hw:Z.t.getD t .ae=w at gt;cases gt with
   | own id o m off' a7 sz ho hm h1 h2=>
    split at h
    ·rename_i n cs e1 e2 e3;have e1:=lit?_ok (W:=W) e1;have e2:=lit?_ok (W:=W) e2;obtain ⟨vs,hvs,gv⟩:=nK S e3;split at h
     ·rename_i hc;cases h;simp only [WaG,WbA,Wbx] at hc;obtain ⟨c1,c2,c3,c4⟩:=hc;have hn:n.toNat=a7:=by omega
      have ho:off'=0:=by omega
      subst ho;have hlen:=gv.1;refine ⟨.fr sz (cz sz n.toNat vs),⟨?_,pV (q:=2) (ua gv),⟨⟨rfl,λg=>rfl⟩,λvs h=>by cases h⟩,λu hu=>?_⟩⟩
      ·simp only [fD,hw];rw [if_pos (WaK _),if_pos ⟨trivial,Dz c1⟩];simp only [hvs];rw [if_pos,hn];rcases c4 with q | q
       ·left;intro hz;have:isZ n=true:=by
         have:n=0:=by omega
         subst this; rfl
        rw [this] at q; cases q
       ·right;rw [<- hlen]; exact Wao q
      ·cases hu; rw [he,hw]; rfl
     ·cases h
    ·cases h
  ·rename_i id off he;rw [he] at gt;generalize hw:Z.t.getD t .ae=w at gt;cases gt with
   | ptr id o off' ho h1=>
    split at h
    ·rename_i p c cs e1 e3;have e1:=lit?_ok (W:=W) e1;obtain ⟨vs,hvs,gv⟩:=nK S e3;have ho:off'=0:=by omega
     subst ho;have hne:vs.length≠0:=by rw [<- gv.1]; simp
     have gn:∀ u,RV.slot (.tmp t)=some u->CK (s.t.getD u (.ex .ae))=iG 0 Z.b (Z.t.getD u .ae):=λu hu=>by cases hu; rw [he,hw]; rfl
     split at h
     ·cases h;refine ⟨.bx true vs,⟨?_,.bx _ _ _ gv.1 gv.2,⟨⟨rfl,λg=>rfl⟩,λvs h=>by cases h⟩,gn⟩⟩;simp only [fD,hw];rw [if_pos ⟨trivial,WaK _⟩];simp only [hvs];rw [if_pos hne]; rfl
     ·simp only [Wag] at h;obtain ⟨bs,hb,rfl⟩:=h;obtain ⟨ws,h3,g3⟩:=AJ S gv hb;refine ⟨.bx false ws,⟨?_,.bx _ _ _ g3.1 g3.2,⟨⟨rfl,λg=>rfl⟩,λvs h=>by cases h⟩,gn⟩⟩;simp only [fD,hw];rw [if_pos ⟨trivial,WaK _⟩];simp only [hvs];rw [if_pos hne];simp only [WaR,if_false,h3,Wbl]
    ·cases h
  ·rename_i v he;split at h
   ·rename_i x;cases h;obtain ⟨v,q,_⟩:=Yi S he;exact ⟨v,q⟩
   ·cases h
  ·split at h
   ·rename_i hh;cases h;obtain ⟨v,q,_⟩:=PJ S rfl hh;exact ⟨v,q⟩
   ·cases h
 | aN t=>
  grind [NI,PJ,Yi]
 | cell t agg n=>
  simp only [NI] at h;have gt:G s.iv.length W (s.t.getD t (.ex .ae)) (Z.t.getD t .ae):=S.src (.tmp t);split at h
  ·rename_i id off he;rw [he] at gt;generalize hw:Z.t.getD t .ae=w at gt;cases gt with
   | ptr id o off' ho h1=>
    split at h
    ·rename_i p cs e1 e3;have e1:=lit?_ok (W:=W) e1;obtain ⟨vs,hvs,gv⟩:=nK S e3;have ho:off'=0:=by omega
     subst ho;have gn:∀ u,RV.slot (.cell t agg n)=some u->CK (s.t.getD u (.ex .ae))=iG 0 Z.b (Z.t.getD u .ae):=λu hu=>by cases hu
     split at h
     ·split at h
      ·rename_i hc;simp only [WaG,Wbx] at hc;have c1:vs.length=n:=by rw [<- gv.1]; exact Wao hc.1
       have c2:n≠0:=λh=>by rw [h] at hc; simp at hc
       split at h
       ·cases h;refine ⟨.agg vs,⟨?_,.agg _ _ gv.1 gv.2,⟨⟨rfl,λg=>rfl⟩,λvs h=>by cases h⟩,gn⟩⟩;simp only [fD,hw,hvs];rw [if_pos trivial,if_pos ⟨trivial,c1,c2⟩]; rfl
       ·simp only [Wag] at h;obtain ⟨bs,hb,rfl⟩:=h;obtain ⟨ws,h3,g3⟩:=AJ S gv hb;refine ⟨.agg ws,⟨?_,.agg _ _ g3.1 g3.2,⟨⟨rfl,λg=>rfl⟩,λvs h=>by cases h⟩,gn⟩⟩;simp only [fD,hw,hvs];rw [if_pos trivial,if_pos ⟨trivial,c1,c2⟩];simp only [WaR,if_false,h3,Wbl]
      ·cases h
     ·split at h
      ·rename_i c cs hc;have hn:n=1:=Wao hc;cases vs with
       | nil=>have:=gv.1; simp at this
       | cons v vs=>
        obtain ⟨u,hu,gu,_⟩:=j3 gv.head h;refine ⟨u,⟨?_,gu,XC hu,gn⟩⟩;simp only [fD,hw,hvs];rw [if_neg (by simp),if_pos ⟨hn,trivial⟩];exact hu
      ·cases h
    ·cases h
  ·cases h
 | aC t n p=>cases h
theorem Tx{n0:Nat}:∀ {rs:List RV},jJ (λr=>r.low n0) rs=true->nh n0 rs Z=some (Z,rs)
 | [],h=>rfl
 | r::rs,h=>by
  have h1:r.low n0=true:=jY h r (Wcy ..);have ih:nh n0 rs Z=some (Z,rs):=Tx (by
   grind [jJ])
  cases r with
  | aC t n p=>cases h1
  | tmp t=>grind [nh]
  | aN t=>grind [nh]
  | cell t a n=>grind [nh]
theorem J3:∀ {rs:List RV},(∀ r∈rs,∀ t,r.slot=some t->CK (s.t.getD t (.ex .ae))=iG 0 Z.b (Z.t.getD t .ae))->LK s rs=om 0 Z rs
 | [],h=>rfl
 | r::rs,h=>by
  simp only [LK,om,J3 (λr hr=>h r (WcB _ hr))]
  grind
theorem Ya(S:Sat s W Z):∀ {rs:List RV} {av:List A},nZ (NI s) rs=some av->∃ vs,rs.mapM (fD 0 Z)=some vs/\GL s.iv.length W av vs/\(∀ v∈vs,Clean v)/\∀ r∈rs,∀ t,r.slot=some t->CK (s.t.getD t (.ex .ae))=iG 0 Z.b (Z.t.getD t .ae)
 | [],av,h=>by cases h; exact ⟨[],rfl,All2.nil,⟨λv hv=>(by cases hv),λr hr=>(by cases hr)⟩⟩
 | r::rs,av,h=>by
  unfold nZ at h;split at h
  ·rename_i b l h1 h2;cases h;obtain ⟨v,hv⟩:=Yz S h1;obtain ⟨vs,q1,q2,q3,q4⟩:=Ya S h2;refine ⟨v::vs,by simp [hv.one,q1],.cons hv.g q2,λw hw=>?_,λq hq=>?_⟩
   ·rcases WbL.1 hw with rfl | hw
    ·exact hv.cl
    ·exact q3 _ hw
   ·rcases WbL.1 hq with rfl | hq
    ·exact hv.gone
    ·exact q4 _ hq
  ·cases h
def Wv(v:V):Prop:=mD v=[]/\∀ g,oQ g v=v
theorem Clean.r(h:Clean v):Wv v:=by
 obtain ⟨⟨h1,h2⟩,h3⟩:=h;cases v with
 | ah vs=>exact absurd rfl (h3 vs)
 | _=>exact ⟨h1,h2⟩
theorem zbJ{vs:List V}(h:∀ v∈vs,Clean v):Wv (.ah vs):=by
 constructor
 ·simp [mD]; exact λv hv=>(h v hv).1.1
 ·intro g;simp only [oQ];congr 1;exact (WcE λv hv=>(h v hv).1.2 g).trans (List.map_id' vs)
theorem Nm(h:dL v=[]):jK b v=[]:=by
 unfold jK
 grind [dL]
theorem zaS(h:mD v=[]):HP b v=[]:=by
 unfold HP;split
 ·rename_i vs;simp [mD] at h ⊢
  grind [Nm,kU]
 ·rename_i hn;have:dL v=[]:=by cases v <;> first | exact h | exact absurd rfl (hn _)
  simp only [kU,this,Nm this]; rfl
theorem zbU(S:Sat s W Z){rs:List RV}(h:Rs s rs=some a):∃ v,Bd 0 Z rs=some (v,[])/\G s.iv.length W a v:=by
 unfold Rs at h;split at h
 ·rename_i hc;simp at hc;obtain ⟨c1,c2,c3⟩:=hc;have key:∃ v,results 0 Z rs=some v/\G s.iv.length W a v/\Wv v:=by
   unfold results;split at h
   ·rename_i r;obtain ⟨v,hv⟩:=Yz S h;refine ⟨v,?_,hv.g,hv.cl.r⟩;rw [<- J3 (s:=s) (λq hq=>by rw [WcF.1 hq]; exact hv.gone),c1,c2];exact hv.one
   ·rename_i n1;simp at h;obtain ⟨av,ha,rfl⟩:=h;obtain ⟨vs,q1,q2,q3,q4⟩:=Ya S ha;refine ⟨.ah vs,?_,.ah _ _ q2.1 q2.2,zbJ q3⟩
    grind [J3]
  obtain ⟨v,hv,g,k1,k2⟩:=key;refine ⟨v,?_,g⟩;have hl:jJ (λr=>r.low Z.t.length) rs=true:=by rw [<- S.ts.1]; exact c3
  have e0:lQ Z.b 0 v=[]:=by grind [lQ,zaS]
  simp only [Bd,Tx hl,GR,hv,Wab,Wbz,e0,vR,mu,k2];rfl
 ·cases h
theorem za2{N:Nat}{nt:Nat}{args:List A}{ws:List V}(h:GL 0 W args ws):Sat (VM nt args) W (enter nt ws []):=by
 refine ⟨λx q hq=>(by simp [VM] at hq),λf hf=>(by cases hf),λf hf=>(by cases hf),?_,?_⟩
 ·refine All2.append h ?_;rw [h.1];exact All2.rep (.ex _) _
 ·exact All2.rep (R:=GB 0 W) .gone nt
theorem Yq{α Y:Type}{f:α->Option Y}:∀ {l:List α} {r:List Y},nZ f l=some r->∀ x∈l,∃ y,f x=some y/\y∈r
 | [],r,h,x,hx=>by cases hx
 | a::l,r,h,x,hx=>by
  unfold nZ at h;split at h
  ·rename_i b m h1 h2;cases h;rcases WbL.1 hx with rfl | hx
   ·grind
   ·obtain ⟨y,hy,hm⟩:=Yq h2 x hx
    grind
  ·cases h
def d9(T:Nat->Option CF)(D:Nat)(i:Inst):Prop:=∀ ws,(∀ N W,GL N W i.args ws)->∃ v,(∀ N W,G N W i.res v)/\Evt T D (λc=>c i.g ws []=some (v,[]))
theorem Evt.le{P:CB->Prop}{D':Nat}(hD:D<=D')(h:Evt T D P):Evt T D' P:=by
 obtain ⟨L0,h⟩:=h; exact ⟨L0,λL hL n hn=>h L hL n (by omega)⟩
theorem N9{D':Nat}(hD:D<=D'):∀ {is:List Inst},(∀ i∈is,d9 T D i)->∀ {g:Nat} {args:List A} {r:A},Pc g args is=some r->∀ ws,(∀ N W,GL N W args ws)->∃ v,(∀ N W,G N W r v)/\Evt T D' (λc=>c g ws []=some (v,[]))
 | [],H,g,args,r,h,ws,hw=>by cases h
 | i::is,H,g,args,r,h,ws,hw=>by
  unfold Pc at h;split at h
  ·rename_i hc;cases h;simp only [WaG] at hc;have S0:Sat ⟨[],[],[],[]⟩ (λ_=>0) ⟨[],[]⟩:=⟨λx q hq=>(by simp at hq),λf hf=>(by cases hf),λf hf=>(by cases hf),.nil,.nil⟩;obtain ⟨v,q1,q2⟩:=H i (Wcy ..) ws (λN W=>All2.up (R:=λa b=>SS.up ⟨[],[],[],[]⟩ a b=true) (S:=G 0 (λ_=>0)) (T:=G N W) (λa b c hab hg=>S0.up hab hg) (An hc.2) (hw 0 _));rw [Wao hc.1] at q2;exact ⟨v,q1,q2.le hD⟩
  ·exact N9 hD (λi hi=>H i (WcB _ hi)) h ws hw
theorem zem{md:Nat->MD}{is:List Inst}(H:∀ i∈is,d9 T D i):∀ d,Oy T (D+d) (ZT T md is d):=by
 intro d
 induction d with
 | zero=>intro g args r h ws hw; exact N9 (Wah _) H h ws hw
 | succ d ih=>
  intro g args r h ws hw;unfold ZT at h;split at h
  ·rename_i r' hr;cases h;exact N9 (by omega) H hr ws hw
  ·split at h
   ·rename_i c hf hT;split at h
    ·rename_i outs ho;split at h
     ·rename_i l hl;split at h
      ·rename_i j hj;split at h
       ·rename_i hup;cases h;obtain ⟨e,σ1,⟨s1,ρ1,m1,S1,_,_⟩,ev⟩:=zfq ih (md g) c.body 0 0 _ _ _ _ (za2 (N:=0) (nt:=c.ntmps) (hw 0 (λ_=>0))) (WaK _) ho;obtain ⟨y,hy,hm⟩:=Yq hl _ m1;have hex:(∀ k,e≠.exit k)/\∃ a,Rs s1 c.res=some a/\y=(s1,a):=by
         cases e with
         | exit k=>cases hy
         | normal=>simp at hy; grind
         | ret=>simp at hy; grind
        obtain ⟨hne,a,ha,rfl⟩:=hex;obtain ⟨v,hv,gv⟩:=zbU S1 ha;have hu:=jY hup _ hm;refine ⟨v,λN W=>S1.up hu gv,?_⟩;obtain ⟨L0,ev⟩:=ev;refine ⟨L0,λL hL n hn=>?_⟩;obtain ⟨m,rfl⟩:∃ m,n=m+1:=⟨n-1,by omega⟩;have:=ev L hL m (by omega);simp only [tp,hf,evF,hT,List.length_nil] at this ⊢;have this:run (tp (evF T zJ L m)) 0 L c.body (enter c.ntmps ws [])=some (e,σ1):=this;rw [this];cases e with
        | exit k=>exact absurd rfl (hne k)
        | normal=>exact hv
        | ret=>exact hv
       ·cases h
      ·cases h
     ·cases h
    ·cases h
   ·cases h
end
end
section
variable {args:List V}{D':Nat}{i:Inst}
section
variable {T:Nat->Option CF} {D:Nat}
def OpP(T:Nat->Option CF)(D g L:Nat)(args:List V)(v:V):Prop:=∀ L',L<=L'->∀ n,D<=n->tp (evF T zJ L' n) g args []=some (v,[])
noncomputable def opD (T:Nat->Option CF) (D g L:Nat):Dk:=λY args bor k=>match bor with
 | []=>@dite _ (∃ v,OpP T D g L args v) (Classical.propDecidable _) (λh=>k h.choose []) (λ_=>none)
 | _=>none
theorem zdN{g L L':Nat}{v:V}(h:OpP T D g L args v)(hL:L<=L')(Y:Type)(k:KK Y):opD T D g L' Y args [] k=k v []:=by
 have hv:OpP T D g L' args v:=λM hM=>h M (by omega);have he:∃ v,OpP T D g L' args v:=⟨v,hv⟩;have:he.choose=v:=by
  have:=he.choose_spec L' (Wah _) D (Wah _);rw [hv L' (Wah _) D (Wah _)] at this;cases this; rfl
 simp only [opD];rw [dif_pos he,this]
theorem zaf{g L:Nat}{Y:Type}{bor:Bor}{k:KK Y}{r:Y}(h:opD T D g L Y args bor k=some r):bor=[]/\∃ v,OpP T D g L args v/\k v []=some r:=by
 unfold opD at h;split at h
 ·refine ⟨rfl,?_⟩;by_cases he:∃ v,OpP T D g L args v
  ·rw [dif_pos he] at h; exact ⟨_,he.choose_spec,h⟩
  ·rw [dif_neg he] at h; cases h
 ·cases h
theorem vM(g L:Nat):FOk T L g (opD T D g L) D:=by
 intro n hn Y args bor k r h;obtain ⟨rfl,v,hv,h⟩:=zaf h;exact ⟨v,[],hv L (Wah _) n hn,h⟩
theorem ro{L g:Nat}{d d':Dk}(h:FOk T L g d D')(hd:DK d' d):FOk T L g d' D':=λn hn Y args bor k r e=>h n hn Y args bor k r (hd _ _ _ _ _ e)
theorem As{α:Type}{acc:∀ (Y:Type),V->(α->Option Y)->Option Y}{mk:α->V}(ha:CE acc mk){g L:Nat}(args:List V){X:Dk}(hX:∀ Y b k,X Y [] b k=opD T D g L Y args b k) :
  DK (d0 λY k=>opD T D g L Y args [] λv _=>acc Y v λp=>k (mk p) []) X:=by
 intro Y a b k r e;obtain ⟨rfl,rfl,e⟩:=V0 e;rw [hX];have e:opD T D g L Y args [] (λv _=>acc Y v λp=>k (mk p) [])=some r:=e;obtain ⟨_,v,hv,e⟩:=zaf e;have q:=ha _ _ _ _ e; grind [zdN]
def AT2{α γ:Type}(A:∀ (Y:Type),V->(α->Option Y)->Option Y)(B:∀ (Y:Type),V->(γ->Option Y)->Option Y)(Y:Type)(v:V)(k:α × γ->Option Y):Option Y:=match v with
 | .ah [a,b]=>A Y a λx=>B Y b λy=>k (x,y)
 | _=>none
theorem zaF{α γ:Type}{A:∀ (Y:Type),V->(α->Option Y)->Option Y}{B:∀ (Y:Type),V->(γ->Option Y)->Option Y}{ma:α->V}{mb:γ->V}(ha:CE A ma)(hb:CE B mb):CE (AT2 A B) (λp=>.ah [ma p.1,mb p.2]):=by
 intro Y v k r h;unfold AT2 at h;split at h
 ·have q:=ha _ _ _ _ h; clear h; obtain ⟨x,rfl,h⟩:=q;have q:=hb _ _ _ _ h; grind
 ·cases h
theorem vw(h:d9 T D i){ws:List V}(hw:∀ N W,GL N W i.args ws):∃ v,(∀ N W,G N W i.res v)/\∃ L0,∀ L,L0<=L->∀ (Y:Type) (k:KK Y),opD T D i.g L Y ws [] k=k v []:=by
 obtain ⟨v,hv,L0,e⟩:=h ws hw;exact ⟨v,hv,L0,λL hL Y k=>zdN (L:=L0) (λL' hL' n hn=>e L' hL' n hn) hL Y k⟩
theorem YQ{g:Nat}(hD:D'<=D){args:List A}{res:A}{d:Nat->Dk}(hf:∀ L,FOk T L g (d L) D')(h:∀ ws,(∀ N W,GL N W args ws)->∃ v,(∀ N W,G N W res v)/\∃ L0,∀ L,L0<=L->d L (V × Bor) ws [] (λv b=>some (v,b))=some (v,[])):d9 T D ⟨g,args,res⟩:=by
 intro ws hw;obtain ⟨v,hv,L0,e⟩:=h ws hw;refine ⟨v,hv,L0,λL hL n hn=>?_⟩;obtain ⟨v',b',e1,e2⟩:=hf L n (by omega) _ _ _ _ _ (e L hL);cases e2; exact e1
theorem cH(hD:D<=D')(h:d9 T D i):d9 T D' i:=λws hw=>by
 obtain ⟨v,q1,q2⟩:=h ws hw; exact ⟨v,q1,q2.le hD⟩
def zb0(r:Option A)(a:A):Bool:=match r with
 | some r=>SS.up ⟨[],[],[],[]⟩ r a
 | none=>false
theorem eH{md:Nat->MD}{is:List Inst}(H:∀ i∈is,d9 T D i)(d:Nat)(hD:D+d<=D')(h:zb0 (ZT T md is d i.g i.args) i.res=true):d9 T D' i:=by
 unfold zb0 at h;split at h
 ·rename_i r hr;intro ws hw;obtain ⟨v,q1,q2⟩:=zem H d i.g i.args r hr ws hw;have S0:Sat ⟨[],[],[],[]⟩ (λ_=>0) ⟨[],[]⟩:=⟨λx q hq=>(by simp at hq),λf hf=>(by cases hf),λf hf=>(by cases hf),.nil,.nil⟩;exact ⟨v,λN W=>S0.up h (q1 _ _),q2.le hD⟩
 ·cases h
def zfF(g:Nat):List (Nat × MD)->MD
 | []=>[]
 | p::l=>match Wae g p.1 with
  | true=>p.2
  | false=>zfF g l
end
end
section
variable {v:V}{P:Nat->Prop}{α:Type}{i:Nat}{vs:List V}
variable {Y:Type}
def dG(l:List Int):Prop:=∀ n∈l,0<=n/\n<=255
def bts(l:List Int):List UInt8:=l.map λn=>UInt8.ofNat n.toNat
theorem IG:∀ (l:List Int),lV (eA .u8 l)=some (bts l)
 | []=>rfl
 | n::l=>by
  have:=IG l;simp only [eA,bts] at this;simp only [eA,bts,List.map_cons,lV,this,Wbl]
theorem pX(l:List Int)(k:ByteArray->Option Y):zX (eA .u8 l) k=k ⟨(bts l).toArray⟩:=by
 simp only [zX,IG]
theorem RO:∀ {a b:List Int},dG a->dG b->(bts a=bts b↔a=b)
 | [],[],_,_=>by simp [bts]
 | [],y::b,_,_=>by simp [bts]
 | x::a,[],_,_=>by simp [bts]
 | x::a,y::b,ha,hb=>by
  have hx:=ha x (by simp); have hy:=hb y (by simp);have ih:=RO (a:=a) (b:=b) (λz hz=>ha z (by simp [hz])) (λz hz=>hb z (by simp [hz]));simp only [bts,List.map_cons,List.cons.injEq] at ih ⊢;rw [ih];constructor
  ·rintro ⟨h1,h2⟩
   refine ⟨?_,h2⟩;have h1:=congrArg UInt8.toNat h1;simp only [UInt8.toNat_ofNat'] at h1;omega
  ·rintro ⟨rfl,rfl⟩; exact ⟨rfl,rfl⟩
theorem TT(l:List UInt8):(ByteArray.mk l.toArray).toList=l:=by
 have key:∀ (n i:Nat) (r:List UInt8),l.length-i=n->i<=l.length->ByteArray.toList.loop ⟨l.toArray⟩ i r=r.reverse++l.drop i:=by
  intro n
  induction n with
  | zero=>
   intro i r h1 h2;unfold ByteArray.toList.loop;rw [if_neg (by simp [ByteArray.size]; omega),List.drop_of_length_le (by omega),List.append_nil]
  | succ n ih=>
   intro i r h1 h2;unfold ByteArray.toList.loop;rw [if_pos (by simp [ByteArray.size]; omega),ih (i+1) _ (by omega) (by omega)];have hi:i<l.length:=by omega
   rw [WaM hi];simp [ByteArray.get!,Wac hi]
 have:=key l.length 0 [] (by omega) (by omega);simpa [ByteArray.toList] using this
theorem VN{a b:List Int}(ha:dG a)(hb:dG b):(ByteArray.toList ⟨(bts a).toArray⟩==ByteArray.toList ⟨(bts b).toArray⟩)=decide (a=b):=by
 rw [TT,TT];by_cases h:a=b
 ·subst h; simp
 ·rw [decide_eq_false h];exact beq_eq_false_iff_ne.2 λe=>h ((RO ha hb).1 e)
structure TkT where
 aA:List Int
 b:Int
 r:Int
def jC(t:TkT):List V:=[V.sl 1 (eA .u8 t.aA),V.sc (.int .i64 t.b),V.sc (.int .i64 t.r)]
structure OwT where
 h:List Int
 ix:Int
 val:Int
 aA:List Int
 ht:Int
 cb:Bool
 sp:Int
variable {w:OwT}
def gH(w:OwT):List V:=row .u8 w.h++[V.sc (.int .u32 w.ix)]
def Ir(w:OwT):List V:=[V.sc (.int .i64 w.val),V.sl 1 (eA .u8 w.aA),V.sc (.int .i64 w.ht),V.sc (.bool w.cb),V.sc (.int .i64 w.sp)]
def dC(w:OwT):List V:=gH w++Ir w
structure TkOk (t:TkT):Prop where
 s:dG t.aA
 l:t.aA.length<=1000
 b:1<=t.b/\t.b<=16777216
 r:0<=t.r/\t.r<=16777216
structure OwOk (w:OwT):Prop where
 hl:w.h.length=32
 hb:dG w.h
 ix:0<=w.ix/\w.ix<=4294967295
 s:dG w.aA
 l:w.aA.length<=1000
structure ScT where
 tk:List TkT
 ow:List OwT
def fE(s:ScT):List V:=[V.sl 3 (s.tk.map jC),V.sl 38 (s.ow.map dC)]
theorem i5(h:w.h.length=32):(gH w).length=33:=by simp [gH,fV,h]
theorem fM(h:w.h.length=32):(dC w).length=38:=by simp [dC,i5 h,Ir]
theorem kk(h:w.h.length=32)(j:Nat):(dC w)[33+j]?=(Ir w)[j]?:=by
 unfold dC;rw [Wal (by rw [i5 h]; omega),i5 h];congr 1; omega
theorem pZ(h:w.h.length=32):List.take 33 (dC w)=gH w:=by
 unfold dC; rw [<- i5 h,List.take_left]
theorem kK(h:w.h.length=32):List.take 38 (dC w)=dC w:=List.take_of_length_le (by rw [fM h]; omega)
theorem T1(h:w.h.length=32):List.drop 33 (dC w)=Ir w:=by
 unfold dC; rw [<- i5 h,List.drop_left]
theorem Su(k:IntKind)(l:List Int):(row k l).map V.ag=row k l:=by simp only [row,List.map_map]; rfl
theorem WY(w:OwT):(gH w).map V.ag=gH w:=by simp only [gH,List.map_append,Su]; rfl
theorem zT(w:OwT):(dC w).map V.ag=dC w:=by simp only [dC,List.map_append,WY]; rfl
theorem TG(s:ScT):List.take 2 (fE s)=fE s:=rfl
theorem Al(l:List TkT):∀ e∈l.map jC,e.length=3:=by
 intro e he; obtain ⟨t,_,rfl⟩:=List.mem_map.1 he; rfl
theorem DC{l:List OwT}(h:∀ w∈l,w.h.length=32):∀ e∈l.map dC,e.length=38:=by
 intro e he; obtain ⟨w,hw,rfl⟩:=List.mem_map.1 he; exact fM (h w hw)
theorem FI:∀ {a b c d:List V} {x y:Bool},a.length=c.length->iS a c=some x->iS b d=some y->iS (a++b) (c++d)=some (x&&y)
 | [],b,[],d,x,y,_,h1,h2=>by cases h1; simpa using h2
 | [],_,_::_,_,_,_,h,_,_=>by simp at h
 | _::_,_,[],_,_,_,h,_,_=>by simp at h
 | v::a,b,u::c,d,x,y,h,h1,h2=>by
  unfold iS at h1;split at h1
  ·rename_i e1 e2; cases e1
  ·rename_i k n xs k' m ys e1 e2;cases e1; cases e2;split at h1
   ·rename_i hk;rw [Wag] at h1;obtain ⟨z,hz,rfl⟩:=h1;have:=FI (b:=b) (d:=d) (by simpa using h) hz h2;simp only [List.cons_append,iS,if_pos hk,this,Wbl,Bool.and_assoc]
   ·cases h1
  ·cases h1
def ES(w v:OwT):Bool:=decide (w.h=v.h)&&decide (w.ix=v.ix)
theorem OW{v:OwT}(hw:w.h.length=32)(hv:v.h.length=32)(k:Bool->Option Y):eqC 33 (gH w) (gH v) k=k (ES w v):=by
 unfold eqC;rw [bT ⟨i5 hw,i5 hv⟩];have:iS (gH w) (gH v)=some (ES w v):=by
  refine FI (by rw [fV,fV,hw,hv]) (D4 .u8 _ _ (by rw [hw,hv])) ?_;simp only [iS,if_pos,Wbl,Bool.and_true];rfl
 rw [this]
def Fin2(P:Nat->Prop):Prop:=∃ L0,∀ L,L0<=L->P L
theorem Fin2.of(n:Nat)(h:∀ L,n<=L->P L):Fin2 P:=⟨n,h⟩
theorem Fin2.and{Q:Nat->Prop}(h:Fin2 P)(g:Fin2 Q):Fin2 (λL=>P L/\Q L):=by
 obtain ⟨a,h⟩:=h; obtain ⟨b,g⟩:=g;exact ⟨a+b,λL hL=>⟨h L (by omega),g L (by omega)⟩⟩
theorem Fin2.imp{Q:Nat->Prop}(H:∀ L,P L->Q L)(h:Fin2 P):Fin2 Q:=by
 obtain ⟨a,h⟩:=h; exact ⟨a,λL hL=>H L (h L hL)⟩
theorem Fin2.big(n:Nat)(h:Fin2 P):Fin2 (λL=>n<=L/\P L):=(Fin2.of n λL h=>h).and h
theorem zcX{l:List α}{p:α->Bool}(h:i<l.length):(l.drop i).all p=(p l[i]&&(l.drop (i+1)).all p):=by
 rw [WaM h]; rfl
theorem zc4{l:List α}{p:α->Bool}(h:i<l.length):(l.drop i).any p=(p l[i]||(l.drop (i+1)).any p):=by
 rw [WaM h]; rfl
theorem fm{f:α->List V}{l:List α}(h:i<l.length):(l.map f)[i]?=some (f l[i]):=by simp [h]
theorem up{n:Nat}(h:n<=1000000000):IntKind.wrap .i64 ((n:Int)+1)=((n+1:Nat):Int):=zbX h
section
variable {N:Nat} {W:Nat->Int}
theorem qh{k:IntKind}{lo hi:Int}(h:G N W (.iv k lo hi) v):∃ n,v=.sc (.int k n)/\lo<=n/\n<=hi:=by
 cases h with
 | iv k lo hi n h=>exact ⟨n,rfl,h⟩
theorem Ra{q sz:Nat}{lo hi:Int}{row:List A}(h:G N W (.ai q sz lo hi row) v):∃ es,v=mkL q sz es/\lo<=(es.length:Int)/\(es.length:Int)<=hi/\∀ r∈es,GL N W row r:=by
 generalize ha:A.ai q sz lo hi row=a at h;cases h <;> first | (cases ha; done) | skip
 rename_i es hl hr hh;cases ha;exact ⟨es,rfl,hl.1,hl.2,λr hr'=>⟨hr r hr',hh r hr'⟩⟩
theorem Cq{cs:List A}(h:G N W (.agg cs) v):∃ vs,v=.agg vs/\GL N W cs vs:=by
 generalize ha:A.agg cs=a at h;cases h <;> first | (cases ha; done) | skip
 rename_i vs hl hh;cases ha;exact ⟨vs,rfl,hl,hh⟩
theorem ta(h:GL N W [] vs):vs=[]:=WaT.1 h.1.symm
theorem hY{a:A}{av:List A}(h:GL N W (a::av) vs):∃ v r,vs=v::r/\G N W a v/\GL N W av r:=by
 cases vs with
 | nil=>have:=h.1; simp at this
 | cons v r=>exact ⟨v,r,rfl,h.2 0 _ _ rfl rfl,⟨by simpa using h.1,λi a b ha hb=>h.2 (i+1) a b (by simpa using ha) (by simpa using hb)⟩⟩
theorem G9:∀ {av bs:List A} {vs:List V},GL N W (av++bs) vs->∃ r s,vs=r++s/\GL N W av r/\GL N W bs s
 | [],bs,vs,h=>⟨[],vs,rfl,All2.nil,h⟩
 | a::av,bs,vs,h=>by
  obtain ⟨v,r,e,g,h0⟩:=hY h;subst e;obtain ⟨r,s,rfl,h1,h2⟩:=G9 h0;exact ⟨v::r,s,rfl,.cons g h1,h2⟩
theorem JS{k:IntKind}{lo hi:Int}:∀ {n:Nat} {vs:List V},GL N W (Wad n (.iv k lo hi)) vs->∃ l:List Int,vs=row k l/\l.length=n/\∀ x∈l,lo<=x/\x<=hi
 | 0,vs,h=>⟨[],ta h,rfl,by simp⟩
 | n+1,vs,h=>by
  obtain ⟨v,r,e,g,h2⟩:=hY h;subst e;obtain ⟨x,rfl,hx⟩:=qh g;obtain ⟨l,rfl,hl,hw⟩:=JS h2;exact ⟨x::l,rfl,by simp [hl],λy hy=>(WbL.1 hy).elim (λe=>e ▸ hx) (hw y)⟩
end
end
section
variable {T:Nat->Option CF}
def ovF:List (Nat × (Nat->Dk))->Nat->Nat->Option Dk
 | [],_,_=>none
 | p::l,L,g=>match Wae p.1 g with
  | true=>some (p.2 L)
  | false=>ovF l L g
def SR(T:Nat->Option CF)(ov:Nat->Option Dk)(L:Nat):Nat->CBC
 | 0=>noC
 | n+1=>λY g a b k=>match ov g with
  | some d=>d Y a b k
  | none=>match T g,frN g with
   | some c,false=>dj (fR []) (SR T ov L n) L c a b k
   | _,_=>none
def zaa(T:Nat->Option CF)(D:Nat)(l:List (Nat × (Nat->Dk))):Prop:=∀ L g d,ovF l L g=some d->FOk T L g d D
theorem zfC:zaa T 0 []:=λL g d h=>by cases h
theorem X9{T:Nat->Option CF}{D:Nat}{l:List (Nat × (Nat->Dk))}(h:zaa T D l){L:Nat}:∀ (n m:Nat),D+n<=m->vU (SR T (ovF l L) L n) (tp (evF T zJ L m))
 | 0,m,hm=>ep
 | n+1,m,hm=>λY g a b k r e=>by
  unfold SR at e;split at e
  ·rename_i d hd;exact h L g d hd m (by omega) Y a b k r e
  ·split at e
   ·rename_i c hT hf;obtain ⟨m,rfl⟩:∃ q,m=q+1:=⟨m-1,by omega⟩;rw [zdT hf];exact YH (X9 h n m (by omega)) hT e
   ·cases e
theorem zeA{D:Nat}{l:List (Nat × (Nat->Dk))}(h:zaa T D l)(L n g:Nat){d:Dk}(hd:DK d (λY a b k=>SR T (ovF l L) L n Y g a b k)):FOk T L g d (D+n):=λm hm Y a b k r e=>X9 h n m hm Y g a b k r (hd _ _ _ _ _ e)
end
end Go.Proofs.YtipklgbboecciaaGreat
