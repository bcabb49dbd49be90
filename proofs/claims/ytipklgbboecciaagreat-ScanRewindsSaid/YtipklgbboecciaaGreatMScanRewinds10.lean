/- Part 10 of the proof of ScanRewinds: an abstract machine over plain values, its soundness, and the functions of the program on plain values. -/
import Derived.Test.YtipklgbboecciaaGreatMScanRewinds9
namespace Go.Proofs.YtipklgbboecciaaGreat
set_option maxRecDepth 100000
set_option linter.unusedVariables false
set_option linter.unusedSimpArgs false
open Bool renaming and_eq_true->WaG,false_eq_true->WaR,not_eq_true'->Wbx,or_eq_true->WbA
open Nat renaming eq_of_beq_eq_true->Wao,le_refl->Wah,beq->Wae,min_eq_left->WcI,zero_le->WaK,zero_add->Wau
open List renaming getElem?_eq_getElem->Wac,all_eq_true->Wbj,mem_append_right->Wbw,mem_append_left->Wbv,mem_cons_of_mem->WcC,mem_cons->WbL,getElem?_append_right->Wal,getElem?_eq_some_iff->Wam,mem_map_of_mem->WcD,drop_eq_getElem_cons->WaM,flatMap_eq_nil_iff->WbH,length_eq_zero_iff->WaT,replicate->Wad,mem_iff_getElem?->Wbh,map_congr_left->WcF,mem_singleton->WcG,append_assoc->WcH,getElem?_append_left->Wan,length_take->Wci,take_append_drop->Wcx,mem_of_mem_take->WaI,getElem?_take->Wai,mem_cons_self->Wcz
open Option renaming map_eq_some_iff->Wag,map_some->Wbl,isSome_none->WcE,bind_some->Wbz,bind_eq_bind->Wab
open Option.some renaming inj->WcJ
section
variable {d:Option Nat}{ah:Bool}{n:Nat}
section
variable {s s':SS} {W:Nat->Int} {Z:St} {T:Nat->Option CF} {D:Nat} {cb:ACB}
theorem zfU{N:Nat}{a:A}{v:V}(g:G N W a v)(h:zfH a=true):F5 v=true/\o4 v=[]/\∀ g,rP g v=v:=by
 have one:Kj a=true->(∀ vs,v≠.ae vs)->F5 v=true/\o4 v=[]/\∀ g,rP g v=v:=by
  intro h1 h2;obtain ⟨q1,q2,q3⟩:=Up g h1;have e1:F5 v=yU v:=by unfold F5; grind
  have e2:o4 v=eg v:=by unfold o4; grind
  have e3:∀ g,rP g v=lr g v:=λg=>by unfold rP; grind
  exact ⟨by rw [e1]; exact q1,by rw [e2]; exact q2,λg=>by rw [e3]; exact q3 g⟩
 cases g with
 | ae av vs hl hh=>
  have gl:GL N W av vs:=⟨hl,hh⟩;have all:∀ v∈vs,yU v=true/\eg v=[]/\∀ g,lr g v=v:=λv hv=>by
   obtain ⟨i,hi⟩:=Wbh.1 hv;have hlt:i<av.length:=by grind
   exact Up (gl.2 i _ v (Wac hlt) hi) (Wbj.1 h _ (List.getElem_mem hlt))
  refine ⟨Wbj.2 λv hv=>(all v hv).1,?_,λg=>?_⟩
  ·show vs.flatMap eg=[];rw [WbH];exact λv hv=>(all v hv).2.1
  ·show V.ae (vs.map (lr g))=V.ae vs;congr 1
   conv=>rhs; rw [<- List.map_id vs]
   exact WcF λv hv=>(all v hv).2.2 g
 | ex v=>
  refine one h (λvs e=>?_);subst e; cases h
 | ak q sz n row es hn hl hr hh=>exact one h (λvs e=>by unfold mkL at e; split at e <;> cases e)
 | ai q sz lo hi row es hl hr hh=>exact one h (λvs e=>by unfold mkL at e; split at e <;> cases e)
 | am q sz rows es hl hr hh=>exact one h (λvs e=>by unfold mkL at e; split at e <;> cases e)
 | any v=>cases h
 | _=>exact one h (λvs e=>by cases e)
def StepA(T:Nat->Option CF)(D:Nat)(s s':SS)(W:Nat->Int)(Z:St)(d:Option Nat)(ah:Bool)(k:K):Prop:=∃ ρ' σ',Sat s' ρ' σ'/\Ext s s' W ρ'/\Evt T D (λc=>ck c 0 Z d ah k=some σ')
theorem DZ(S:Sat s W Z):∀ {cs bs:List A} {vs:List V},GL s.iv.length W cs vs->qI A.plain cs=some bs->∃ ws,vs.mapM V.plain=some ws/\GL s.iv.length W bs ws
 | [],bs,vs,g,h=>by
  cases h;cases vs with
  | nil=>exact ⟨[],rfl,.nil⟩
  | cons _ _=>have:=g.1; simp at this
 | c::cs,bs,vs,g,h=>by
  cases vs with
  | nil=>have:=g.1; simp at this
  | cons v vs=>
   unfold qI at h;split at h
   ·rename_i b bs' h1 h2;cases h;obtain ⟨w,q1,q2,_⟩:=lV g.head h1;obtain ⟨ws,r1,r2⟩:=DZ S g.tail h2;exact ⟨w::ws,by simp_all,.cons q2 r2⟩
   ·cases h
theorem zhF(hcb:S7 T D cb)(S:Sat s W Z){f:Nat}{args:List (Src × Nat)}{xs:List Nat}(h:mI cb s d ah (.call f args xs)=some s'):StepA T D s s' W Z d ah (.call f args xs):=by
 simp [mI] at h;split at h
 ·rename_i av h1;obtain ⟨vs,q1,q2,q3,q4⟩:=RP S h1;split at h
  ·rename_i b r hb hr;split at h
   ·rename_i hc;simp at hc;have gc:∀ N ρ',GL N ρ' (av.map (ZP s)) vs:=λN ρ'=>S.upL hc.2 q2;obtain ⟨v,gv,ev⟩:=hcb _ _ _ hr vs gc;have gB:=AZ S h1 S.bs hb;have S1:Sat { s with b:=b } W { Z with b:=dG Z args Z.b }:=⟨S.bnd,S.fct,S.fbd,S.ts,gB⟩;obtain ⟨p1,p2,p3⟩:=zfU (gv 0 W) hc.1;obtain ⟨σ',r1,r2,r3⟩:=zbs S1 (gv _ W) h;refine ⟨W,σ',r2,.same (by rw [r3]),ev.imp λc hcv=>?_⟩;have hrefs:vs.flatMap eg=[]:=WbH.2 λv hv=>(q3 v hv).1;have hids:gZ (dG Z args Z.b) vs=[]:=by unfold gZ; rw [hrefs]; rfl
    have hren:∀ g,vs.map (lr g)=vs:=λg=>by
     conv=>rhs; rw [<- List.map_id vs]
     exact WcF λv hv=>(q3 v hv).2 g
    simp only [ck,q1,Wab,Wbz,nu];rw [hids];simp only [oh,Wbz,hren,hcv,List.length_nil,List.nil_append,List.map_nil,List.take_zero,Nat.sub_self];rw [if_pos ⟨trivial,trivial,Wbj.2 λv hv=>by rw [(q3 v hv).1]; rfl,p1,by rw [p2]; rfl,rfl,rfl,rfl,rfl⟩];simp only [iF,p3];exact r1
   ·cases h
  ·cases h
 ·cases h
theorem StepA.of{σ':St}(S':Sat s' W σ')(hl:s'.iv.length=s.iv.length){k:K}(h:∀ c,ck c 0 Z d ah k=some σ'):StepA T D s s' W Z d ah k:=⟨W,σ',S',.same hl,Evt.all h⟩
theorem Sat.nameC(S:Sat s W Z)(id o:Nat):∃ ρ',Sat (s.nameC id o) ρ' Z/\Ext s (s.nameC id o) W ρ'/\(s.nameC id o).t=s.t:=by
 have retell:∀ {s1:SS} {ρ1:Nat->Int} {p:Bool} {cs:List A} {a:A},Sat s1 ρ1 Z->s1.b[id]?=some (.live p cs)->(∀ vs v,Z.b[id]?=some (.live p vs)->vs[o]?=some v->G s1.iv.length ρ1 a v)->Sat { s1 with b:=s1.b.set id (.live p (cs.set o a)) } ρ1 Z:=by
  intro s1 ρ1 p cs a S1 hb h;refine ⟨S1.bnd,S1.fct,S1.fbd,S1.ts,⟨by simp [S1.bs.1],λi x y hx hy=>?_⟩⟩;have hx:(s1.b.set id (.live p (cs.set o a)))[i]?=some x:=hx;by_cases e:id=i
  ·subst e;have hlt:id<s1.b.length:=(Wam.1 hb).1;rw [List.getElem?_set_self hlt] at hx
   ·cases hx;obtain ⟨vs,hvs,gv⟩:=pV S1 hb;rw [hvs] at hy;cases hy;refine .live p _ _ ⟨by simp [gv.1],λj c v hc hv=>?_⟩;rw [List.getElem?_set] at hc;split at hc
    ·rename_i e;subst e;split at hc
     ·cases hc; exact h vs v hvs hv
     ·cases hc
    ·exact gv.2 j c v hc hv
  ·rw [List.getElem?_set_ne e] at hx;exact S1.bs.2 i x y hx hy
 unfold SS.nameC;split
 ·rename_i p cs hb;obtain ⟨vs,hvs,gv⟩:=pV S hb;split
  ·rename_i k lo hi hc;split
   ·obtain ⟨v,hv,g⟩:=gv.get hc;cases g;rename_i n hn;obtain ⟨S1,E⟩:=S.sym hn;have hb1:(Lin.sy s.iv.length).bd (s.sym lo hi).iv.length:=D2 (by simp [SS.sym]);have he:(Lin.sy s.iv.length).ev (kN W s.iv.length n)=n:=by rw [vc,oP]
    refine ⟨kN W s.iv.length n,retell S1 hb (λvs' v' h1 h2=>?_),⟨E.le,E.eq⟩,rfl⟩;rw [hvs] at h1; cases h1;rw [hv] at h2; cases h2;have:=G.int (W:=kN W s.iv.length n) k _ hb1
    rwa [he] at this
   ·exact ⟨W,S,.refl,rfl⟩
  ·rename_i q sz lo hi row hc;split
   ·obtain ⟨v,hv,g⟩:=gv.get hc;cases g;rename_i es hl hr hh;obtain ⟨S1,E⟩:=S.sym hl;have hb1:(Lin.sy s.iv.length).bd (s.sym lo hi).iv.length:=D2 (by simp [SS.sym]);have he:(Lin.sy s.iv.length).ev (kN W s.iv.length es.length)=es.length:=by rw [vc,oP]
    refine ⟨kN W s.iv.length es.length,retell S1 hb (λvs' v' h1 h2=>?_),⟨E.le,E.eq⟩,rfl⟩;rw [hvs] at h1; cases h1;rw [hv] at h2; cases h2;exact .ak _ _ _ _ es hb1 he.symm hr (λr hr' i a v h1 h2=>E.g (hh r hr' i a v h1 h2))
   ·exact ⟨W,S,.refl,rfl⟩
  ·exact ⟨W,S,.refl,rfl⟩
 ·exact ⟨W,S,.refl,rfl⟩
theorem zir(S:Sat s W Z){cs:List A}{vs:List V}(g:GL s.iv.length W cs vs){off:Lin}{o:Nat}(ho:off.ev W=o){lo hi:Int}(h1:off.lb s.iv=some lo)(h2:off.ub s.iv=some hi)(c1:nn lo=true)(c2:leI (hi+1) cs.length=true){j:A}
  (hu:lm (λc=>s.up c j) ((cs.drop lo.toNat).take (hi.toNat+1-lo.toNat))=true):∃ v,vs[o]?=some v/\G s.iv.length W j v:=by
 have h1:=Mr S.bnd h1; have h2:=vl S.bnd h2;have c1:=D3 c1; have c2:=ja c2;have hlt:o<cs.length:=by omega
 have hlt':o<vs.length:=by rw [<- g.1]; exact hlt
 refine ⟨vs[o],Wac hlt',?_⟩;have hmem:cs[o]∈(cs.drop lo.toNat).take (hi.toNat+1-lo.toNat):=by
  refine List.mem_of_getElem? (i:=o-lo.toNat) ?_
  grind
 exact S.up (lQ hu _ hmem) (g.2 o _ _ (Wac hlt) (Wac hlt'))
theorem zhO(S:Sat s W Z){agg:Bool}{a:Src}{take:Bool}(h:mI cb s d ah (.load agg n a take)=some s'):StepA T D s s' W Z d ah (.load agg n a take):=by
 simp [mI] at h;have hs1:∃ ρ1,Sat (s.nameL agg (s.src a)) ρ1 Z/\Ext s (s.nameL agg (s.src a)) W ρ1:=by
  unfold SS.nameL;split
  ·exact ⟨W,S,.refl⟩
  ·split
   ·split
    ·obtain ⟨ρ1,q1,q2,q3⟩:=S.nameC _ _;exact ⟨ρ1,q1,q2⟩
    ·exact ⟨W,S,.refl⟩
   ·exact ⟨W,S,.refl⟩
 obtain ⟨ρ1,S1,E1⟩:=hs1;generalize s.nameL agg (s.src a)=s1 at h S1 E1;have fin:∀ {a':A} {v:V},some (s1.put d a')=some s'->G s1.iv.length ρ1 a' v->(∀ c,ck c 0 Z d ah (.load agg n a take)=some (Z.put d v))->StepA T D s s' W Z d ah (.load agg n a take):=by
  intro a' v q1 q2 q3;cases q1;exact ⟨ρ1,_,S1.put d q2,E1.trans (.same (by rw [pd])),Evt.all q3⟩
 split at h
 ·rename_i id off hx;have g:=jp S1 hx;generalize hv:a.get Z=v at g;cases g with
  | ptr _ _ o ho hho=>
   split at h
   ·rename_i p cs hb;obtain ⟨vs,hvs,gv⟩:=pV S1 hb;split at h
    ·split at h
     ·rename_i o' ho';have ho':=lit?_ok (W:=ρ1) ho';split at h
      ·rename_i hc;simp only [WaG] at hc;have hc2:=lR hc.2;have e:o'.toNat=o:=by omega
       rw [e] at h hc2;have gp:=(gv.drop o).take n;rw [gv.1] at hc2;split at h
       ·exact fin h (.agg _ _ gp.1 gp.2) (λc=>by grind [ck])
       ·split at h
        ·cases h
        ·simp only [Wag] at h;obtain ⟨bs,hbs,h⟩:=h;obtain ⟨ws,w1,w2⟩:=DZ S1 gp hbs;exact fin (congrArg some h) (.agg _ _ w2.1 w2.2) (λc=>by grind [ck])
      ·cases h
     ·cases h
    ·split at h
     ·rename_i o' ho';have ho':=lit?_ok (W:=ρ1) ho';split at h
      ·rename_i v0 hn hcell;have hn:=D3 hn;have e:o'.toNat=o:=by omega
       rw [e] at h hcell;obtain ⟨w,hw,gw⟩:=gv.get hcell;split at h
       ·split at h
        ·cases h
        ·cases h;have S2:Sat (s1.ab id (.live false (cs.set o v0.ag))) ρ1 (Z.ab id (.live false (vs.set o w.ag))):=S1.ab id (.live false _ _ (gv.set o gw.ag));exact ⟨ρ1,_,S2.put d (G.tk gw),E1.trans (.same (by rw [pd]; rfl)),Evt.all λc=>by grind [ck]⟩
       ·rename_i htk;exact fin h gw.ag (λc=>by grind [ck])
      ·cases h
     ·split at h
      ·rename_i lo hi h1 h2;split at h
       ·rename_i hc;simp only [WaG,Wbx] at hc;split at h
        ·rename_i hu;obtain ⟨w,hw,gw⟩:=zir S1 gv hho h1 h2 hc.1 hc.2.1 hu;exact fin h gw.ag (λc=>by grind [ck])
        ·cases h
       ·cases h
      ·cases h
   ·rename_i cs hb;obtain ⟨vs,hvs,gv⟩:=zah S1 hb;split at h
    ·rename_i o' ho';have ho':=lit?_ok (W:=ρ1) ho';split at h
     ·split at h
      ·rename_i hc;simp only [WaG] at hc;have hc2:=lR hc.2;have e:o'.toNat=o:=by omega
       rw [e] at h hc2;have gp:=(gv.drop o).take n;rw [gv.1] at hc2;exact fin h (.agg _ _ gp.1 gp.2) (λc=>by grind [ck])
      ·cases h
     ·split at h
      ·rename_i v0 hn hcell;have hn:=D3 hn;have e:o'.toNat=o:=by omega
       rw [e] at hcell;obtain ⟨w,hw,gw⟩:=gv.get hcell;exact fin h gw (λc=>by grind [ck])
      ·cases h
    ·split at h
     ·rename_i lo hi h1 h2;split at h
      ·rename_i hc;simp only [WaG] at hc;split at h
       ·rename_i hu;obtain ⟨w,hw,gw⟩:=zir S1 gv hho h1 h2 hc.1 hc.2 hu;exact fin h gw (λc=>by grind [ck])
       ·cases h
      ·cases h
     ·cases h
   ·cases h
 ·rename_i cs hx;have g:=jp S1 hx;generalize hv:a.get Z=v at g;cases g with
  | fp _ m vs hn hl hh=>
   split at h
   ·split at h
    ·rename_i hc;have hc:=lR hc;refine fin h (v:=.agg (vs.take n)) (.agg _ _ (by simp; omega) (λi a v h1 h2=>?_)) (λc=>by grind [ck]);rw [Wai] at h1 h2;split at h1
     ·rename_i hi; rw [if_pos hi] at h2; exact hh i a v h1 h2
     ·cases h1
    ·cases h
   ·split at h
    ·rename_i c0 cs0;cases vs with
     | nil=>simp at hl
     | cons v vs=>exact fin h (hh 0 _ _ rfl rfl) (λc=>by simp [ck,hv])
    ·cases h
 ·cases h
theorem zgO(S:Sat s W Z){a x:Src}(h:mI cb s d ah (.store n a x)=some s'):StepA T D s s' W Z d ah (.store n a x):=by
 simp [mI] at h;split at h
 ·cases h
 split at h
 ·rename_i id off hx;have g:=jp S hx;generalize hv:a.get Z=v at g;cases g with
  | ptr _ _ o ho hho=>
   split at h
   ·rename_i cs hb;obtain ⟨vs,hvs,gv⟩:=pV S hb;split at h
    ·rename_i b hb2;obtain ⟨u,q1,q2,q3⟩:=lV (S.src x) hb2;split at h
     ·rename_i hn;have hn:=Wao hn;simp only [Wag] at h;obtain ⟨cs',hcs,h⟩:=h;obtain ⟨w1,w2⟩:=ze7 S gv q3 hho hcs;cases h;refine StepA.of (s:=s) (S.ab id (.live true _ _ w1)) rfl (λc=>?_);simp only [ck,WcE,WaR,if_false,hv,hvs,q1,Wab,Wbz];rw [if_pos ⟨by rw [<- q3.1]; exact hn,by rw [<- hn,q3.1]; exact w2⟩]
     ·cases h
    ·cases h
   ·rename_i cs hb;obtain ⟨vs,hvs,gv⟩:=pV S hb;split at h
    ·rename_i o' ho';have ho':=lit?_ok (W:=W) ho';split at h
     ·rename_i hn0;have hn0:=D3 hn0;have e:o'.toNat=o:=by omega
      rw [e] at h;have one:∀ {b:A} {w:V},x.get Z=w->G s.iv.length W b w->(match Wae n 1&&Nat.blt o cs.length with | true=>some ((s.ac x).ab id (.live false (cs.set o b))) | false=>none)=some s'->(∀ us,w≠.agg us)->(∀ us,w≠.st us)->(∀ us,w≠.ae us)->(∀ p us,w≠.bx p us)->w≠.af->StepA T D s s' W Z none ah (.store n a x):=by
       intro b w hw gw h9 n1 n2 n3 n4 n5;split at h9
       ·rename_i hc;simp only [WaG] at hc;have c1:=Wao hc.1; have c2:=Hn hc.2;cases h9;obtain ⟨S1,l1,l2⟩:=L5 S x;refine StepA.of (s:=s) (σ':=(Z.ac x).ab id (.live false (vs.set o w))) (S1.ab id (.live false _ _ ?_)) (by show (s.ac x).iv.length=_; rw [l1]) (λc=>?_)
        ·rw [l1]; exact gv.set o gw
        ·simp only [ck,WcE,WaR,if_false,hv,hvs,hw];cases w with
         | agg us=>exact absurd rfl (n1 _)
         | st us=>exact absurd rfl (n2 _)
         | ae us=>exact absurd rfl (n3 _)
         | bx p us=>exact absurd rfl (n4 _ _)
         | af=>exact absurd rfl n5
         | _=>rw [if_pos ⟨c1,by rw [<- gv.1]; exact c2⟩]
       ·cases h9
      have gx:=S.src x;generalize hsx:s.src x=b at h gx;generalize hw:x.get Z=w at gx;cases gx with
      | agg us ws hl hh=>
       simp only at h;split at h
       ·rename_i hc;simp only [WaG] at hc;have c1:=Wao hc.1; have c2:=lR hc.2;cases h;refine StepA.of (s:=s) (σ':=Z.ab id (.live false (cq vs o ws))) (S.ab id (.live false _ _ (tp gv ⟨hl,hh⟩ o))) rfl (λc=>?_);simp only [ck,WcE,WaR,if_false,hv,hvs,hw];rw [if_pos ⟨by omega,by rw [<- gv.1]; exact c2⟩]
       ·cases h
      | st us ws hl hh=>
       simp only at h;split at h
       ·rename_i hc;simp only [WaG] at hc;have c1:=Wao hc.1; have c2:=lR hc.2;cases h;refine StepA.of (s:=s) (σ':=Z.ab id (.live false (cq vs o ws))) (S.ab id (.live false _ _ (tp gv ⟨hl,hh⟩ o))) rfl (λc=>?_);simp only [ck,WcE,WaR,if_false,hv,hvs,hw];rw [if_pos ⟨by omega,by rw [<- gv.1]; exact c2⟩]
       ·cases h
      | ae us ws hl hh=>cases h
      | bx p us ws hl hh=>cases h
      | any w=>cases h
      | ex w=>
       simp only at h;split at h
       ·exact one hw (.ex _) h (λ_ e=>by cases e) (λ_ e=>by cases e) (λ_ e=>by cases e) (λ_ _ e=>by cases e) (λe=>by cases e)
       ·cases h
      | ak q sz m row es hn hl hr hh=>exact one hw (.ak q sz m row es hn hl hr hh) h (λ_ e=>by unfold mkL at e; split at e <;> cases e) (λ_ e=>by unfold mkL at e; split at e <;> cases e) (λ_ e=>by unfold mkL at e; split at e <;> cases e) (λ_ _ e=>by unfold mkL at e; split at e <;> cases e) (λe=>by unfold mkL at e; split at e <;> cases e)
      | ai q sz lo hi row es hl hr hh=>exact one hw (.ai q sz lo hi row es hl hr hh) h (λ_ e=>by unfold mkL at e; split at e <;> cases e) (λ_ e=>by unfold mkL at e; split at e <;> cases e) (λ_ e=>by unfold mkL at e; split at e <;> cases e) (λ_ _ e=>by unfold mkL at e; split at e <;> cases e) (λe=>by unfold mkL at e; split at e <;> cases e)
      | am q sz rows es hl hr hh=>exact one hw (.am q sz rows es hl hr hh) h (λ_ e=>by unfold mkL at e; split at e <;> cases e) (λ_ e=>by unfold mkL at e; split at e <;> cases e) (λ_ e=>by unfold mkL at e; split at e <;> cases e) (λ_ _ e=>by unfold mkL at e; split at e <;> cases e) (λe=>by unfold mkL at e; split at e <;> cases e)
      | int k e hb=>exact one hw (.int k e hb) h (λ_ e=>by cases e) (λ_ e=>by cases e) (λ_ e=>by cases e) (λ_ _ e=>by cases e) (λe=>by cases e)
      | iv k lo hi m hb=>exact one hw (.iv k lo hi m hb) h (λ_ e=>by cases e) (λ_ e=>by cases e) (λ_ e=>by cases e) (λ_ _ e=>by cases e) (λe=>by cases e)
      | cmp c hb=>exact one hw (.cmp c hb) h (λ_ e=>by cases e) (λ_ e=>by cases e) (λ_ e=>by cases e) (λ_ _ e=>by cases e) (λe=>by cases e)
      | bool b=>exact one hw (.bool b) h (λ_ e=>by cases e) (λ_ e=>by cases e) (λ_ e=>by cases e) (λ_ _ e=>by cases e) (λe=>by cases e)
      | str b=>exact one hw (.str b) h (λ_ e=>by cases e) (λ_ e=>by cases e) (λ_ e=>by cases e) (λ_ _ e=>by cases e) (λe=>by cases e)
      | fp us m ws hn hl hh=>exact one hw (.fp us m ws hn hl hh) h (λ_ e=>by cases e) (λ_ e=>by cases e) (λ_ e=>by cases e) (λ_ _ e=>by cases e) (λe=>by cases e)
      | ptr i2 o2 f2 h2 h3=>exact one hw (.ptr i2 o2 f2 h2 h3) h (λ_ e=>by cases e) (λ_ e=>by cases e) (λ_ e=>by cases e) (λ_ _ e=>by cases e) (λe=>by cases e)
      | own i2 o2 m2 f2 l2 z2 h2 h3 h4 h5=>exact one hw (.own i2 o2 m2 f2 l2 z2 h2 h3 h4 h5) h (λ_ e=>by cases e) (λ_ e=>by cases e) (λ_ e=>by cases e) (λ_ _ e=>by cases e) (λe=>by cases e)
     ·cases h
    ·cases h
   ·cases h
 ·cases h
end
end
section
variable {N bytes sz:Nat}{d:Option Nat}{ah:Bool}{zero:List V}{x:Src}{a:A}{v:V}
section
variable {s s':SS} {W:Nat->Int} {Z:St} {T:Nat->Option CF} {D:Nat} {cb:ACB}
theorem Wy{cs:List A}{vs:List V}(g:GL N W cs vs)(n:Nat):All2 (GL N W) (Wad n cs) (Wad n vs):=All2.rep g n
theorem zai(S:Sat s W Z){n:Lin}{m:Nat}(hm:n.ev W=m)(h:Zt s bytes n=true):m*bytes<=cN/\m<=cN:=by
 unfold Zt at h;split at h
 ·rename_i u hu;have hu:=vl S.bnd hu;simp at h;have h1:=ja h.1; have h2:=ja h.2;have:(m:Int)*(bytes:Int)<=u*(bytes:Int):=Int.mul_le_mul_of_nonneg_right (by omega) (Int.natCast_nonneg _);constructor
  ·have:((m*bytes:Nat):Int)<=(cN:Int):=by push_cast; omega
   omega
  ·omega
 ·cases h
theorem Zf(S:Sat s W Z){l c:Src}(h:mI cb s d ah (.makeSlice sz bytes zero l c)=some s'):StepA T D s s' W Z d ah (.makeSlice sz bytes zero l c):=by
 simp [mI] at h;split at h
 ·rename_i s1 k1 el h1;obtain ⟨ρ1,S1,E1,g1,b1⟩:=S.int h1;split at h
  ·rename_i s2 k2 ec h2;obtain ⟨ρ2,S2,E2,g2,b2⟩:=S1.int h2;have el1:el.ev ρ2=el.ev ρ1:=E2.ev b1;have b1':=E2.bd b1;split at h
   ·rename_i hc;simp only [WaG,SS.btw] at hc;have c1:=S2.le hc.1.1; have c2:=S2.le hc.1.2;rw [hJ] at c1 c2; rw [iO] at c1;have hcn:ec.ev ρ2=((ec.ev ρ2).toNat:Nat):=by omega
    obtain ⟨q1,q2⟩:=zai S2 hcn hc.2;have gi:(l.get Z).int?=some (el.ev ρ2):=by rw [g1,el1]; rfl
    have gj:(c.get Z).int?=some (ec.ev ρ2):=by rw [g2]; rfl
    have cond:0<=el.ev ρ2/\el.ev ρ2<=ec.ev ρ2/\(ec.ev ρ2).toNat*bytes<=cN/\ec.ev ρ2<=cN:=⟨by omega,by omega,q1,by omega⟩;split at h
    ·split at h
     ·rename_i ln cn e1 e2;have e1:=lit?_ok (W:=ρ2) e1; have e2:=lit?_ok (W:=ρ2) e2;obtain ⟨σ',r1,r2,r3⟩:=C7 S2 (X:=.live true (Wad (ec.ev ρ2).toNat zero).flatten) (f:=λid=>.own id 0 (el.ev ρ2).toNat sz) (.live true _ _ (by grind [ti,KM,Wy])) (λid=>.own _ _ _ _ _ _ (nC _) (nC _) (by rw [iO]; rfl) (by rw [iO,<- e1]; omega)) h;refine ⟨ρ2,σ',r2,(E1.trans E2).trans (.same (by rw [r3])),Evt.all λcc=>?_⟩;simp only [ck,gi,gj];rw [if_pos cond]; exact r1
     ·cases h
    ·have fin:∀ {a':A},some (s2.put d a')=some s'->G s2.iv.length ρ2 a' (.gs sz (Wad (el.ev ρ2).toNat zero))->StepA T D s s' W Z d false (.makeSlice sz bytes zero l c):=by
      intro a' e g;cases e;refine ⟨ρ2,_,S2.put d g,(E1.trans E2).trans (.same (by rw [pd])),Evt.all λcc=>?_⟩
      grind [St.aq,ck]
     split at h
     ·rename_i ln e1;have e1:=lit?_ok (W:=ρ2) e1;rw [<- e1] at h;exact fin h (tc (q:=1) (Wy (ti zero) _))
     ·refine fin h (NH (q:=1) b1' (by grind) (λr hr=>?_));rw [List.eq_of_mem_replicate hr]; exact ti zero
   ·cases h
  ·cases h
 ·cases h
theorem XH(S:Sat s W Z){n:Nat}{ps:List (Nat × Nat × Src)}(h:mI cb s d ah (.buildSlice sz n zero ps)=some s'):StepA T D s s' W Z d ah (.buildSlice sz n zero ps):=by
 simp [mI] at h;split at h
 ·rename_i cs hcs;obtain ⟨vs,h1,h2⟩:=S.fill (KM (Wy (ti zero) n)) hcs;split at h
  ·rename_i hc;simp only [WaG] at hc;have hn:=Wao hc.1;cases h;refine ⟨W,_,S.put d (tc (q:=2) (sz:=sz) .nil),.same (by rw [pd]),Evt.all λc=>?_⟩;simp [ck,h1];rw [if_pos ⟨hn,hc.2⟩]; rfl
  ·rename_i hc;obtain ⟨σ',r1,r2,r3⟩:=HP S (q:=2) (tc (q:=2) (wX h2)) h;refine ⟨W,σ',r2,.same (by rw [r3]),Evt.all λc=>?_⟩;simp [ck,h1]
   simp_all
 ·cases h
theorem zdE(S:Sat s W Z){y:Src}(h:mI cb s d ah (.append sz bytes x y)=some s'):StepA T D s s' W Z d ah (.append sz bytes x y):=by
 simp [mI] at h;split at h
 ·rename_i s0 a h0;obtain ⟨ρ0,S0,E0,g0⟩:=S.ak h0;split at h
  ·rename_i s1 b0 h1;obtain ⟨ρ1,S1,E1,g1⟩:=S0.ak h1;have ga:=E1.g g0;split at h
   ·rename_i b hb;obtain ⟨u,hu,gb⟩:=G9 S1 g1 hb;split at h
    ·rename_i n q sz1 _ _ m q2 sz2 _ _ l1 l2 l3 l4;obtain ⟨es,hes,ia⟩:=rU S1.bnd l2 ga;obtain ⟨es2,hes2,ib⟩:=rU S1.bnd l4 gb;obtain ⟨n1,n2⟩:=ia.len _ l1;obtain ⟨m1,m2⟩:=ib.len _ l3;split at h
     ·rename_i hc;simp only [WaG] at hc;obtain ⟨c1,c2,c3,c4⟩:=hc;have c1:=Wao c1; have c2:=Wao c2;subst c1; subst c2;rw [LE c3] at hes2;subst hes2;have hcap:=zai S1 (m:=es.length+es2.length) (by rw [Ci]; omega) c4;split at h
      ·rename_i r hr;have gr:G s1.iv.length ρ1 r (mkL 1 sz2 (es++es2))∨(es=[]/\G s1.iv.length ρ1 r (mkL 0 sz2 es2)):=by
        split at hr
        ·rename_i e1 e2;cases hr;refine .inr ⟨?_,gb⟩;have:=n1;cases l1;rw [iO] at this;exact WaT.1 (by simpa using this)
        ·rename_i rs rs' _ _ _;cases hr;have ga':=ga;rw [hes] at ga';have r1:=Dt ga' rfl;have r2:=Dt (q:=0) (sz:=sz2) (es:=es2) gb rfl
         grind [All2.append,tc]
        ·split at hr
         ·rename_i hq;cases hr;refine .inl (NH (q:=1) (Kv n2 m2) (by grind [Ci]) (λr hr=>?_));rcases List.mem_append.1 hr with hr | hr
          ·obtain ⟨row,w1,w2⟩:=ia.rows r hr;exact S1.upL (lQ hq _ (Wbv _ w1)) w2
          ·obtain ⟨row,w1,w2⟩:=ib.rows r hr;exact S1.upL (lQ hq _ (Wbw _ w1)) w2
         ·cases hr
       obtain ⟨S2,k1,k2⟩:=L5 S1 x;have put:∀ {s':SS} {ah:Bool},(s1.ac x).aq d ah sz2 r=some s'->∃ σ',(Z.ac x).aq 0 d ah sz2 (es++es2)=some σ'/\Sat s' ρ1 σ'/\s'.iv=s1.iv:=by
        grind [HP]
       split at h
       ·split at h
        ·obtain ⟨σ',w1,w2,w3⟩:=put h;refine ⟨ρ1,σ',w2,(E0.trans E1).trans (.same (by rw [w3])),Evt.all λc=>?_⟩;have e1:x.get Z=.gs sz2 es:=hes;simp only [ck,e1,hu];rw [if_pos (by grind)];simp only [WaR,if_false];simp only [St.aq,WaR,if_false] at w1;exact w1
        ·cases h
       ·split at h
        ·rename_i _ _;obtain ⟨σ',w1,w2,w3⟩:=put h;have he0:es=[]:=by
          have:=n1;cases l1;rw [iO] at this;exact WaT.1 (by simpa using this)
         subst he0;refine ⟨ρ1,σ',w2,(E0.trans E1).trans (.same (by rw [w3])),Evt.all λc=>?_⟩;have e1:x.get Z=.fr sz2 []:=hes;simp only [ck,e1,hu];rw [if_pos (by grind)];simpa using w1
        ·cases h
       ·cases h
      ·cases h
     ·cases h
    ·cases h
   ·cases h
  ·cases h
 ·cases h
theorem zgv(g:G N W a v)(h:zb3 a=true):Kt v=true:=by
 cases g with
 | ae=>cases h
 | any=>cases h
 | ex v=>exact h
 | ak q sz n row es hn hl hr hh=>unfold mkL; split <;> rfl
 | ai q sz lo hi row es hl hr hh=>unfold mkL; split <;> rfl
 | am q sz rows es hl hr hh=>unfold mkL; split <;> rfl
 | _=>rfl
theorem ziZ(g:G N W a v)(h:zii a=false):v.bf=a.held:=by
 have m:∀ {q sz:Nat} {es:Ls},(mkL q sz es).bf=Nat.ble 1 q:=by
  intro q sz es;cases q with
  | zero=>rfl
  | succ q=>cases q with
   | zero=>rfl
   | succ q=>exact (Nat.ble_eq_true_of_le (show 1<=q+1+1 by omega)).symm
 cases g with
 | ex v=>cases h
 | any v=>cases h
 | ak q sz n row es hn hl hr hh=>exact m
 | ai q sz lo hi row es hl hr hh=>exact m
 | am q sz rows es hl hr hh=>exact m
 | _=>rfl
theorem zbN(S:Sat s W Z){i:Nat}(h:mI cb s d ah (.extract x i)=some s'):StepA T D s s' W Z d ah (.extract x i):=by
 simp [mI] at h;split at h
 ·cases h
 rename_i t;split at h
 ·rename_i av ht;obtain ⟨v,hv,g⟩:=S.ts.get ht;cases g with
  | ae _ vs hl hh=>
   have gl:GL s.iv.length W av vs:=⟨hl,hh⟩;split at h
   ·rename_i a ha;obtain ⟨w,hw,gw⟩:=gl.get ha;split at h
    ·cases h
    ·rename_i hdt;have hd:d≠some t:=by
      rintro rfl
      simp_all
     split at h
     ·rename_i hc;simp only [WaG,Wbx] at hc;have hall:vs.all Kt=true:=Wbj.2 λv hv=>by
       obtain ⟨j,hj⟩:=Wbh.1 hv
       grind [zgv]
      have hheld:=ziZ gw hc.2;have hg:(Src.tmp t).get Z=.ae vs:=by grind [Src.get]
      split at h
      ·rename_i hb;rw [hb] at hheld;have gj:=gl.set i (a:=.ex .af) (b:=.af) (.ex _);have S1:Sat { s with t:=s.t.set t (.ae (av.set i (.ex .af))) } W { Z with t:=Z.t.set t (.ae (vs.set i .af)) }:=⟨S.bnd,S.fct,S.fbd,S.ts.set t (.ae _ _ gj.1 gj.2),S.bs⟩;obtain ⟨σ',r1,r2,r3⟩:=zbs S1 gw h;refine ⟨W,σ',r2,.same (by rw [r3]),Evt.all λc=>?_⟩;simp only [ck,hg,hw];rw [if_pos ⟨hall,hd⟩,hheld,if_pos rfl]; exact r1
      ·rename_i hb;rw [hb] at hheld;split at h
       ·cases h
       ·cases h;refine ⟨W,_,S.put d gw.ag,.same (by rw [pd]),Evt.all λc=>?_⟩;simp only [ck,hg,hw];rw [if_pos ⟨hall,hd⟩,hheld];simp
     ·cases h
   ·cases h
 ·cases h
theorem zhU(es:Ls)(n:Nat):es.take (min es.length n)=es.take n:=by
 grind
theorem zis:∀ {es:Ls},(∀ r∈es,r.length=1)->es.flatten.length=es.length/\∀ (i:Nat) (v:V),es.flatten[i]?=some v->∃ r∈es,r=[v]
 | [],_=>⟨rfl,λi v h=>by simp at h⟩
 | r::es,h=>by
  obtain ⟨q1,q2⟩:=zis (es:=es) (λr hr=>h r (by simp [hr]));have hr:=h r (by simp);cases r with
  | nil=>simp at hr
  | cons x r=>cases r with
   | cons _ _=>simp at hr
   | nil=>
    refine ⟨by simp [q1],λi v hi=>?_⟩;cases i with
    | zero=>simp at hi; subst hi; exact ⟨[x],by simp,rfl⟩
    | succ i=>
     obtain ⟨r,h1,h2⟩:=q2 i v (by simpa using hi);exact ⟨r,by simp [h1],h2⟩
theorem zic(S:Sat s W Z){y:Src}(h:mI cb s d ah (.copy sz x y)=some s'):StepA T D s s' W Z d ah (.copy sz x y):=by
 simp only [mI] at h;split at h
 ·rename_i id off len sz1 b hx hb;have g:=jp S hx;generalize hv:x.get Z=v at g;cases g with
  | own _ _ _ o n _ ho hn ho' hn'=>
   obtain ⟨u,hu,gu⟩:=G9 S (S.src y) hb;split at h
   ·rename_i o' n' cs q sz2 lo hi e1 e2 hcs hl;obtain ⟨vs,hvs,gv⟩:=pV S hcs;obtain ⟨es,hes,ib⟩:=rU S.bnd hl gu;have e1:=lit?_ok (W:=W) e1; have e2:=lit?_ok (W:=W) e2;have f1:o'.toNat=o:=by omega
    have f2:n'.toNat=n:=by omega
    split at h
    ·rename_i hc;simp only [WaG] at hc;obtain ⟨c1,c2,c3,c4,c5,c6⟩:=hc;have c1:=Wao c1; have c2:=Wao c2;have c6:=lR c6;subst c1; subst c2;rw [LE c3] at hes;subst hes;rw [f1,f2] at c6;have fin:∀ {cs':List A} {r:A},some ((s.ab id (.live true cs')).put d r)=some s'->GL s.iv.length W cs' (cq vs o (es.take (min es.length n)).flatten)->G s.iv.length W r (.sc (.int .i64 ((min es.length n:Nat):Int)))->StepA T D s s' W Z d ah (.copy sz2 x y):=by
      intro cs' r e g1 g2;cases e;have S1:=S.ab id (.live true _ _ g1);refine ⟨W,_,S1.put d g2,.same (by rw [pd]; rfl),Evt.all λc=>?_⟩
      grind [ck]
     split at h
     ·rename_i q' z' rs;rw [f1,f2] at h;have gr:=Dt (q:=0) (sz:=sz2) (es:=es) gu rfl;refine fin h ?_ ?_
      ·rw [zhU]; exact tp gv (KM (gr.take n)) o
      ·have hm:m9 n' rs.length=((min es.length n:Nat):Int):=by
        have:=C0 n' (rs.length:Int);have:=gr.1;omega
       rw [hm];have:=G.int (N:=s.iv.length) (W:=W) .i64 (.lit ((min es.length n:Nat):Int)) (nC _)
       rwa [iO] at this
     ·split at h
      ·rename_i c0 hz hrows;have hz:=Wao hz;subst hz;rw [f1,f2] at h;split at h
       ·rename_i hq;simp only [WaG] at hq;generalize hseg:(cs.drop o).take n=seg at h hq;generalize hseg2:seg.map (λx=>qH 12 s.iv x s.iv c0)=seg2 at h hq;refine fin h ?_ (.iv _ _ _ _ ⟨Int.natCast_nonneg _,by grind⟩);have hl2:seg2.length=seg.length:=by rw [<- hseg2]; simp
        have hl1:seg.length=n:=by rw [<- hseg]; simp; omega
        have gs:GL s.iv.length W seg ((vs.drop o).take n):=by rw [<- hseg]; exact (gv.drop _).take _
        have gs2:GL s.iv.length W seg2 ((vs.drop o).take n):=S.upL hq.1 gs;have gall:=tp gv gs2 o;have hlen:=gv.1;have hsame:cq vs o ((vs.drop o).take n)=vs:=by
         unfold cq;rw [Wci,List.length_drop,WcI (by omega)];rw [<- List.drop_drop,WcH,Wcx,Wcx]
        rw [hsame] at gall;have hrow1:∀ r∈es,GL s.iv.length W [c0] r:=λr hr=>by
         obtain ⟨row,w1,w2⟩:=ib.rows r hr
         grind
        have hf:=zis (es:=es.take (min es.length n)) (λr hr=>by have:=(hrow1 r (WaI hr)).1; simpa using this.symm);have hk:(es.take (min es.length n)).flatten.length=min es.length n:=by grind
        generalize hnew:(es.take (min es.length n)).flatten=new at hf hk ⊢;have hkn:min es.length n<=n:=Nat.min_le_right _ _;refine ⟨by rw [gall.1]; simp [cq]; omega,λi a u h1 h2=>?_⟩;unfold cq at h2;by_cases hio:i<o
        ·rw [WcH,Wan (by simp; omega),Wai,if_pos hio] at h2;exact gall.2 i a u h1 h2
        ·by_cases hik:i<o+min es.length n
         ·rw [WcH,Wal (by simp; omega),Wci,WcI (by omega),Wan (by omega)] at h2;obtain ⟨r,w1,w2⟩:=hf.2 _ _ h2;have gr:=(hrow1 r (WaI w1));rw [w2] at gr;have ha:a∈seg2:=by
           grind [ui]
          exact S.up (lQ hq.2 a ha) gr.head
         ·rw [Wal (by simp; omega)] at h2;simp only [List.length_append,Wci] at h2;rw [List.getElem?_drop,WcI (by omega),hk] at h2;rw [show o+min es.length n+(i-(o+min es.length n))=i by omega] at h2;exact gall.2 i a u h1 h2
       ·cases h
      ·cases h
    ·cases h
   ·cases h
 ·cases h
theorem zhV(hcb:S7 T D cb)(S:Sat s W Z){k:K}(h:mI cb s d ah k=some s'):StepA T D s s' W Z d ah k:=by
 have pure:(mf s k).map (λr=>r.1.put d r.2)=some s'->(∀ c,ck c 0 Z d ah k=(cJ Z k).map (λv=>Z.put d v))->StepA T D s s' W Z d ah k:=by
  intro e hk;simp only [Wag] at e;obtain ⟨⟨s1,a⟩,e,rfl⟩:=e;obtain ⟨ρ1,u,q1,q2,q3,q4⟩:=zik S e;exact ⟨ρ1,_,q2.put d q4,q3.trans (.same (by rw [pd])),Evt.all λc=>by rw [hk,q1]; rfl⟩
 cases k with
 | call f args xs=>exact zhF hcb S h
 | load agg n a take=>exact zhO S h
 | store n a x=>exact zgO S h
 | makeSlice sz bytes zero l c=>exact Zf S h
 | buildSlice sz n zero ps=>exact XH S h
 | append sz bytes x y=>exact zdE S h
 | copy sz x y=>exact zic S h
 | extract x i=>exact zbN S h
 | move x take=>
  simp [mI] at h;split at h
  ·cases h
  ·obtain ⟨ρ1,S1,E1⟩:=S.name x;split at h
   ·cases h;obtain ⟨S2,l1,l2⟩:=L5 S1 x;refine ⟨ρ1,_,S2.put d (by rw [l1]; exact (S1.src x).mv),E1.trans (.same (by rw [pd,l1])),Evt.all λc=>?_⟩
    grind [ck]
   ·cases h;refine ⟨ρ1,_,S1.put d (S1.src x).ag,E1.trans (.same (by rw [pd])),Evt.all λc=>?_⟩
    grind [ck]
 | alloc p cs=>
  obtain ⟨σ',r1,r2,r3⟩:=C7 S (X:=.live p cs) (f:=λid=>.ptr id 0) (.live p _ _ (ti cs)) (λid=>.ptr _ _ _ (nC _) (by rw [iO]; rfl)) h;exact ⟨W,σ',r2,.same (by rw [r3]),Evt.all λc=>by simp [ck]; exact r1⟩
 | box p x=>
  simp [mI] at h;split at h
  ·rename_i cs hx;have g:=jp S hx;generalize hv:x.get Z=v at g;cases g with
   | st _ vs hl hh=>
    split at h
    ·cases h
    ·obtain ⟨σ',r1,r2,r3⟩:=C7 S (X:=.live false vs) (f:=λid=>.ptr id 0) (.live false _ _ ⟨hl,hh⟩) (λid=>.ptr _ _ _ (nC _) (by rw [iO]; rfl)) h;exact ⟨W,σ',r2,.same (by rw [r3]),Evt.all λc=>by simp only [ck,hv,WaR,if_false]; exact r1⟩
  ·split at h
   ·rename_i b hb;obtain ⟨u,q1,q2,q3⟩:=lV (S.src x) hb;obtain ⟨σ',r1,r2,r3⟩:=C7 S (X:=.live p u.cells) (f:=λid=>.ptr id 0) (.live p _ _ q3) (λid=>.ptr _ _ _ (nC _) (by rw [iO]; rfl)) h;refine ⟨W,σ',r2,.same (by rw [r3]),Evt.all λc=>?_⟩;simp only [ck];split
    ·rename_i cs hcs; rw [hcs] at q1; cases q1
    ·rw [q1]; exact r1
   ·cases h
 | ofStr x=>
  simp [mI] at h;split at h
  ·rename_i str hx;have g:=jp S hx;generalize hv:x.get Z=v at g;cases g;cases h;refine ⟨W,_,S.put d (v:=.sl 1 (xc str)) ?_,.same (by rw [pd]),Evt.all λc=>by simp only [ck,WaR,if_false,hv]⟩;refine tc (q:=0) ?_;unfold xc;refine All2.map (R:=λ(a b:UInt8)=>a=b) (λa b e=>?_) ⟨rfl,λi a b h1 h2=>by rw [h1] at h2; exact WcJ h2⟩;subst e;have:=G.int (N:=s.iv.length) (W:=W) .u8 (.lit (a.toNat:Int)) (nC _);rw [iO] at this;exact .cons this .nil
  ·cases h
 | pick c a b=>exact pure h (λc=>rfl)
 | build z ps=>exact pure h (λc=>rfl)
 | az z ps=>exact pure h (λc=>rfl)
 | nilCheck x=>exact pure h (λc=>rfl)
 | bin op x y=>exact pure h (λc=>rfl)
 | aW a b c d=>exact pure h (λc=>rfl)
 | bH a b c=>exact pure h (λc=>rfl)
 | un op x=>exact pure h (λc=>rfl)
 | conv k x=>exact pure h (λc=>rfl)
 | toStr x=>exact pure h (λc=>rfl)
 | adc a b c d=>exact pure h (λc=>rfl)
 | ay a b c d e f=>exact pure h (λc=>rfl)
 | aT a b c d e=>exact pure h (λc=>rfl)
 | aD a b c d=>exact pure h (λc=>rfl)
 | fieldAddr a b=>exact pure h (λc=>rfl)
 | field a b c d=>exact pure h (λc=>rfl)
 | al a b c d=>exact pure h (λc=>rfl)
 | aj a b c=>exact pure h (λc=>rfl)
 | aR a b c d e=>exact pure h (λc=>rfl)
 | bi a=>exact pure h (λc=>rfl)
 | aJ a=>exact pure h (λc=>rfl)
 | mm a b c=>exact pure h (λc=>rfl)
 | pull a b=>exact pure h (λc=>rfl)
 | _=>cases h
end
end
section
variable {g:Option (Nat × Bool)}{b:Bool}{c:Cnd}{j N:Nat}{ss:List SS}{o:COp}{a:A}{v:V}{d:Option Nat}
section
variable {s s':SS} {W ρ':Nat->Int} {Z σ':St} {T:Nat->Option CF} {D:Nat} {cb:ACB}
theorem pK(S:Sat s W Z)(h:HB s g=some b):iS Z g=some b:=by
 unfold HB at h;split at h
 ·exact h
 ·split at h
  ·rename_i j want _ b' ht;obtain ⟨v,hv,gv⟩:=S.ts.get ht;cases gv
   grind [iS]
  ·rename_i j want _ ht;obtain ⟨v,hv,gv⟩:=S.ts.get ht;cases gv
   grind [iS]
  ·cases h
theorem zcq(S:Sat s W Z)(b:Bool)(h:zba (s.dec c)=some b):c.not.ev W=b:=by
 unfold zba at h
 grind [Sat.dec,TV]
theorem zfP(S:Sat s W Z)(ht:s.t[j]?=some (.cmp c))
  (h:ss=(match s.assume (s.dec c) c with | some s1=>[s1.put (some j) (.ex (.sc (.bool true)))] | none=>[])++(match s.assume (zba (s.dec c)) c.not with | some s1=>[s1.put (some j) (.ex (.sc (.bool false)))] | none=>[])):∃ s1∈ss,Sat s1 W Z/\Ext s s1 W W:=by
 obtain ⟨v,hv,gv⟩:=S.ts.get ht;cases gv with
 | cmp _ hb=>
  cases hc:c.ev W with
  | true=>
   obtain ⟨s1,e1,S1,l1,l2,l3⟩:=S.assume (λb h=>S.dec h) hb hc;rw [e1] at h;refine ⟨s1.put (some j) (.ex (.sc (.bool true))),by rw [h]; simp,?_,.same (by rw [pd,l1])⟩;refine S1.retell (t:=j) (a:=.ex (.sc (.bool true))) (λw hw=>?_);rw [hv] at hw; cases hw;rw [hc]; exact .ex _
  | false=>
   obtain ⟨s1,e1,S1,l1,l2,l3⟩:=S.assume (zcq S) (ZB hb) (by rw [TV,hc]; rfl);rw [e1] at h;refine ⟨s1.put (some j) (.ex (.sc (.bool false))),by rw [h]; simp,?_,.same (by rw [pd,l1])⟩;refine S1.retell (t:=j) (a:=.ex (.sc (.bool false))) (λw hw=>?_);rw [hv] at hw; cases hw;rw [hc]; exact .ex _
theorem zcu(S:Sat s W Z)(hv:Z.t[j]?=some (.sc (.bool b))):Sat (s.put (some j) (.ex (.sc (.bool b)))) W Z:=
 S.retell (t:=j) (a:=.ex (.sc (.bool b))) (λw hw=>by rw [hv] at hw; cases hw; exact .ex _)
theorem Yp(S:Sat s W Z)(h:UH s g=some ss):∃ s1∈ss,Sat s1 W Z/\Ext s s1 W W:=by
 unfold UH at h;split at h
 ·cases h; exact ⟨s,by simp,S,.refl⟩
 ·split at h
  ·cases h; exact ⟨s,by simp,S,.refl⟩
  ·cases h; exact ⟨s,by simp,S,.refl⟩
  ·rename_i j _ _ c ht;exact zfP S ht (WcJ h).symm
  ·rename_i j _ _ ht;obtain ⟨v,hv,gv⟩:=S.ts.get ht;cases gv with
   | bool b=>
    cases h;cases b with
    | true=>exact ⟨_,by simp,zcu S hv,.same (by rw [pd])⟩
    | false=>exact ⟨_,by simp,zcu S hv,.same (by rw [pd])⟩
  ·cases h
theorem zaD(hcb:S7 T D cb)(S:Sat s W Z)(h:Zn cb s o=some s'):∃ ρ' σ',Sat s' ρ' σ'/\Ext s s' W ρ'/\Evt T D (λc=>dz c 0 Z o=some σ'):=by
 unfold Zn at h;split at h
 ·rename_i hg;obtain ⟨ρ1,σ1,q1,q2,q3⟩:=zhV hcb S h
  grind [pK,dz]
 ·rename_i hg;cases h;exact ⟨W,_,S.put _ (.ex _),.same (by rw [pd]),Evt.all λc=>by grind [pK,dz]⟩
 ·cases h
theorem C5{α Y:Type}{f:α->Option (List Y)}:∀ {l:List α} {r:List Y},Je f l=some r->∀ x∈l,∃ y,f x=some y/\∀ z∈y,z∈r
 | [],r,h,x,hx=>by cases hx
 | a::l,r,h,x,hx=>by
  unfold Je at h;split at h
  ·rename_i y m h1 h2;cases h;rcases WbL.1 hx with rfl | hx
   ·grind
   ·obtain ⟨w,h3,h4⟩:=C5 h2 x hx
    grind
  ·cases h
theorem zcm(hcb:S7 T D cb):∀ {ops:List COp} {s:SS} {W:Nat->Int} {Z:St} {outs:List SS},Sat s W Z->zdI cb ops s=some outs->∃ s'∈outs,∃ ρ' σ',Sat s' ρ' σ'/\Ext s s' W ρ'/\Evt T D (λc=>pQ c 0 ops Z=some σ')
 | [],s,W,Z,outs,S,h=>by cases h; exact ⟨s,by simp,W,Z,S,.refl,Evt.all λc=>rfl⟩
 | o::ops,s,W,Z,outs,S,h=>by
  unfold zdI at h;split at h
  ·rename_i ss hs;obtain ⟨s1,m1,S1,E1⟩:=Yp S hs;obtain ⟨y,h1,h2⟩:=C5 h s1 m1;split at h1
   ·rename_i s2 h3;obtain ⟨ρ2,σ2,S2,E2,ev2⟩:=zaD hcb S1 h3;obtain ⟨s3,m3,ρ3,σ3,S3,E3,ev3⟩:=zcm hcb S2 h1;refine ⟨s3,h2 _ m3,ρ3,σ3,S3,(E1.trans E2).trans E3,(ev2.and ev3).imp λc hc=>?_⟩
    grind [pQ]
   ·cases h1
  ·cases h
theorem zfL(g:G N W a v){id:Nat}(h:idA a=some id):BE v=some id:=by
 cases g with
 | ptr=>cases h; rfl
 | own=>cases h; rfl
 | _=>cases h
theorem zdA(g:G N W a v)(h:zcz a=true):BE v=none/\zbm v=true:=by
 have m:∀ {q sz:Nat} {es:Ls},(q=0∨q=1)->BE (mkL q sz es)=none/\zbm (mkL q sz es)=true:=by
  rintro q sz es (rfl | rfl) <;> exact ⟨rfl,rfl⟩
 cases g with
 | fp=>exact ⟨rfl,rfl⟩
 | ak q sz n row es hn hl hr hh=>
  cases q with
  | zero=>exact m (.inl rfl)
  | succ q=>cases q with
   | zero=>exact m (.inr rfl)
   | succ q=>cases h
 | ai q sz lo hi row es hl hr hh=>
  cases q with
  | zero=>exact m (.inl rfl)
  | succ q=>cases q with
   | zero=>exact m (.inr rfl)
   | succ q=>cases h
 | am q sz rows es hl hr hh=>
  cases q with
  | zero=>exact m (.inl rfl)
  | succ q=>cases q with
   | zero=>exact m (.inr rfl)
   | succ q=>cases h
 | _=>cases h
theorem R0(g:G N W a v)(h:Zx a=true):(∃ sz es,v=.gs sz es)∨∃ sz es,v=.fr sz es:=by
 have m:∀ {q sz:Nat} {es:Ls},q≠0->(∃ sz' es',mkL q sz es=.gs sz' es')∨∃ sz' es',mkL q sz es=.fr sz' es':=by
  intro q sz es hq;cases q with
  | zero=>exact absurd rfl hq
  | succ q=>cases q with
   | zero=>exact .inl ⟨_,_,rfl⟩
   | succ q=>exact .inr ⟨_,_,rfl⟩
 cases g with
 | ak q sz n row es hn hl hr hh=>exact m (λe=>by subst e; cases h)
 | ai q sz lo hi row es hl hr hh=>exact m (λe=>by subst e; cases h)
 | am q sz rows es hl hr hh=>exact m (λe=>by subst e; cases h)
 | _=>cases h
theorem zio(S:Sat s W Z){r id:Nat}(h:zer s r id=true):O0 Z r id=true:=by
 unfold zer at h;split at h
 ·rename_i a ha;obtain ⟨v,hv,g⟩:=S.ts.get ha
  grind [zfL,O0]
 ·cases h
theorem zfZ(S:Sat s W Z){K:List Nat}{r:Nat}(h:za0 s K r=true):yD Z K r=true:=by
 unfold za0 at h;split at h
 ·rename_i a ha;obtain ⟨v,hv,g⟩:=S.ts.get ha
  grind [yD,zfL,zdA]
 ·cases h
theorem VL(S:Sat s W Z){args:List (Src × Nat)}{av:List A}(h:qI (ER s) args=some av):∃ vs,args.mapM (jh Z)=some vs/\jA 0 Z d vs args []=args.filterMap (λx=>JK (s.src x.1))++d.toList:=by
 obtain ⟨vs,q1,q2,q3,q4⟩:=RP S h;refine ⟨vs,q1,?_⟩;have hrefs:vs.flatMap eg=[]:=WbH.2 λv hv=>(q3 v hv).1;have hids:gZ (dG Z args Z.b) vs=[]:=by unfold gZ; rw [hrefs]; rfl
 have hown:∀ {args:List (Src × Nat)} {av:List A},qI (ER s) args=some av->args.filterMap (λx=>gS (x.1.get Z))=args.filterMap (λx=>JK (s.src x.1)):=by
  intro args
  induction args with
  | nil=>intro av h; rfl
  | cons x args ih=>
   grind [za3,qI]
 unfold jA;rw [hids,hown h];cases d with
 | none=>simp
 | some d=>simp
theorem zjd(S:Sat s W Z){K:List Nat}(h:zhZ s o=some K):kOf 0 Z o=some K:=by
 unfold zhZ at h;split at h
 ·cases h
 ·grind [pK,kOf]
 ·rename_i hg;simp only [kOf,pK S hg];split at h
  ·rename_i agg n a take hk;rw [hk];simp only;split at h
   ·rename_i id off hx;have g:=jp S hx;generalize hv:a.get Z=v at g;cases g; exact h
   ·rename_i cs hx;have g:=jp S hx;generalize hv:a.get Z=v at g;cases g; exact h
   ·cases h
  ·rename_i n a x hk;rw [hk];simp only;split at h
   ·rename_i id off hx;have g:=jp S hx;generalize hv:a.get Z=v at g;cases g; exact h
   ·cases h
  ·rename_i hk; rw [hk]; simpa using h
  ·rename_i hk; rw [hk]; simpa using h
  ·rename_i hk; rw [hk]; simpa using h
  ·rename_i hk; rw [hk]; simpa using h
  ·rename_i hk; rw [hk]; simpa using h
  ·rename_i hk; rw [hk]; exact h
  ·rename_i sz bytes x y hk;rw [hk];simp only;have gx:=S.src x;have gy:=S.src y;split at h
   ·rename_i h1 h2 h3;have hy:∀ id off len sz,y.get Z≠.own id off len sz:=by
     intro id off len sz e;have:=zci gy h1 (λw e=>by rw [e] at h3; cases h3) (λe=>by rw [e] at h3; cases h3);rw [e] at this; cases this
    rcases R0 gx h2 with ⟨sz',es,e⟩ | ⟨sz',es,e⟩
    ·rw [e];cases hyv:y.get Z with
     | own id off len sz=>exact absurd hyv (hy _ _ _ _)
     | _=>simpa using h
    ·rw [e];cases hyv:y.get Z with
     | own id off len sz=>exact absurd hyv (hy _ _ _ _)
     | _=>simpa using h
   ·cases h
  ·rename_i f args hk;rw [hk];simp only;split at h
   ·rename_i av has;obtain ⟨vs,q1,q2⟩:=VL S (d:=o.dst) has;rw [q1];simp only [q2]; exact h
   ·cases h
  ·cases h
theorem zj4(S:Sat s W Z){fl:Fl}(h:zhP s o fl=true):ux 0 Z o fl=true:=by
 unfold zhP at h;split at h
 ·rename_i K hK;simp only [WaG] at h;obtain ⟨⟨⟨h1,h2⟩,h3⟩,h4⟩:=h;simp only [ux,zjd S hK,WaG];refine ⟨⟨⟨?_,?_⟩,?_⟩,?_⟩
  ·grind [zio]
  ·have e:∀ (d:Nat),(K.all λid=>Wae id (0+d))=K.all λid=>Wae id d:=λd=>by rw [Wau]
   rw [<- h2];congr 1;split
   ·rename_i d hd; rw [hd]; exact e d
   ·rename_i hd; rw [hd]
  ·exact Wbj.2 λr hr=>zfZ S (Wbj.1 h3 r hr)
  ·simpa using h4
 ·cases h
theorem VH(g:G N W a v)(h:PA a=true):Cd v=true:=by
 have m:∀ {q sz:Nat} {es:Ls},Nat.ble q 1=true->Cd (mkL q sz es)=true:=by
  intro q sz es hq;have hq:=lR hq;cases q with
  | zero=>rfl
  | succ q=>cases q with
   | zero=>rfl
   | succ q=>omega
 cases g with
 | ex v=>exact h
 | agg=>rfl
 | fp=>rfl
 | ak q sz n row es hn hl hr hh=>exact m h
 | ai q sz lo hi row es hl hr hh=>exact m h
 | am q sz rows es hl hr hh=>exact m h
 | _=>cases h
theorem zbI{b:List B}(g:G N W a v)(h:PA a=true):od b v=true:=by
 have h1:=VH g h;cases v with
 | fn f caps=>exact h1
 | sc v=>rfl
 | agg cs=>rfl
 | sl sz es=>rfl
 | gs sz es=>rfl
 | fp n cs=>rfl
 | _=>cases h1
theorem zae(S:Sat s W Z)(g:G s.iv.length W a v)(h:Od s a=true):od Z.b v=true:=by
 have m:∀ {q sz:Nat} {es:Ls},od Z.b (mkL q sz es)=true:=by
  intro q sz es; unfold mkL; split <;> rfl
 cases g with
 | own id o m off len sz ho hm h1 h2=>
  simp only [Od] at h;split at h
  ·rename_i cs hcs;obtain ⟨vs,hvs,_⟩:=zah S hcs;simp only [od,hvs]; rfl
  ·cases h
 | ptr=>cases h
 | any=>cases h
 | ex=>cases h
 | st=>cases h
 | ak=>exact m
 | ai=>exact m
 | am=>exact m
 | _=>rfl
theorem Uw(S:Sat s W Z)(h:PN s d=true):(match (generalizing:=false) d with | some d=>(match Z.t[d]? with | some v=>!wS v | none=>false) | none=>false)=true:=by
 unfold PN at h;cases d with
 | none=>cases h
 | some d=>
  simp only at h ⊢;have m:∀ {q sz:Nat} {es:Ls},wS (mkL q sz es)=false:=by
   intro q sz es; unfold mkL; split <;> rfl
  have key:∀ {a:A} {v:V},s.t[d]?=some a->Z.t[d]?=some v->G s.iv.length W a v->(∀ id o,a≠.ptr id o)->a≠.any->(∀ w,a=.ex w->wS w=false)->(match Z.t[d]? with | some v=>!wS v | none=>false)=true:=by
   intro a v h1 h2 g n1 n2 n3;rw [h2];simp only [Wbx];cases g with
   | ptr id o off ho hh=>exact absurd rfl (n1 _ _)
   | any=>exact absurd rfl n2
   | ex=>exact n3 _ rfl
   | ak=>exact m
   | ai=>exact m
   | am=>exact m
   | _=>rfl
  split at h
  ·cases h
  ·cases h
  ·rename_i w hw;obtain ⟨v,hv,g⟩:=S.ts.get hw;refine key hw hv g (λ_ _ e=>by cases e) (λe=>by cases e) (λw' e=>?_);cases e;simpa using h
  ·rename_i a n1 n2 n3 ha;obtain ⟨v,hv,g⟩:=S.ts.get ha;exact key ha hv g (λid o e=>n1 _ _ e) (λe=>n2 e) (λw e=>absurd e (n3 w))
  ·cases h
theorem zh3(S:Sat s W Z)(S':Sat s' ρ' σ')(h:zeC s o s'=true):xg Z o σ'=true:=by
 unfold zeC at h;split at h
 ·grind [pK,xg]
 ·rename_i hg;split at h
  ·rename_i f args xs d hk hd;simp only [WaG] at h;obtain ⟨⟨⟨h1,h2⟩,h3⟩,h4⟩:=h;have:=Uw S' h4;simp only [xg,pK S hg,hk,hd,WaG];refine ⟨⟨⟨h1,h2⟩,Wbj.2 λx hx=>?_⟩,this⟩;have:=Wbj.1 h3 x hx;simp only [WaG] at this ⊢;exact ⟨this.1,VH (S.src x.1) this.2⟩
  ·cases h
 ·cases h
end
end
section
variable {o:COp}
section
variable {s s':SS} {W ρ':Nat->Int} {Z σ':St} {T:Nat->Option CF} {D:Nat} {cb:ACB}
theorem XR{v:V}(h:(∃ sz es,v=.gs sz es)∨∃ sz es,v=.fr sz es):gS v=none/\zdG v=false/\zaa v=true:=by
 rcases h with ⟨_,_,rfl⟩ | ⟨_,_,rfl⟩ <;> exact ⟨rfl,rfl,rfl⟩
theorem Wt(q sz:Nat)(es:Ls):(match some (mkL q sz es) with | some (.bx _ _)=>false | some _=>true | none=>false)=true:=by
 match q with
 | 0=>rfl
 | 1=>rfl
 | n+2=>rfl
theorem zfN(S:Sat s W Z)(S':Sat s' ρ' σ')(h:zaC s o s'=true):j7 Z o σ'=true:=by
 unfold zaC at h;split at h
 ·rename_i hg;simp [j7,pK S hg];split at h
  ·rename_i hk; rw [hk]; exact h
  ·rename_i hk; rw [hk]
  ·rename_i hk; rw [hk]
  ·rename_i hk; rw [hk]
  ·rename_i hk; rw [hk]
  ·rename_i hk; rw [hk]; exact h
  ·rename_i hk; rw [hk]; exact h
  ·rename_i sz bytes x y hk;rw [hk];simp only [WaG] at h ⊢;obtain ⟨q1,q2,_⟩:=XR (R0 (S.src x) h.2)
   grind
  ·rename_i f args xs hk;rw [hk];simp only [WaG] at h ⊢;obtain ⟨⟨⟨h1,h2⟩,h3⟩,h4⟩:=h;have q:=Uw S' h4;refine ⟨⟨⟨h1,h2⟩,Wbj.2 λx hx=>?_⟩,q⟩;have:=Wbj.1 h3 x hx;simp only [WaG,WbA] at this ⊢;refine ⟨this.1,?_⟩;rcases this.2 with q | q
   ·exact zae S (S.src x.1) q
   ·exact zbI (S.src x.1) q
  ·rename_i x i hk;rw [hk];simp only [WaG] at h ⊢;refine ⟨h.1,?_⟩;have h2:=h.2;split at h2
   ·rename_i av hx;have g:=jp S hx;generalize hv:x.get Z=v at g;cases g with
    | ae _ vs hl hh=>
     have gl:GL s.iv.length W av vs:=⟨hl,hh⟩;simp only;have key:∀ {a:A},av[i]?=some a->(∀ p cs,a≠.bx p cs)->a≠.any->(∀ w,a≠.ex w)->(match vs[i]? with | some (.bx _ _)=>false | some _=>true | none=>false)=true:=by
      intro a ha n1 n2 n3;obtain ⟨w,hw,gw⟩:=gl.get ha;rw [hw];cases gw with
      | bx p cs vs hl hh=>exact absurd rfl (n1 _ _)
      | any=>exact absurd rfl n2
      | ex w=>exact absurd rfl (n3 w)
      | ak q sz n row es hn hl hr hh=>exact Wt _ _ _
      | ai q sz lo hi row es hl hr hh=>exact Wt _ _ _
      | am q sz rows es hl hr hh=>exact Wt _ _ _
      | _=>rfl
     split at h2
     ·cases h2
     ·cases h2
     ·cases h2
     ·rename_i a n1 n2 n3 ha;exact key ha (λp cs e=>n1 p cs (by rw [e])) (λe=>n2 (by rw [e])) (λw e=>n3 w (by rw [e]))
     ·cases h2
   ·cases h2
  ·rename_i hk1 hk2 hk3 hk4 hk5 hk6 hk7 hk8 hk9 hk10;cases hk:o.k with
   | load a b c d=>exact absurd hk (hk1 _ _ _ _)
   | toStr x=>exact absurd hk (hk2 _)
   | ofStr x=>exact absurd hk (hk3 _)
   | ay a b c d e f=>exact absurd hk (hk4 _ _ _ _ _ _)
   | move a b=>exact absurd hk (hk5 _ _)
   | buildSlice a b c d=>exact absurd hk (hk6 _ _ _ _)
   | makeSlice a b c d e=>exact absurd hk (hk7 _ _ _ _ _)
   | append a b c d=>exact absurd hk (hk8 _ _ _ _)
   | call a b c=>exact absurd hk (hk9 _ _ _)
   | extract a b=>exact absurd hk (hk10 _ _)
   | _=>first | (rw [hk] at h; done) | (rw [hk] at h; exact h) | (rw [hk] at h; cases h)
 ·rename_i hg; simp only [j7,pK S hg]
 ·cases h
theorem zia(S:Sat s W Z){r:Nat}(h:zep s o r=true):uE Z o r=true:=by
 unfold zep at h;simp at h;unfold uE;rw [h.1,Bool.true_and];have h2:=h.2;split at h2
 ·rename_i agg n p take hk;rw [hk];simp only;split at h2
  ·rename_i id o1 id' o2 e1 e2;obtain ⟨v,hv,g⟩:=S.ts.get e1;obtain ⟨w,hw,g'⟩:=S.ts.get e2;cases g; cases g';simp only [hv,hw]; exact h2
  ·rename_i cs a e1 e2;obtain ⟨v,hv,g⟩:=S.ts.get e1;obtain ⟨w,hw,g'⟩:=S.ts.get e2;cases g;simp [hv]
  ·cases h2
 ·cases h2
theorem zdY(S:Sat s W Z){id:Nat}(h:W0 s o id=true):BJ 0 Z o id=true:=by
 unfold W0 at h;unfold BJ;simp only [WbA] at h ⊢;rcases h with h | h
 ·exact .inl h
 ·refine .inr ?_;split at h
  ·grind [pK]
  ·rename_i hg;rw [pK S hg];simp only;split at h
   ·rename_i f args hk;rw [hk];simp only;split at h
    ·rename_i av has;obtain ⟨vs,q1,q2⟩:=VL S (d:=o.dst) has
     grind
    ·cases h
   ·grind
   ·grind
   ·cases h
  ·cases h
theorem Tv(S:Sat s W Z){o:COp}:∀ {w:List Nat},PF s o w=true->uo 0 Z o w=true
 | [],h=>rfl
 | r::w,h=>by
  simp [PF] at h;simp [uo];refine ⟨?_,Tv S h.2⟩;have h1:=h.1;split at h1
  ·rename_i id off ht;obtain ⟨v,hv,g⟩:=S.ts.get ht;cases g
   grind [zdY]
  ·rename_i cs ht;obtain ⟨v,hv,g⟩:=S.ts.get ht;cases g;simp [hv]
  ·cases h1
theorem zkh(S:Sat s W Z)(S':Sat s' ρ' σ'){fl:Fl}(h:flA s o fl s'=true):flT 0 Z o fl σ'=true:=by
 unfold flA at h;simp only [WaG] at h;obtain ⟨h1,h2⟩:=h;unfold flT;simp;constructor
 ·grind [Tv,kW,zj4,zfN,zia,zh3]
 ·unfold BT;simp only [WbA] at h2 ⊢;refine h2.imp id (λq=>?_);split at q
  ·rename_i d hd;rw [hd];simp only;split at q
   ·rename_i a ha;obtain ⟨v,hv,g⟩:=S'.ts.get ha;rw [hv];exact (XR (R0 g q)).2.2
   ·cases q
  ·cases q
theorem zc4(hcb:S7 T D cb):∀ {ops:List (COp × Fl)} {s:SS} {W:Nat->Int} {Z:St} {outs:List SS},Sat s W Z->zdx cb ops s=some outs->∃ s'∈outs,∃ ρ' σ',Sat s' ρ' σ'/\Ext s s' W ρ'/\Evt T D (λc=>vr c 0 ops Z=some σ')
 | [],s,W,Z,outs,S,h=>by cases h; exact ⟨s,by simp,W,Z,S,.refl,Evt.all λc=>rfl⟩
 | (o,q)::ops,s,W,Z,outs,S,h=>by
  unfold zdx at h;split at h
  ·rename_i ss hs;obtain ⟨s1,m1,S1,E1⟩:=Yp S hs;obtain ⟨y,h1,h2⟩:=C5 h s1 m1;split at h1
   ·rename_i s2 h3;obtain ⟨ρ2,σ2,S2,E2,ev2⟩:=zaD hcb S1 h3;split at h1
    ·rename_i hf;have hfl:=zkh S1 S2 hf;obtain ⟨s3,m3,ρ3,σ3,S3,E3,ev3⟩:=zc4 hcb S2 h1;refine ⟨s3,h2 _ m3,ρ3,σ3,S3,(E1.trans E2).trans E3,(ev2.and ev3).imp λc hc=>?_⟩
     grind [vr]
    ·cases h1
   ·cases h1
  ·cases h
theorem Gf:∀ {fz:List Nat} {s s':SS} {W:Nat->Int} {Z:St},Sat s W Z->At s fz=some s'->Sat s' W (tX 0 fz Z)/\s'.iv=s.iv
 | [],s,s',W,Z,S,h=>by cases h; exact ⟨S,rfl⟩
 | d::fz,s,s',W,Z,S,h=>by
  unfold At at h;unfold tX;split at h
  ·rename_i hd;rw [hd];simp;have keep:At s fz=some s'->fQ Z.b d=Z.b->Sat s' W (tX 0 fz { Z with b:=fQ Z.b d })/\s'.iv=s.iv:=by
    intro h e; rw [e]; exact Gf S h
   split at h
   ·rename_i c cs hb;obtain ⟨vs,hvs,gv⟩:=pV S hb;cases vs with
    | nil=>have:=gv.1; simp at this
    | cons v vs=>
     have e:fQ Z.b d=Z.b.set d (.fz (v::vs)):=by unfold fQ; rw [hvs]
     rw [e];obtain ⟨q1,q2⟩:=Gf (S.ab d (.fz _ _ gv)) h;exact ⟨q1,q2⟩
   ·rename_i x n1 hb;obtain ⟨y,hy,gy⟩:=S.bs.get hb;refine keep h ?_;unfold fQ;rw [hy];cases gy with
    | gone=>rfl
    | fz=>rfl
    | live p cs vs hg=>
     cases p with
     | false=>rfl
     | true=>
      cases vs with
      | nil=>rfl
      | cons v vs=>
       cases cs with
       | nil=>have:=hg.1; simp at this
       | cons c cs=>exact absurd rfl (n1 c cs)
   ·rename_i hb;refine keep h ?_;unfold fQ;rw [List.getElem?_eq_none (by rw [<- S.bs.1]; grind)]
  ·rename_i hd;rw [hd];simp only [Wau];split at h
   ·cases h
   ·rename_i n1;have e:ko Z.b (d-100000)=Z.b:=by
     unfold ko;split
     ·rename_i c cs hy;have hlt:d-100000<s.b.length:=by rw [S.bs.1]; grind
      have gy:=S.bs.2 _ _ _ (Wac hlt) hy
      exfalso
      generalize hx:s.b[d-100000]=x at gy;cases gy with
      | live p cs' vs hg=>exact n1 cs' (by grind)
     ·rfl
    rw [e]; exact Gf S h
end
end
section
variable {e:Ex}{l:List (Ex × SS)}
section
variable {s s' j:SS} {W ρ' ρj:Nat->Int} {Z σ':St} {T:Nat->Option CF} {D:Nat} {cb:ACB} {N0 Nj:Nat} {th:Th}
def zF(N0:Nat)(th:Th)(W:Nat->Int):Nat->Int:=λx=>if x<N0 then W x else match GI x th with
 | some e=>e.ev W
 | none=>0
def Low(N0:Nat)(W ρ':Nat->Int):Prop:=∀ x,x<N0->ρ' x=W x
theorem Low.refl:Low N0 W W:=λ_ _=>rfl
theorem Low.trans{ρ1 ρ2:Nat->Int}{M:Nat}(h:Low N0 W ρ1)(h':Low M ρ1 ρ2)(hM:N0<=M):Low N0 W ρ2:=λx hx=>by rw [h' x (by omega),h x hx]
theorem zm:Low N0 W (zF N0 th W):=λx hx=>by unfold zF; rw [if_pos hx]
theorem Xc{x:Nat}{e:Lin}(h:GI x th=some e)(hx:N0<=x):zF N0 th W x=e.ev W:=by
 grind [zF]
theorem zbw:∀ {th:Th} {x:Nat} {e:Lin},GI x th=some e->∃ p∈th,p.1=x
 | [],x,e,h=>by cases h
 | p::l,x,e,h=>by
  unfold GI at h;split at h
  ·simp_all
  ·obtain ⟨q,hq,e⟩:=zbw h; exact ⟨q,by simp [hq],e⟩
theorem zkB(h0:N0<=Nj)(hb:lm (λp=>Nat.blt p.1 Nj) th=true):Thm N0 th W (zF N0 th W) Nj:=
 ⟨zm,λx e h hx=>Xc h hx,h0,λx e h=>by
  obtain ⟨p,hp,rfl⟩:=zbw h; exact Hn (lQ hb p hp)⟩
theorem All2.up{α Y γ:Type}{R:α->Y->Prop}{S:α->γ->Prop}{T:Y->γ->Prop}(H:∀ a b c,R a b->S a c->T b c){l:List α}{m:List Y}{n:List γ}(h:All2 R l m)(h':All2 S l n):All2 T m n:=by
 refine ⟨by rw [<- h'.1,h.1],λi b c hb hc=>?_⟩;have hlt:i<l.length:=by rw [h'.1]; grind
 exact H l[i] b c (h.2 i _ b (Wac hlt) hb) (h'.2 i _ c (Wac hlt) hc)
theorem WP(B:Bnd s.iv W)(F:Fct s.fs W)(H:Thm N0 th W ρj Nj){n:Nat}{cs ds:List A}{vs:List V}(h:lY (leA N0 s th n) cs ds=true)(g:GL s.iv.length W cs vs):GL Nj ρj ds vs:=
 All2.up (R:=λa b=>leA N0 s th n a b=true) (S:=G s.iv.length W) (T:=G Nj ρj) (λa b c hab hg=>VB B F H n hab hg) (Dj h) g
theorem zjA(B':Bnd s.iv W)(F:Fct s.fs W)(H:Thm N0 th W ρj Nj){a j:BB}{x:B}(h:zd0 N0 s th a j=true)(g:GB s.iv.length W a x):GB Nj ρj j x:=by
 unfold zd0 at h;split at h
 ·cases g; exact .gone
 ·simp at h;obtain ⟨rfl,h2⟩:=h;cases g with
  | live _ _ vs hg=>exact .live _ _ _ (WP B' F H h2 hg)
 ·cases g with
  | fz _ vs hg=>exact .fz _ _ (WP B' F H h hg)
 ·cases h
theorem zcx(S:Sat s W Z):∀ {l:IV} {x:Nat},zdV N0 s th x l=true->∀ i q,l[i]?=some q->q.1<=zF N0 th W (x+i)/\zF N0 th W (x+i)<=q.2
 | [],x,h,i,q,hq=>by simp at hq
 | p::l,x,h,i,q,hq=>by
  simp [zdV] at h;obtain ⟨h1,h2⟩:=h;cases i with
  | succ i=>
   have:=zcx S h2 i q (by simpa using hq)
   grind
  | zero=>
   simp at hq;subst hq;rw [Nat.add_zero];split at h1
   ·rename_i e he;have key:zF N0 th W x=e.ev W:=by
     split at he
     ·rename_i hx; cases he; rw [vc]; exact zm x (Hn hx)
     ·rename_i hx; exact Xc he (ze4 hx)
    rw [key];simp only [WaG] at h1;have a1:=S.le h1.1;have a2:=S.le h1.2;rw [hJ,iO] at a1;rw [jN] at a2;omega
   ·cases h1
theorem T8(S:Sat s W Z)(h:leS N0 s j=some th):Sat j (zF N0 th W) Z/\N0<=j.iv.length:=by
 unfold leS at h;simp only at h;split at h
 ·rename_i hc;simp only [WaG] at hc;injection h with h
  subst h;generalize thB N0 (thL N0 [] s.t j.t) s.b j.b=th at hc ⊢;obtain ⟨⟨c1,c2,c3⟩,c4,c5,c6⟩:=hc;have c1:=lR c1;have H:Thm N0 th W (zF N0 th W) j.iv.length:=zkB c1 c2;refine ⟨⟨λx q hq=>?_,λf hf=>?_,λf hf=>?_,WP S.bnd S.fct H c3 S.ts,?_⟩,c1⟩
  ·have:=zcx S c5 x q hq
   rwa [Wau] at this
  ·have:=lQ c6 f hf;split at this
   ·rename_i e he;rw [<- (Mw H he).1]; exact S.le this
   ·cases this
  ·have:=lQ c6 f hf;split at this
   ·rename_i e he;exact (Mw H he).2
   ·cases this
  ·exact All2.up (R:=λa b=>zd0 N0 s th a b=true) (S:=GB s.iv.length W) (T:=GB j.iv.length (zF N0 th W)) (λa b c hab hg=>zjA S.bnd S.fct H hab hg) (Dj c4) S.bs
 ·cases h
def Hold(N0:Nat)(W:Nat->Int)(e:Ex)(Z:St)(l:List (Ex × SS)):Prop:=∃ s ρ',(e,s)∈l/\Sat s ρ' Z/\N0<=s.iv.length/\Low N0 W ρ'
theorem Hold.imp{e':Ex}{m:List (Ex × SS)}(H:∀ s,(e,s)∈l->(e',s)∈m)(h:Hold N0 W e Z l):Hold N0 W e' Z m:=by
 obtain ⟨s,r,h1,h2⟩:=h; exact ⟨s,r,H s h1,h2⟩
theorem zjF{s1 s2:SS}(h:zhB N0 s1 s2=some j)(S:Sat s W Z)(hs:s=s1∨s=s2):∃ ρ',Sat j ρ' Z/\N0<=j.iv.length/\Low N0 W ρ':=by
 unfold zhB at h;simp only at h;split at h
 ·rename_i h1 h2;cases h;rcases hs with rfl | rfl
  ·obtain ⟨q1,q2⟩:=T8 S h1; exact ⟨_,q1,q2,zm⟩
  ·obtain ⟨q1,q2⟩:=T8 S h2; exact ⟨_,q1,q2,zm⟩
 ·cases h
theorem zhh{a b:Ex}(h:zdm a b=true):a=b:=by
 cases a <;> cases b <;> first | rfl | (cases h; done) | (simp only [zdm] at h; rw [Wao h])
theorem WF{e e':Ex}{s0:SS}:∀ {l:List (Ex × SS)},Hold N0 W e' Z ((e,s0)::l)->Hold N0 W e' Z (OL N0 e s0 l)
 | [],h=>h
 | p::l,h=>by
  unfold OL;obtain ⟨s,r,hm,S,hN,hL⟩:=h;have rest:Hold N0 W e' Z ((e,s0)::l)->Hold N0 W e' Z (p::OL N0 e s0 l):=λq=>(WF q).imp λs h=>by simp [h]
  have skip:Hold N0 W e' Z (p::OL N0 e s0 l):=by
   simp only [WbL] at hm;rcases hm with hm | hm | hm
   ·exact rest ⟨s,r,by simp [hm],S,hN,hL⟩
   ·exact ⟨s,r,by simp [hm],S,hN,hL⟩
   ·exact rest ⟨s,r,by simp [hm],S,hN,hL⟩
  split
  ·rename_i he;have he:=zhh he;split
   ·rename_i j hj;simp only [WbL] at hm;have into:s=p.2∨s=s0->e'=p.1->Hold N0 W e' Z ((p.1,j)::l):=by
     intro h1 h2;obtain ⟨r1,S1,n1,l1⟩:=zjF hj S h1;exact ⟨j,r1,by simp [h2],S1,n1,hL.trans l1 (Wah _)⟩
    rcases hm with hm | hm | hm
    ·cases hm; exact into (.inr rfl) he
    ·exact into (.inl (by rw [<- hm])) (by rw [<- hm])
    ·exact ⟨s,r,by simp [hm],S,hN,hL⟩
   ·exact skip
  ·exact skip
theorem Mz(h:Hold N0 W e Z l):Hold N0 W e Z (PX N0 l):=by
 unfold PX;have key:∀ (l acc:List (Ex × SS)),Hold N0 W e Z (l++acc)->Hold N0 W e Z (l.foldl (λacc p=>OL N0 p.1 p.2 acc) acc):=by
  intro l
  induction l with
  | nil=>intro acc h; exact h
  | cons p l ih=>
   intro acc h;refine ih _ ?_;obtain ⟨s,r,hm,q⟩:=h;simp at hm;rcases hm with hm | hm | hm
   ·exact (WF (e:=p.1) (s0:=p.2) (l:=acc) (e':=e) ⟨s,r,by grind,q⟩).imp λs h=>Wbw _ h
   ·exact ⟨s,r,Wbv _ hm,q⟩
   ·exact (WF (e:=p.1) (s0:=p.2) (l:=acc) (e':=e) ⟨s,r,WcC _ hm,q⟩).imp λs h=>Wbw _ h
 exact key l [] (by rw [List.append_nil]; exact h)
theorem Iw(h:Hold N0 W e Z l):Hold N0 W e Z (O8 N0 l):=by
 grind [O8,Mz]
theorem OW(dead:Nat->Bool)(q sz:Nat)(es:Ls):qS dead (mkL q sz es)=mkL q sz es:=by
 match q with
 | 0=>rfl
 | 1=>rfl
 | n+2=>rfl
theorem zaf{N:Nat}{dead:Nat->Bool}{a:A}{v:V}(g:G N W a v):G N W (P1 dead a) (qS dead v):=by
 cases g with
 | ex v=>exact .ex _
 | ptr id o off ho h=>
  simp [P1,qS];cases dead id with
  | true=>exact .ex _
  | false=>exact .ptr _ _ _ ho h
 | own id o m off len sz ho hm h h'=>
  simp [P1,qS];cases dead id with
  | true=>exact .ex _
  | false=>exact .own _ _ _ _ _ _ ho hm h h'
 | ae cs vs hl hh=>
  cases cs with
  | nil=>cases vs with
   | nil=>exact .ex _
   | cons v vs=>simp at hl
  | cons c cs=>cases vs with
   | nil=>simp at hl
   | cons v vs=>exact .ex _
 | st cs vs hl hh=>
  simp [P1];split
  ·rename_i h1;have gl:GL N W cs vs:=⟨hl,hh⟩;have:qS dead (.st vs)=.st vs:=by
    simp only [qS];rw [if_neg];rw [List.any_eq_true]
    rintro ⟨v,hv,hd⟩
    obtain ⟨i,hi⟩:=Wbh.1 hv;have hlt:i<cs.length:=by rw [hl]; exact (Wam.1 hi).1
    have g:=hh i _ v (Wac hlt) hi;have h2:=lQ h1 _ (List.getElem_mem hlt);generalize cs[i]=a at g h2;cases g with
    | ex v=>cases v with
     | own id off len sz=>cases h2
     | _=>cases hd
    | own id o m off len sz ho hm h h'=>
     simp only [ziN] at h2;simp only at hd;rw [hd] at h2; cases h2
    | any=>cases h2
    | ak q sz n row es hn hl hr hh=>match q,hd with
     | 0,hd=>cases hd
     | 1,hd=>cases hd
     | n+2,hd=>cases hd
    | ai q sz lo hi row es hl hr hh=>match q,hd with
     | 0,hd=>cases hd
     | 1,hd=>cases hd
     | n+2,hd=>cases hd
    | am q sz rows es hl hr hh=>match q,hd with
     | 0,hd=>cases hd
     | 1,hd=>cases hd
     | n+2,hd=>cases hd
    | _=>cases hd
   rw [this]; exact .st _ _ hl hh
  ·exact .any _
 | any v=>exact .any _
 | ak q sz n row es hn hl hr hh=>rw [OW]; exact .ak q sz n row es hn hl hr hh
 | ai q sz lo hi row es hl hr hh=>rw [OW]; exact .ai q sz lo hi row es hl hr hh
 | am q sz rows es hl hr hh=>rw [OW]; exact .am q sz rows es hl hr hh
 | int k e h=>exact .int k e h
 | iv k lo hi n h=>exact .iv k lo hi n h
 | cmp c h=>exact .cmp c h
 | bool b=>exact .bool b
 | str s=>exact .str s
 | agg cs vs hl hh=>exact .agg cs vs hl hh
 | bx p cs vs hl hh=>exact .bx p cs vs hl hh
 | fp cs n vs hn hl hh=>exact .fp cs n vs hn hl hh
theorem XX{N:Nat}{dead:Nat->Bool}:∀ {ks:List Bool} {cs:List A} {vs:List V},GL N W cs vs->GL N W (Tt dead ks cs) (xj dead ks vs)
 | [],cs,vs,g=>by
  cases cs with
  | nil=>cases vs with
   | nil=>exact All2.nil
   | cons v vs=>have:=g.1; simp at this
  | cons c cs=>cases vs with
   | nil=>have:=g.1; simp at this
   | cons v vs=>exact All2.map (R:=G N W) (S:=G N W) (λa b h=>.ex _) g
 | k::ks,[],vs,g=>by
  cases vs with
  | nil=>exact All2.nil
  | cons v vs=>have:=g.1; simp at this
 | k::ks,c::cs,vs,g=>by
  cases vs with
  | nil=>have:=g.1; simp at this
  | cons v vs=>
   simp [Tt,xj];refine All2.cons ?_ (XX g.tail);cases k with
   | true=>exact zaf g.head
   | false=>exact .ex _
theorem Yc{N:Nat}{dead:Nat->Bool}:∀ {ks:List Bool} {cs:List BB} {vs:List B},All2 (GB N W) cs vs->All2 (GB N W) (VO dead ks cs) (D1 dead ks vs)
 | [],cs,vs,g=>by
  cases cs with
  | nil=>cases vs with
   | nil=>exact All2.nil
   | cons v vs=>have:=g.1; simp at this
  | cons c cs=>cases vs with
   | nil=>have:=g.1; simp at this
   | cons v vs=>exact All2.map (R:=GB N W) (S:=GB N W) (λa b h=>.gone) g
 | k::ks,[],vs,g=>by
  cases vs with
  | nil=>exact All2.nil
  | cons v vs=>have:=g.1; simp at this
 | k::ks,c::cs,vs,g=>by
  cases vs with
  | nil=>have:=g.1; simp at this
  | cons v vs=>
   simp [VO,D1];refine All2.cons ?_ (Yc g.tail);cases k with
   | true=>
    simp;cases g.head with
    | gone=>exact .gone
    | fz cs vs h=>exact .fz _ _ h
    | live p cs vs h=>cases p with
     | true=>exact .live _ _ _ h
     | false=>exact .live _ _ _ (All2.map (R:=G N W) (S:=G N W) (λa b h=>zaf h) h)
   | false=>exact .gone
theorem zac(S:Sat s W Z)(kt kb:List Bool):Sat (PC kt kb s) W (f4 0 kt kb Z):=⟨S.bnd,S.fct,S.fbd,XX S.ts,Yc S.bs⟩
theorem uA:∀ {l:List (Ex × SS)} {s:SS},(Ex.normal,s)∈l->s∈wT l
 | p::l,s,h=>by
  simp at h;unfold wT;rcases h with h | h
  ·rw [<- h]; simp
  ·split
   ·exact WcC _ (uA h)
   ·exact uA h
theorem xi:∀ {l:List (Ex × SS)} {e:Ex} {s:SS},(e,s)∈l->e≠.normal->(e,s)∈yB l
 | p::l,e,s,h,he=>by
  simp at h;unfold yB;rcases h with h | h
  ·grind
  ·split
   ·exact xi h he
   ·exact WcC _ (xi h he)
end
end
section
variable {P:Nat->CB->Prop}{e:Ex}{body:Nat->CB->St->Option (Ex × St)}{norm:St->St}{n k x:Nat}{σ1:St}{na:SS->SS}{outs:List (Ex × SS)}
def Evr(T:Nat->Option CF)(D:Nat)(P:Nat->CB->Prop):Prop:=∃ L0,∀ L,L0<=L->∀ n,D<=n->P L (wR (evF T C4 L n))
section
variable {s s' j:SS} {W ρ' ρj:Nat->Int} {Z σ':St} {T:Nat->Option CF} {D:Nat} {cb:ACB} {N0 Nj:Nat} {th:Th}
theorem Evr.all(h:∀ L c,P L c):Evr T D P:=⟨0,λL _ n _=>h _ _⟩
theorem Evr.imp{Q:Nat->CB->Prop}(H:∀ L c,P L c->Q L c)(h:Evr T D P):Evr T D Q:=by
 obtain ⟨L0,h⟩:=h; exact ⟨L0,λL hL n hn=>H _ _ (h L hL n hn)⟩
theorem Evr.and{Q:Nat->CB->Prop}(h:Evr T D P)(h':Evr T D Q):Evr T D (λL c=>P L c/\Q L c):=by
 obtain ⟨L0,h⟩:=h; obtain ⟨L1,h'⟩:=h';exact ⟨L0+L1,λL hL n hn=>⟨h L (by omega) n hn,h' L (by omega) n hn⟩⟩
theorem Evr.big(k:Nat)(h:∀ L c,k<=L->P L c):Evr T D P:=⟨k,λL hL n _=>h _ _ hL⟩
theorem Evt.r{P:CB->Prop}(h:Evt T D P):Evr T D (λ_ c=>P c):=h
def Reach(T:Nat->Option CF)(D N0:Nat)(W:Nat->Int)(f:Nat->CB->Option (Ex × St))(outs:List (Ex × SS)):Prop:=∃ ex σ',Hold N0 W ex σ' outs/\Evr T D (λL c=>f L c=some (ex,σ'))
theorem Reach.mono{f:Nat->CB->Option (Ex × St)}{l m:List (Ex × SS)}(H:∀ ex σ',Hold N0 W ex σ' l->Hold N0 W ex σ' m)(h:Reach T D N0 W f l):Reach T D N0 W f m:=by
 obtain ⟨ex,σ1,h1,h2⟩:=h; exact ⟨ex,σ1,H _ _ h1,h2⟩
theorem Hold.low{M:Nat}{l:List (Ex × SS)}(hN:N0<=M)(hL:Low N0 W ρ')(h:Hold M ρ' e Z l):Hold N0 W e Z l:=by
 obtain ⟨s,r,h1,h2,h3,h4⟩:=h;exact ⟨s,r,h1,h2,by omega,hL.trans h4 hN⟩
theorem Reach.low{M:Nat}{f:Nat->CB->Option (Ex × St)}{l:List (Ex × SS)}(hN:N0<=M)(hL:Low N0 W ρ')(h:Reach T D M ρ' f l):Reach T D N0 W f l:=by
 obtain ⟨ex,σ1,h1,h2⟩:=h; exact ⟨ex,σ1,h1.low hN hL,h2⟩
theorem Ext.low(h:Ext s s' W ρ')(hN:N0<=s.iv.length):Low N0 W ρ':=λx hx=>h.eq x (by omega)
def zdD(T:Nat->Option CF)(D N0:Nat)(f:Nat->CB->St->Option (Ex × St))(fa:SS->Option (List (Ex × SS))):Prop:=∀ s W Z outs,Sat s W Z->N0<=s.iv.length->fa s=some outs->Reach T D N0 W (λL c=>f L c Z) outs
theorem zfd{body:St->Option (Ex × St)}(h:body (norm Z)=some (.normal,σ1)):qx body norm (n+1) Z=qx body norm n σ1:=by simp [qx,h]
theorem zgN{body:St->Option (Ex × St)}(he:e≠.normal)(h:body (norm Z)=some (e,σ1)):qx body norm (n+1) Z=some (e,σ1):=by
 grind [qx]
def Ends(T:Nat->Option CF)(D:Nat)(body:Nat->CB->St->Option (Ex × St))(norm:St->St)(k:Nat)(Z:St)(e:Ex)(σ':St):Prop:=Evr T D (λL c=>∀ n,k<=n->qx (body L c) norm n Z=some (e,σ'))
theorem Ends.loop(h:Ends T D body norm k Z e σ'):Evr T D (λL c=>qx (body L c) norm L Z=some (e,σ')):=
 (Evr.and h (Evr.big (P:=λL _=>k<=L) k λL c h=>h)).imp λL c h=>h.1 L h.2
theorem Ends.here(he:e≠.normal)(h:Evr T D (λL c=>body L c (norm Z)=some (e,σ'))):Ends T D body norm 1 Z e σ':=
 h.imp λL c h n hn=>by
  obtain ⟨m,rfl⟩:∃ m,n=m+1:=⟨n-1,by omega⟩;exact zgN he h
theorem Ends.next(h:Evr T D (λL c=>body L c (norm Z)=some (.normal,σ1)))(h':Ends T D body norm k σ1 e σ'):Ends T D body norm (k+1) Z e σ':=
 (Evr.and h h').imp λL c h n hn=>by
  obtain ⟨m,rfl⟩:∃ m,n=m+1:=⟨n-1,by omega⟩;rw [zfd h.1]; exact h.2 m (by omega)
theorem YN{body:Nat->CB->St->Option (Ex × St)}{norm:St->St}{ba:SS->Option (List (Ex × SS))}{na:SS->SS}(hb:zdD T D N0 body ba)
  (hn:∀ s W Z,Sat s W Z->Sat (na s) W (norm Z)) (hl:∀ s,(na s).iv=s.iv):∀ {n:Nat} {s:SS} {W:Nat->Int} {Z:St} {outs:List (Ex × SS)},Sat s W Z->N0<=s.iv.length->We N0 ba na n s=some outs->∃ e σ' k,Hold N0 W e σ' outs/\Ends T D body norm k Z e σ'
 | 0,s,W,Z,outs,S,hN,h=>by cases h
 | n+1,s,W,Z,outs,S,hN,h=>by
  unfold We at h;split at h
  ·rename_i o1 h1;split at h
   ·rename_i r h2;cases h;obtain ⟨e,σ1,⟨s1,ρ1,m1,S1,n1,l1⟩,ev⟩:=hb _ _ _ _ (hn _ _ _ S) (by rw [hl]; exact hN) h1;by_cases he:e=.normal
    ·subst he;obtain ⟨y,hy,hm⟩:=C5 h2 s1 (uA m1);obtain ⟨e2,σ2,k,H2,E2⟩:=YN hb hn hl S1 n1 hy;exact ⟨e2,σ2,k+1,(H2.low (Wah _) l1).imp λs h=>Wbw _ (hm _ h),Ends.next ev E2⟩
    ·exact ⟨e,σ1,1,⟨s1,ρ1,Wbv _ (xi m1 he),S1,n1,l1⟩,Ends.here he ev⟩
   ·cases h
  ·cases h
theorem zgA(S:Sat s W Z){up:Bool}(h:Lh s th x up=true)(hx:N0<=x):(if up then W x+1<=zF N0 th W x else zF N0 th W x+1<=W x):=by
 unfold Lh at h;split at h
 ·rename_i e he;rw [Xc he hx];split at h
  ·have:=S.le h;rw [jN,hJ,vc] at this;rw [if_pos rfl]; omega
  ·have:=S.le h;rw [jN,hJ,vc] at this;rw [if_neg (by simp)]; omega
 ·cases h
theorem zaK{l:List SS}:∀ {n:Nat} {x:Nat} {up:Bool},Zv N0 j l n=some (x,up)->PQ N0 j l x up=true
 | 0,x,up,h=>by cases h
 | n+1,x,up,h=>by
  unfold Zv at h;split at h
  ·grind
  ·split at h
   ·grind
   ·exact zaK h
theorem zjz{ba:SS->Option (List (Ex × SS))}(hb:zdD T D j.iv.length body ba)(h1:ba j=some outs)(hN:N0<=j.iv.length)
  (hn:∀ s W Z,Sat s W Z->Sat (na s) W (norm Z)) (hl:∀ s,(na s).iv=s.iv)  {up:Bool} (hc:PQ N0 j ((wT outs).map na) x up=true):∀ (m:Nat) {W:Nat->Int} {Z:St} (q:Int × Int),j.iv[x]?=some q->(if up then (q.2-W x).toNat<=m else (W x-q.1).toNat<=m)->Sat j W (norm Z)->∃ e σ' k,Hold N0 W e σ' (yB outs)/\Ends T D body norm k Z e σ':=by
 simp only [PQ,WaG] at hc;obtain ⟨hx0,hx1,hc⟩:=hc;have hx0:=lR hx0;have hx1:=Hn hx1;have one:∀ {W:Nat->Int} {Z:St} (q:Int × Int),j.iv[x]?=some q->Sat j W (norm Z)->(∃ e σ' k,Hold N0 W e σ' (yB outs)/\Ends T D body norm k Z e σ') ∨
   ∃ ρ1 σ1,Sat j ρ1 (norm σ1)/\Low N0 W ρ1/\(if up then W x+1<=ρ1 x/\ρ1 x<=q.2 else ρ1 x+1<=W x/\q.1<=ρ1 x)/\Evr T D (λL c=>body L c (norm Z)=some (.normal,σ1)):=by
  intro W Z q hq S;obtain ⟨e,σ1,⟨s1,ρ1,m1,S1,n1,l1⟩,ev⟩:=hb _ _ _ _ S (Wah _) h1;by_cases he:e=.normal
  ·subst he;have:=lQ hc _ (WcD (uA m1));split at this
   ·rename_i th hth;have Sn:=hn _ _ _ S1;obtain ⟨Sj,_⟩:=T8 Sn hth;have hcount:=zgA Sn this hx0;have hb:=Sj.bnd x q hq;refine .inr ⟨_,σ1,Sj,Low.trans (M:=N0) (λy hy=>l1 y (by omega)) zm (Wah _),?_,ev⟩
    ·rw [l1 x hx1] at hcount
     grind
   ·cases this
  ·exact .inl ⟨e,σ1,1,Hold.low (M:=j.iv.length) hN .refl ⟨s1,ρ1,xi m1 he,S1,n1,l1⟩,Ends.here he ev⟩
 intro m
 induction m with
 | zero=>
  intro W Z q hq hm S;rcases one q hq S with h | ⟨ρ1,σ1,S1,hL,hlt,ev⟩
  ·exact h
  ·cases up <;> simp only [WaR,if_false,if_true] at hm hlt <;> omega
 | succ m ih=>
  intro W Z q hq hm S;rcases one q hq S with h | ⟨ρ1,σ1,S1,hL,hlt,ev⟩
  ·exact h
  ·obtain ⟨e,σ2,k,H,E⟩:=ih q hq (by grind) S1;exact ⟨e,σ2,k+1,H.low (Wah _) hL,Ends.next ev E⟩
theorem zgT{ba:Nat->SS->Option (List (Ex × SS))}(hb:zdD T D j.iv.length body (ba j.iv.length))
  (hn:∀ s W Z,Sat s W Z->Sat (na s) W (norm Z)) (hl:∀ s,(na s).iv=s.iv) (h:zeq N0 ba na s j=some outs) (S:Sat s W Z) (hN:N0<=s.iv.length):∃ e σ' k,Hold N0 W e σ' outs/\Ends T D body norm k Z e σ':=by
 unfold zeq at h;split at h
 ·rename_i th hth;obtain ⟨Sj,hNj⟩:=T8 (hn _ _ _ S) hth;split at h
  ·rename_i o1 h1;split at h
   ·rename_i h2;cases h;obtain ⟨e,σ1,⟨s1,ρ1,m1,S1,n1,l1⟩,ev⟩:=hb _ _ _ _ Sj (Wah _) h1;by_cases he:e=.normal
    ·subst he;have:=uA m1;rw [h2] at this; cases this
    ·exact ⟨e,σ1,1,Hold.low (M:=j.iv.length) hNj zm ⟨s1,ρ1,xi m1 he,S1,n1,l1⟩,Ends.here he ev⟩
   ·split at h
    ·rename_i r hr;cases h;have hc:=zaK (x:=r.1) (up:=r.2) hr;have hx1:r.1<j.iv.length:=by
      simp only [PQ,WaG] at hc;exact Hn hc.2.1
     obtain ⟨e,σ2,k,H,E⟩:=zjz (N0:=N0) hb h1 hNj hn hl hc (if r.2 then (j.iv[r.1].2-zF N0 th W r.1).toNat else (zF N0 th W r.1-j.iv[r.1].1).toNat) _ (Wac hx1) (by cases r.2 <;> simp) Sj;exact ⟨e,σ2,k,H.low (Wah _) zm,E⟩
    ·cases h
  ·cases h
 ·cases h
theorem ziR{t:Nat}{v:V}(h:Z.t[t]?=some v):Z.put (some t) v=Z:=by
 unfold St.put;have:Z.t.set t v=Z.t:=by
  obtain ⟨hl,rfl⟩:=Wam.1 h;simp
 simp [this]
theorem Ti(S:Sat s W Z){x:Src}{b:Bool}(hv:x.get Z=.sc (.bool b)):Sat (zeG s x b) W Z:=by
 cases x with
 | const v=>exact S
 | tmp t=>
  have:=S.put (some t) (G.ex (N:=s.iv.length) (W:=W) (.sc (.bool b)));have hw:Z.t[t]?=some (.sc (.bool b)):=by
   grind [Src.get]
  rw [ziR hw] at this;exact this
theorem zfv(S:Sat s W Z){x:Src}{l:List (Bool × SS)}(h:Z8 s x=some l):∃ b s1,(b,s1)∈l/\Sat s1 W Z/\s1.iv.length=s.iv.length/\x.get Z=.sc (.bool b):=by
 unfold Z8 at h;have g:=S.src x;split at h
 ·rename_i b hx;rw [hx] at g;cases h;generalize x.get Z=v at g ⊢;cases g
  grind
 ·rename_i c hx;rw [hx] at g;simp at h;subst h;generalize hv:x.get Z=v at g ⊢;cases g with
  | cmp c hb=>
   cases hc:c.ev W with
   | true=>
    obtain ⟨s1,e1,S1,n1,_,_⟩:=S.assume (λb h=>S.dec h) hb hc;refine ⟨true,_,Wbv _ (by rw [e1]; exact WcG.2 rfl),?_,?_,rfl⟩
    ·exact Ti S1 (by rw [hv,hc])
    ·cases x <;> exact n1
   | false=>
    obtain ⟨s1,e1,S1,n1,_,_⟩:=S.assume (zcq S) (ZB hb) (by rw [TV,hc]; rfl);refine ⟨false,_,Wbw _ (by rw [e1]; exact WcG.2 rfl),?_,?_,rfl⟩
    ·exact Ti S1 (by rw [hv,hc])
    ·cases x <;> exact n1
 ·rename_i hx;rw [hx] at g;split at h
  ·rename_i t;cases h;generalize hv:Src.get Z (.tmp t)=v at g ⊢;cases g with
   | bool b=>
    have:=Ti S hv;refine ⟨b,_,?_,this,rfl,rfl⟩;cases b <;> simp [zeG]
  ·cases h
 ·cases h
end
end
section
variable {c:CB}{L:Nat}{a:CC}{e:Ex}
section
variable {s s' j:SS} {W ρ' ρj:Nat->Int} {Z σ':St} {T:Nat->Option CF} {D:Nat} {cb:ACB} {N0 Nj:Nat} {th:Th}
theorem zf2{b:CC}(h:run c 0 L a Z=some (.normal,σ')):run c 0 L (.seq a b) Z=run c 0 L b σ':=by simp [run,h]
theorem zgd{b:CC}(he:e≠.normal)(h:run c 0 L a Z=some (e,σ')):run c 0 L (.seq a b) Z=some (e,σ'):=by
 grind [run]
theorem zfJ{id:Nat}(h:run c 0 L a Z=some (e,σ')):run c 0 L (.block id a) Z=some (zeA id e,σ'):=by
 simp [run,h,zeA];cases e with
 | normal=>rfl
 | ret=>rfl
 | exit j=>
  simp only;by_cases hj:j=id
  ·subst hj; simp
  ·rw [if_neg hj];have:Wae j id=false:=by cases hb:Wae j id with
    | true=>exact absurd (Wao hb) hj
    | false=>rfl
   rw [this]
theorem zi1(hcb:S7 T D cb)(md:MD):∀ (cc:CC) (i N0:Nat),zdD T D N0 (λL c=>run c 0 L cc) (xx cb md cc i N0):=by
 intro cc
 induction cc with
 | skip=>
  intro i N0 s W Z outs S hN h;cases h;exact ⟨.normal,Z,⟨s,W,by simp,S,hN,.refl⟩,Evr.all λL c=>rfl⟩
 | bw ops=>
  intro i N0 s W Z outs S hN h;simp [xx] at h;obtain ⟨l,hl,rfl⟩:=h;obtain ⟨s1,m1,ρ1,σ1,S1,E1,ev⟩:=zcm hcb S hl;exact ⟨.normal,σ1,Iw ⟨s1,ρ1,WcD m1,S1,Nat.le_trans hN E1.le,E1.low hN⟩,ev.r.imp λL c h=>by simp only [run,h]; rfl⟩
 | bu fz ops=>
  intro i N0 s W Z outs S hN h;simp [xx] at h;split at h
  ·rename_i s0 h0;obtain ⟨S0,e0⟩:=Gf S h0;simp at h;obtain ⟨l,hl,rfl⟩:=h;obtain ⟨s1,m1,ρ1,σ1,S1,E1,ev⟩:=zc4 hcb S0 hl;have hN0:N0<=s0.iv.length:=by rw [e0]; exact hN
   exact ⟨.normal,σ1,Iw ⟨s1,ρ1,WcD m1,S1,Nat.le_trans hN0 E1.le,E1.low hN0⟩,ev.r.imp λL c h=>by simp only [run,h]; rfl⟩
  ·cases h
 | seq a b iha ihb=>
  intro i N0 s W Z outs S hN h;simp only [xx] at h;split at h
  ·rename_i o1 h1;split at h
   ·rename_i r h2;cases h;obtain ⟨e,σ1,⟨s1,ρ1,m1,S1,n1,l1⟩,ev⟩:=iha _ _ _ _ _ _ S hN h1;by_cases he:e=.normal
    ·subst he;obtain ⟨y,hy,hm⟩:=C5 h2 s1 (uA m1);obtain ⟨e2,σ2,H2,ev2⟩:=ihb _ _ _ _ _ _ S1 n1 hy;exact ⟨e2,σ2,(H2.low (Wah _) l1).imp λs h=>Wbw _ (hm _ h),(Evr.and ev ev2).imp λL c h=>(zf2 h.1).trans h.2⟩
    ·exact ⟨e,σ1,⟨s1,ρ1,Wbv _ (xi m1 he),S1,n1,l1⟩,ev.imp λL c h=>zgd he h⟩
   ·cases h
  ·cases h
 | cond x a b iha ihb=>
  intro i N0 s W Z outs S hN h;simp only [xx] at h;split at h
  ·rename_i l hl;simp only [Wag] at h;obtain ⟨o,ho,rfl⟩:=h;obtain ⟨t,s1,m1,S1,e1,hv⟩:=zfv S hl;obtain ⟨y,hy,hm⟩:=C5 ho _ m1;have hN1:N0<=s1.iv.length:=by rw [e1]; exact hN
   cases t with
   | true=>
    obtain ⟨e,σ1,H,ev⟩:=iha _ _ _ _ _ _ S1 hN1 hy;exact ⟨e,σ1,Iw (H.imp λs h=>hm _ h),ev.imp λL c h=>by simp [run,hv]; exact h⟩
   | false=>
    obtain ⟨e,σ1,H,ev⟩:=ihb _ _ _ _ _ _ S1 hN1 hy;exact ⟨e,σ1,Iw (H.imp λs h=>hm _ h),ev.imp λL c h=>by simp [run,hv]; exact h⟩
  ·cases h
 | block id a iha=>
  intro i N0 s W Z outs S hN h;simp only [xx,Wag] at h;obtain ⟨o,ho,rfl⟩:=h;obtain ⟨e,σ1,⟨s1,ρ1,m1,q⟩,ev⟩:=iha _ _ _ _ _ _ S hN ho;exact ⟨_,σ1,Mz ⟨s1,ρ1,WcD (f:=λp:Ex × SS=>(zeA id p.1,p.2)) m1,q⟩,ev.imp λL c h=>zfJ h⟩
 | loop kt kb a iha=>
  intro i N0 s W Z outs S hN h;simp only [xx] at h;have hn:∀ s W Z,Sat s W Z->Sat (PC kt kb s) W (f4 0 kt kb Z):=λs W Z S=>zac S kt kb;split at h
  ·split at h
   ·rename_i j hj;simp only [Wag] at h;obtain ⟨o,ho,rfl⟩:=h;obtain ⟨e,σ1,k,H,E⟩:=zgT (norm:=f4 0 kt kb) (iha (i+1) j.iv.length) hn (λs=>rfl) ho S hN;exact ⟨e,σ1,Mz H,E.loop⟩
   ·cases h
  ·simp only [Wag] at h;obtain ⟨o,ho,rfl⟩:=h;obtain ⟨e,σ1,k,H,E⟩:=YN (norm:=f4 0 kt kb) (iha (i+1) N0) hn (λs=>rfl) S hN ho;exact ⟨e,σ1,Mz H,E.loop⟩
 | mask kt kb=>
  intro i N0 s W Z outs S hN h;cases h;exact ⟨.normal,_,⟨_,W,by simp,zac S kt kb,hN,.refl⟩,Evr.all λL c=>rfl⟩
 | exit id=>
  intro i N0 s W Z outs S hN h;cases h;exact ⟨_,Z,⟨s,W,by simp,S,hN,.refl⟩,Evr.all λL c=>rfl⟩
 | ret=>
  intro i N0 s W Z outs S hN h;cases h;exact ⟨_,Z,⟨s,W,by simp,S,hN,.refl⟩,Evr.all λL c=>rfl⟩
 | fork p c a b=>
  intro i N0 s W Z outs S hN h;cases h
end
end
section
variable {v:V}{t:Nat}{a:A}{b:List B}
section
variable {s s' j:SS} {W ρ' ρj:Nat->Int} {Z σ':St} {T:Nat->Option CF} {D:Nat} {cb:ACB} {N0 Nj:Nat} {th:Th}
def IsRes(v:V):Prop:=(∃ x,v=.sc x)∨(∃ cs,v=.agg cs)∨(∃ sz es,v=.sl sz es)∨∃ sz es,v=.gs sz es
def Clean(v:V):Prop:=Pl v/\∀ vs,v≠.ae vs
theorem IsRes.clean(h:IsRes v):Clean v:=by
 rcases h with ⟨_,rfl⟩ | ⟨_,rfl⟩ | ⟨_,_,rfl⟩ | ⟨_,_,rfl⟩ <;> exact ⟨⟨rfl,λg=>rfl⟩,λvs h=>by cases h⟩
theorem IsRes.tmp(h:IsRes v)(e:Z.t.getD t .af=v):gH 0 Z (.tmp t)=some v/\gH 0 Z (.aH t)=some v/\jM 0 Z.b v=[]:=by
 simp only [gH,e];rcases h with ⟨_,rfl⟩ | ⟨_,rfl⟩ | ⟨_,_,rfl⟩ | ⟨_,_,rfl⟩ <;> exact ⟨rfl,rfl,rfl⟩
theorem XF{q sz:Nat}{es:Ls}(h:Nat.ble 2 q=false):IsRes (mkL q sz es):=by
 have:=NK h
 match q,this with
 | 0,_=>exact .inr (.inr (.inl ⟨_,_,rfl⟩))
 | 1,_=>exact .inr (.inr (.inr ⟨_,_,rfl⟩))
theorem zjJ{N:Nat}(g:G N W a v)(h:Nw a=true):IsRes v:=by
 cases g with
 | int k e hb=>exact .inl ⟨_,rfl⟩
 | iv k lo hi n hb=>exact .inl ⟨_,rfl⟩
 | cmp c hb=>exact .inl ⟨_,rfl⟩
 | bool b=>exact .inl ⟨_,rfl⟩
 | str s=>exact .inl ⟨_,rfl⟩
 | agg cs vs hl hh=>exact .inr (.inl ⟨_,rfl⟩)
 | ak q sz n row es hn hl hr hh=>grind [A.hard,XF,Nw]
 | ai q sz lo hi row es hl hr hh=>grind [A.hard,XF,Nw]
 | am q sz rows es hl hr hh=>grind [A.hard,XF,Nw]
 | _=>cases h
theorem zgJ(h:Nw a=true):Gu a=[]:=by
 cases a <;> first | rfl | cases h
structure ResOk (s:SS) (W:Nat->Int) (Z:St) (r:RV) (a:A) (v:V):Prop where
 one:gH 0 Z r=some v
 g:G s.iv.length W a v
 cl:Clean v
 gone:∀ t,r.slot=some t->Gu (s.t.getD t (.ex .af))=jM 0 Z.b (Z.t.getD t .af)
theorem Vf(S:Sat s W Z)(e:s.t.getD t (.ex .af)=a)(h:Nw a=true):∃ v,ResOk s W Z (.tmp t) a v/\ResOk s W Z (.aH t) a v:=by
 have g:G s.iv.length W a (Z.t.getD t .af):=by rw [<- e]; exact S.src (.tmp t)
 have r:=zjJ g h;obtain ⟨q1,q2,q3⟩:=r.tmp rfl;have gn:∀ u,some t=some u->Gu (s.t.getD u (.ex .af))=jM 0 Z.b (Z.t.getD u .af):=λu hu=>by grind [zgJ]
 exact ⟨_,⟨q1,g,r.clean,gn⟩,⟨q2,g,r.clean,gn⟩⟩
theorem zcP(S:Sat s W Z){x:Value}(e:s.t.getD t (.ex .af)=.ex (.sc x)):∃ v,ResOk s W Z (.tmp t) (.ex (.sc x)) v/\ResOk s W Z (.aH t) (.ex (.sc x)) v:=by
 have g:G s.iv.length W (.ex (.sc x)) (Z.t.getD t .af):=by rw [<- e]; exact S.src (.tmp t)
 have r:IsRes (Z.t.getD t .af):=by
  generalize Z.t.getD t .af=w at g;cases g; exact .inl ⟨_,rfl⟩
 obtain ⟨q1,q2,q3⟩:=r.tmp rfl;have gn:∀ u,some t=some u->Gu (s.t.getD u (.ex .af))=jM 0 Z.b (Z.t.getD u .af):=λu hu=>by cases hu; rw [q3,e]; rfl
 exact ⟨_,⟨q1,g,r.clean,gn⟩,⟨q2,g,r.clean,gn⟩⟩
theorem zbx{u:V}(h:v.plain=some u):Clean u:=by
 cases v with
 | fn f caps=>cases caps with
  | nil=>cases h; exact ⟨⟨rfl,λg=>rfl⟩,λvs h=>by cases h⟩
  | cons c cs=>cases h
 | _=>first | (cases h; done) | (cases h; exact ⟨⟨rfl,λg=>rfl⟩,λvs h=>by cases h⟩)
theorem zc1(S:Sat s W Z){r:RV}(h:Rx s r=some a):∃ v,ResOk s W Z r a v:=by
 cases r with
 | tmp t=>
  simp only [Rx] at h;have gt:G s.iv.length W (s.t.getD t (.ex .af)) (Z.t.getD t .af):=S.src (.tmp t);split at h
  ·rename_i id off len sz he;rw [he] at gt;generalize hw:Z.t.getD t .af=w at gt;cases gt with
   | own id o m off' a7 sz ho hm h1 h2=>
    split at h
    ·rename_i n cs e1 e2 e3;have e1:=lit?_ok (W:=W) e1;have e2:=lit?_ok (W:=W) e2;obtain ⟨vs,hvs,gv⟩:=pV S e3;split at h
     ·rename_i hc;cases h;simp only [WaG,WbA,Wbx] at hc;obtain ⟨c1,c2,c3,c4⟩:=hc;have hn:n.toNat=a7:=by omega
      have ho:off'=0:=by omega
      subst ho;have hlen:=gv.1;refine ⟨.fr sz (bY sz n.toNat vs),⟨?_,tc (q:=2) (wX gv),⟨⟨rfl,λg=>rfl⟩,λvs h=>by cases h⟩,λu hu=>?_⟩⟩
      ·simp only [gH,hw];rw [if_pos (WaK _),if_pos ⟨trivial,Hn c1⟩];simp only [hvs];rw [if_pos,hn];rcases c4 with q | q
       ·left;intro hz;have:isZ n=true:=by
         have:n=0:=by omega
         subst this; rfl
        rw [this] at q; cases q
       ·right;rw [<- hlen]; exact Wao q
      ·cases hu; rw [he,hw]; rfl
     ·cases h
    ·cases h
  ·rename_i id off he;rw [he] at gt;generalize hw:Z.t.getD t .af=w at gt;cases gt with
   | ptr id o off' ho h1=>
    split at h
    ·rename_i p c cs e1 e3;have e1:=lit?_ok (W:=W) e1;obtain ⟨vs,hvs,gv⟩:=pV S e3;have ho:off'=0:=by omega
     subst ho;have hne:vs.length≠0:=by rw [<- gv.1]; simp
     have gn:∀ u,RV.slot (.tmp t)=some u->Gu (s.t.getD u (.ex .af))=jM 0 Z.b (Z.t.getD u .af):=λu hu=>by cases hu; rw [he,hw]; rfl
     split at h
     ·cases h;refine ⟨.bx true vs,⟨?_,.bx _ _ _ gv.1 gv.2,⟨⟨rfl,λg=>rfl⟩,λvs h=>by cases h⟩,gn⟩⟩;simp only [gH,hw];rw [if_pos ⟨trivial,WaK _⟩];simp only [hvs];rw [if_pos hne]; rfl
     ·simp only [Wag] at h;obtain ⟨bs,hb,rfl⟩:=h;obtain ⟨ws,h3,g3⟩:=DZ S gv hb;refine ⟨.bx false ws,⟨?_,.bx _ _ _ g3.1 g3.2,⟨⟨rfl,λg=>rfl⟩,λvs h=>by cases h⟩,gn⟩⟩;simp only [gH,hw];rw [if_pos ⟨trivial,WaK _⟩];simp only [hvs];rw [if_pos hne];simp only [WaR,if_false,h3,Wbl]
    ·cases h
  ·rename_i v he;split at h
   ·rename_i x;cases h;obtain ⟨v,q,_⟩:=zcP S he;exact ⟨v,q⟩
   ·cases h
  ·split at h
   ·rename_i hh;cases h;obtain ⟨v,q,_⟩:=Vf S rfl hh;exact ⟨v,q⟩
   ·cases h
 | aH t=>
  grind [Rx,Vf,zcP]
 | cell t agg n=>
  simp only [Rx] at h;have gt:G s.iv.length W (s.t.getD t (.ex .af)) (Z.t.getD t .af):=S.src (.tmp t);split at h
  ·rename_i id off he;rw [he] at gt;generalize hw:Z.t.getD t .af=w at gt;cases gt with
   | ptr id o off' ho h1=>
    split at h
    ·rename_i p cs e1 e3;have e1:=lit?_ok (W:=W) e1;obtain ⟨vs,hvs,gv⟩:=pV S e3;have ho:off'=0:=by omega
     subst ho;have gn:∀ u,RV.slot (.cell t agg n)=some u->Gu (s.t.getD u (.ex .af))=jM 0 Z.b (Z.t.getD u .af):=λu hu=>by cases hu
     split at h
     ·split at h
      ·rename_i hc;simp only [WaG,Wbx] at hc;have c1:vs.length=n:=by rw [<- gv.1]; exact Wao hc.1
       have c2:n≠0:=λh=>by rw [h] at hc; simp at hc
       split at h
       ·cases h;refine ⟨.agg vs,⟨?_,.agg _ _ gv.1 gv.2,⟨⟨rfl,λg=>rfl⟩,λvs h=>by cases h⟩,gn⟩⟩;simp only [gH,hw,hvs];rw [if_pos trivial,if_pos ⟨trivial,c1,c2⟩]; rfl
       ·simp only [Wag] at h;obtain ⟨bs,hb,rfl⟩:=h;obtain ⟨ws,h3,g3⟩:=DZ S gv hb;refine ⟨.agg ws,⟨?_,.agg _ _ g3.1 g3.2,⟨⟨rfl,λg=>rfl⟩,λvs h=>by cases h⟩,gn⟩⟩;simp only [gH,hw,hvs];rw [if_pos trivial,if_pos ⟨trivial,c1,c2⟩];simp only [WaR,if_false,h3,Wbl]
      ·cases h
     ·split at h
      ·rename_i c cs hc;have hn:n=1:=Wao hc;cases vs with
       | nil=>have:=gv.1; simp at this
       | cons v vs=>
        obtain ⟨u,hu,gu,_⟩:=lV gv.head h;refine ⟨u,⟨?_,gu,zbx hu,gn⟩⟩;simp only [gH,hw,hvs];rw [if_neg (by simp),if_pos ⟨hn,trivial⟩];exact hu
      ·cases h
    ·cases h
  ·cases h
 | aC t n p=>cases h
theorem YB{n0:Nat}:∀ {rs:List RV},lm (λr=>r.low n0) rs=true->po n0 rs Z=some (Z,rs)
 | [],h=>rfl
 | r::rs,h=>by
  have h1:r.low n0=true:=lQ h r (Wcz ..);have ih:po n0 rs Z=some (Z,rs):=YB (by
   grind [lm])
  cases r with
  | aC t n p=>cases h1
  | tmp t=>grind [po]
  | aH t=>grind [po]
  | cell t a n=>grind [po]
theorem Ol:∀ {rs:List RV},(∀ r∈rs,∀ t,r.slot=some t->Gu (s.t.getD t (.ex .af))=jM 0 Z.b (Z.t.getD t .af))->PK s rs=q7 0 Z rs
 | [],h=>rfl
 | r::rs,h=>by
  simp only [PK,q7,Ol (λr hr=>h r (WcC _ hr))]
  grind
theorem zcE(S:Sat s W Z):∀ {rs:List RV} {av:List A},qI (Rx s) rs=some av->∃ vs,rs.mapM (gH 0 Z)=some vs/\GL s.iv.length W av vs/\(∀ v∈vs,Clean v)/\∀ r∈rs,∀ t,r.slot=some t->Gu (s.t.getD t (.ex .af))=jM 0 Z.b (Z.t.getD t .af)
 | [],av,h=>by cases h; exact ⟨[],rfl,All2.nil,⟨λv hv=>(by cases hv),λr hr=>(by cases hr)⟩⟩
 | r::rs,av,h=>by
  unfold qI at h;split at h
  ·rename_i b l h1 h2;cases h;obtain ⟨v,hv⟩:=zc1 S h1;obtain ⟨vs,q1,q2,q3,q4⟩:=zcE S h2;refine ⟨v::vs,by simp [hv.one,q1],.cons hv.g q2,λw hw=>?_,λq hq=>?_⟩
   ·rcases WbL.1 hw with rfl | hw
    ·exact hv.cl
    ·exact q3 _ hw
   ·rcases WbL.1 hq with rfl | hq
    ·exact hv.gone
    ·exact q4 _ hq
  ·cases h
def ZQ(v:V):Prop:=o4 v=[]/\∀ g,rP g v=v
theorem Clean.r(h:Clean v):ZQ v:=by
 obtain ⟨⟨h1,h2⟩,h3⟩:=h;cases v with
 | ae vs=>exact absurd rfl (h3 vs)
 | _=>exact ⟨h1,h2⟩
theorem zgx{vs:List V}(h:∀ v∈vs,Clean v):ZQ (.ae vs):=by
 constructor
 ·simp [o4]; exact λv hv=>(h v hv).1.1
 ·intro g;simp only [rP];congr 1;exact (WcF λv hv=>(h v hv).1.2 g).trans (List.map_id' vs)
theorem Q8(h:eg v=[]):lq b v=[]:=by
 unfold lq
 grind [eg]
theorem zfQ(h:o4 v=[]):LS b v=[]:=by
 unfold LS;split
 ·rename_i vs;simp [o4] at h ⊢
  grind [Q8,m8]
 ·rename_i hn;have:eg v=[]:=by cases v <;> first | exact h | exact absurd rfl (hn _)
  simp only [m8,this,Q8 this]; rfl
theorem zfs(S:Sat s W Z){rs:List RV}(h:VP s rs=some a):∃ v,EE 0 Z rs=some (v,[])/\G s.iv.length W a v:=by
 unfold VP at h;split at h
 ·rename_i hc;simp at hc;obtain ⟨c1,c2,c3⟩:=hc;have key:∃ v,results 0 Z rs=some v/\G s.iv.length W a v/\ZQ v:=by
   unfold results;split at h
   ·rename_i r;obtain ⟨v,hv⟩:=zc1 S h;refine ⟨v,?_,hv.g,hv.cl.r⟩;rw [<- Ol (s:=s) (λq hq=>by rw [WcG.1 hq]; exact hv.gone),c1,c2];exact hv.one
   ·rename_i n1;simp at h;obtain ⟨av,ha,rfl⟩:=h;obtain ⟨vs,q1,q2,q3,q4⟩:=zcE S ha;refine ⟨.ae vs,?_,.ae _ _ q2.1 q2.2,zgx q3⟩
    grind [Ol]
  obtain ⟨v,hv,g,k1,k2⟩:=key;refine ⟨v,?_,g⟩;have hl:lm (λr=>r.low Z.t.length) rs=true:=by rw [<- S.ts.1]; exact c3
  have e0:nZ Z.b 0 v=[]:=by grind [nZ,zfQ]
  simp only [EE,YB hl,KD,hv,Wab,Wbz,e0,zb,oJ,k2];rfl
 ·cases h
theorem ze3{N:Nat}{nt:Nat}{args:List A}{ws:List V}(h:GL 0 W args ws):Sat (zaJ nt args) W (enter nt ws []):=by
 refine ⟨λx q hq=>(by simp [zaJ] at hq),λf hf=>(by cases hf),λf hf=>(by cases hf),?_,?_⟩
 ·refine All2.append h ?_;rw [h.1];exact All2.rep (.ex _) _
 ·exact All2.rep (R:=GB 0 W) .gone nt
theorem zc9{α Y:Type}{f:α->Option Y}:∀ {l:List α} {r:List Y},qI f l=some r->∀ x∈l,∃ y,f x=some y/\y∈r
 | [],r,h,x,hx=>by cases hx
 | a::l,r,h,x,hx=>by
  unfold qI at h;split at h
  ·rename_i b m h1 h2;cases h;rcases WbL.1 hx with rfl | hx
   ·grind
   ·obtain ⟨y,hy,hm⟩:=zc9 h2 x hx
    grind
  ·cases h
def eY(T:Nat->Option CF)(D:Nat)(i:Inst):Prop:=∀ ws,(∀ N W,GL N W i.args ws)->∃ v,(∀ N W,G N W i.res v)/\Evt T D (λc=>c i.g ws []=some (v,[]))
theorem Evt.le{P:CB->Prop}{D':Nat}(hD:D<=D')(h:Evt T D P):Evt T D' P:=by
 obtain ⟨L0,h⟩:=h; exact ⟨L0,λL hL n hn=>h L hL n (by omega)⟩
theorem ST{D':Nat}(hD:D<=D'):∀ {is:List Inst},(∀ i∈is,eY T D i)->∀ {g:Nat} {args:List A} {r:A},U3 g args is=some r->∀ ws,(∀ N W,GL N W args ws)->∃ v,(∀ N W,G N W r v)/\Evt T D' (λc=>c g ws []=some (v,[]))
 | [],H,g,args,r,h,ws,hw=>by cases h
 | i::is,H,g,args,r,h,ws,hw=>by
  unfold U3 at h;split at h
  ·rename_i hc;cases h;simp only [WaG] at hc;have S0:Sat ⟨[],[],[],[]⟩ (λ_=>0) ⟨[],[]⟩:=⟨λx q hq=>(by simp at hq),λf hf=>(by cases hf),λf hf=>(by cases hf),.nil,.nil⟩;obtain ⟨v,q1,q2⟩:=H i (Wcz ..) ws (λN W=>All2.up (R:=λa b=>SS.up ⟨[],[],[],[]⟩ a b=true) (S:=G 0 (λ_=>0)) (T:=G N W) (λa b c hab hg=>S0.up hab hg) (Dj hc.2) (hw 0 _));rw [Wao hc.1] at q2;exact ⟨v,q1,q2.le hD⟩
  ·exact ST hD (λi hi=>H i (WcC _ hi)) h ws hw
theorem ziO{md:Nat->MD}{is:List Inst}(H:∀ i∈is,eY T D i):∀ d,S7 T (D+d) (zds T md is d):=by
 intro d
 induction d with
 | zero=>intro g args r h ws hw; exact ST (Wah _) H h ws hw
 | succ d ih=>
  intro g args r h ws hw;unfold zds at h;split at h
  ·rename_i r' hr;cases h;exact ST (by omega) H hr ws hw
  ·split at h
   ·rename_i c hf hT;split at h
    ·rename_i outs ho;split at h
     ·rename_i l hl;split at h
      ·rename_i j hj;split at h
       ·rename_i hup;cases h;obtain ⟨e,σ1,⟨s1,ρ1,m1,S1,_,_⟩,ev⟩:=zi1 ih (md g) c.body 0 0 _ _ _ _ (ze3 (N:=0) (nt:=c.ntmps) (hw 0 (λ_=>0))) (WaK _) ho;obtain ⟨y,hy,hm⟩:=zc9 hl _ m1;have hex:(∀ k,e≠.exit k)/\∃ a,VP s1 c.res=some a/\y=(s1,a):=by
         cases e with
         | exit k=>cases hy
         | normal=>simp at hy; grind
         | ret=>simp at hy; grind
        obtain ⟨hne,a,ha,rfl⟩:=hex;obtain ⟨v,hv,gv⟩:=zfs S1 ha;have hu:=lQ hup _ hm;refine ⟨v,λN W=>S1.up hu gv,?_⟩;obtain ⟨L0,ev⟩:=ev;refine ⟨L0,λL hL n hn=>?_⟩;obtain ⟨m,rfl⟩:∃ m,n=m+1:=⟨n-1,by omega⟩;have:=ev L hL m (by omega);simp only [wR,hf,evF,hT,List.length_nil] at this ⊢;have this:run (wR (evF T C4 L m)) 0 L c.body (enter c.ntmps ws [])=some (e,σ1):=this;rw [this];cases e with
        | exit k=>exact absurd rfl (hne k)
        | normal=>exact hv
        | ret=>exact hv
       ·cases h
      ·cases h
     ·cases h
    ·cases h
   ·cases h
end
end
section
variable {args:List V}{D':Nat}{i:Inst}
section
variable {T:Nat->Option CF} {D:Nat}
def OpP(T:Nat->Option CF)(D g L:Nat)(args:List V)(v:V):Prop:=∀ L',L<=L'->∀ n,D<=n->wR (evF T C4 L' n) g args []=some (v,[])
noncomputable def opD (T:Nat->Option CF) (D g L:Nat):Dk:=λY args bor k=>match bor with
 | []=>@dite _ (∃ v,OpP T D g L args v) (Classical.propDecidable _) (λh=>k h.choose []) (λ_=>none)
 | _=>none
theorem zix{g L L':Nat}{v:V}(h:OpP T D g L args v)(hL:L<=L')(Y:Type)(k:KK Y):opD T D g L' Y args [] k=k v []:=by
 have hv:OpP T D g L' args v:=λM hM=>h M (by omega);have he:∃ v,OpP T D g L' args v:=⟨v,hv⟩;have:he.choose=v:=by
  have:=he.choose_spec L' (Wah _) D (Wah _);rw [hv L' (Wah _) D (Wah _)] at this;cases this; rfl
 simp only [opD];rw [dif_pos he,this]
theorem zf4{g L:Nat}{Y:Type}{bor:Bor}{k:KK Y}{r:Y}(h:opD T D g L Y args bor k=some r):bor=[]/\∃ v,OpP T D g L args v/\k v []=some r:=by
 unfold opD at h;split at h
 ·refine ⟨rfl,?_⟩;by_cases he:∃ v,OpP T D g L args v
  ·rw [dif_pos he] at h; exact ⟨_,he.choose_spec,h⟩
  ·rw [dif_neg he] at h; cases h
 ·cases h
theorem yX(g L:Nat):FOk T L g (opD T D g L) D:=by
 intro n hn Y args bor k r h;obtain ⟨rfl,v,hv,h⟩:=zf4 h;exact ⟨v,[],hv L (Wah _) n hn,h⟩
theorem uF{L g:Nat}{d d':Dk}(h:FOk T L g d D')(hd:DK d' d):FOk T L g d' D':=λn hn Y args bor k r e=>h n hn Y args bor k r (hd _ _ _ _ _ e)
theorem D4{α:Type}{acc:∀ (Y:Type),V->(α->Option Y)->Option Y}{mk:α->V}(ha:Gr acc mk){g L:Nat}(args:List V){X:Dk}(hX:∀ Y b k,X Y [] b k=opD T D g L Y args b k) :
  DK (d0 λY k=>opD T D g L Y args [] λv _=>acc Y v λp=>k (mk p) []) X:=by
 intro Y a b k r e;obtain ⟨rfl,rfl,e⟩:=zbu e;rw [hX];have e:opD T D g L Y args [] (λv _=>acc Y v λp=>k (mk p) [])=some r:=e;obtain ⟨_,v,hv,e⟩:=zf4 e;have q:=ha _ _ _ _ e; grind [zix]
def AT2{α γ:Type}(A:∀ (Y:Type),V->(α->Option Y)->Option Y)(B:∀ (Y:Type),V->(γ->Option Y)->Option Y)(Y:Type)(v:V)(k:α × γ->Option Y):Option Y:=match v with
 | .ae [a,b]=>A Y a λx=>B Y b λy=>k (x,y)
 | _=>none
theorem zgq{α γ:Type}{A:∀ (Y:Type),V->(α->Option Y)->Option Y}{B:∀ (Y:Type),V->(γ->Option Y)->Option Y}{ma:α->V}{mb:γ->V}(ha:Gr A ma)(hb:Gr B mb):Gr (AT2 A B) (λp=>.ae [ma p.1,mb p.2]):=by
 intro Y v k r h;unfold AT2 at h;split at h
 ·have q:=ha _ _ _ _ h; clear h; obtain ⟨x,rfl,h⟩:=q;have q:=hb _ _ _ _ h; grind
 ·cases h
theorem yI(h:eY T D i){ws:List V}(hw:∀ N W,GL N W i.args ws):∃ v,(∀ N W,G N W i.res v)/\∃ L0,∀ L,L0<=L->∀ (Y:Type) (k:KK Y),opD T D i.g L Y ws [] k=k v []:=by
 obtain ⟨v,hv,L0,e⟩:=h ws hw;exact ⟨v,hv,L0,λL hL Y k=>zix (L:=L0) (λL' hL' n hn=>e L' hL' n hn) hL Y k⟩
theorem zcw{g:Nat}(hD:D'<=D){args:List A}{res:A}{d:Nat->Dk}(hf:∀ L,FOk T L g (d L) D')(h:∀ ws,(∀ N W,GL N W args ws)->∃ v,(∀ N W,G N W res v)/\∃ L0,∀ L,L0<=L->d L (V × Bor) ws [] (λv b=>some (v,b))=some (v,[])):eY T D ⟨g,args,res⟩:=by
 intro ws hw;obtain ⟨v,hv,L0,e⟩:=h ws hw;refine ⟨v,hv,L0,λL hL n hn=>?_⟩;obtain ⟨v',b',e1,e2⟩:=hf L n (by omega) _ _ _ _ _ (e L hL);cases e2; exact e1
theorem dj(hD:D<=D')(h:eY T D i):eY T D' i:=λws hw=>by
 obtain ⟨v,q1,q2⟩:=h ws hw; exact ⟨v,q1,q2.le hD⟩
def zgs(r:Option A)(a:A):Bool:=match r with
 | some r=>SS.up ⟨[],[],[],[]⟩ r a
 | none=>false
theorem fm{md:Nat->MD}{is:List Inst}(H:∀ i∈is,eY T D i)(d:Nat)(hD:D+d<=D')(h:zgs (zds T md is d i.g i.args) i.res=true):eY T D' i:=by
 unfold zgs at h;split at h
 ·rename_i r hr;intro ws hw;obtain ⟨v,q1,q2⟩:=ziO H d i.g i.args r hr ws hw;have S0:Sat ⟨[],[],[],[]⟩ (λ_=>0) ⟨[],[]⟩:=⟨λx q hq=>(by simp at hq),λf hf=>(by cases hf),λf hf=>(by cases hf),.nil,.nil⟩;exact ⟨v,λN W=>S0.up h (q1 _ _),q2.le hD⟩
 ·cases h
def zkH(g:Nat):List (Nat × MD)->MD
 | []=>[]
 | p::l=>match Wae g p.1 with
  | true=>p.2
  | false=>zkH g l
end
end
section
variable {v:V}{P:Nat->Prop}{α:Type}{i:Nat}{vs:List V}
variable {Y:Type}
def ed(l:List Int):Prop:=∀ n∈l,0<=n/\n<=255
def bts(l:List Int):List UInt8:=l.map λn=>UInt8.ofNat n.toNat
theorem FJ:∀ (l:List Int),og (eQ .u8 l)=some (bts l)
 | []=>rfl
 | n::l=>by
  have:=FJ l;simp only [eQ,bts] at this;simp only [eQ,bts,List.map_cons,og,this,Wbl]
theorem qP(l:List Int)(k:ByteArray->Option Y):yp (eQ .u8 l) k=k ⟨(bts l).toArray⟩:=by
 simp only [yp,FJ]
theorem XO:∀ {a b:List Int},ed a->ed b->(bts a=bts b↔a=b)
 | [],[],_,_=>by simp [bts]
 | [],y::b,_,_=>by simp [bts]
 | x::a,[],_,_=>by simp [bts]
 | x::a,y::b,ha,hb=>by
  have hx:=ha x (by simp); have hy:=hb y (by simp);have ih:=XO (a:=a) (b:=b) (λz hz=>ha z (by simp [hz])) (λz hz=>hb z (by simp [hz]));simp only [bts,List.map_cons,List.cons.injEq] at ih ⊢;rw [ih];constructor
  ·rintro ⟨h1,h2⟩
   refine ⟨?_,h2⟩;have h1:=congrArg UInt8.toNat h1;simp only [UInt8.toNat_ofNat'] at h1;omega
  ·rintro ⟨rfl,rfl⟩; exact ⟨rfl,rfl⟩
theorem Yt(l:List UInt8):(ByteArray.mk l.toArray).toList=l:=by
 have key:∀ (n i:Nat) (r:List UInt8),l.length-i=n->i<=l.length->ByteArray.toList.loop ⟨l.toArray⟩ i r=r.reverse++l.drop i:=by
  intro n
  induction n with
  | zero=>
   intro i r h1 h2;unfold ByteArray.toList.loop;rw [if_neg (by simp [ByteArray.size]; omega),List.drop_of_length_le (by omega),List.append_nil]
  | succ n ih=>
   intro i r h1 h2;unfold ByteArray.toList.loop;rw [if_pos (by simp [ByteArray.size]; omega),ih (i+1) _ (by omega) (by omega)];have hi:i<l.length:=by omega
   rw [WaM hi];simp [ByteArray.get!,Wac hi]
 have:=key l.length 0 [] (by omega) (by omega);simpa [ByteArray.toList] using this
theorem VE{a b:List Int}(ha:ed a)(hb:ed b):(ByteArray.toList ⟨(bts a).toArray⟩==ByteArray.toList ⟨(bts b).toArray⟩)=decide (a=b):=by
 rw [Yt,Yt];by_cases h:a=b
 ·subst h; simp
 ·rw [decide_eq_false h];exact beq_eq_false_iff_ne.2 λe=>h ((XO ha hb).1 e)
structure TkT where
 an:List Int
 b:Int
 r:Int
def f6(t:TkT):List V:=[V.sl 1 (eQ .u8 t.an),V.sc (.int .i64 t.b),V.sc (.int .i64 t.r)]
structure OwT where
 h:List Int
 ix:Int
 val:Int
 an:List Int
 ht:Int
 cb:Bool
 sp:Int
variable {w:OwT}
def ic(w:OwT):List V:=row .u8 w.h++[V.sc (.int .u32 w.ix)]
def Gj(w:OwT):List V:=[V.sc (.int .i64 w.val),V.sl 1 (eQ .u8 w.an),V.sc (.int .i64 w.ht),V.sc (.bool w.cb),V.sc (.int .i64 w.sp)]
def cH(w:OwT):List V:=ic w++Gj w
structure TkOk (t:TkT):Prop where
 s:ed t.an
 l:t.an.length<=1000
 b:1<=t.b/\t.b<=16777216
 r:0<=t.r/\t.r<=16777216
structure OwOk (w:OwT):Prop where
 hl:w.h.length=32
 hb:ed w.h
 ix:0<=w.ix/\w.ix<=4294967295
 s:ed w.an
 l:w.an.length<=1000
structure ScT where
 tk:List TkT
 ow:List OwT
def eU(s:ScT):List V:=[V.sl 3 (s.tk.map f6),V.sl 38 (s.ow.map cH)]
theorem RZ(t:TkT):(f6 t).length=3:=rfl
theorem im(h:w.h.length=32):(ic w).length=33:=by simp [ic,iQ,h]
theorem eG(h:w.h.length=32):(cH w).length=38:=by simp [cH,im h,Gj]
theorem f8(h:w.h.length=32)(j:Nat):(cH w)[33+j]?=(Gj w)[j]?:=by
 unfold cH;rw [Wal (by rw [im h]; omega),im h];congr 1; omega
theorem pI(h:w.h.length=32):List.take 33 (cH w)=ic w:=by
 unfold cH; rw [<- im h,List.take_left]
theorem jd(h:w.h.length=32):List.take 38 (cH w)=cH w:=List.take_of_length_le (by rw [eG h]; omega)
theorem Yx(h:w.h.length=32):List.drop 33 (cH w)=Gj w:=by
 unfold cH; rw [<- im h,List.drop_left]
theorem XJ(k:IntKind)(l:List Int):(row k l).map V.ag=row k l:=by simp only [row,List.map_map]; rfl
theorem ZS(w:OwT):(ic w).map V.ag=ic w:=by simp only [ic,List.map_append,XJ]; rfl
theorem rL(w:OwT):(cH w).map V.ag=cH w:=by simp only [cH,List.map_append,ZS]; rfl
theorem YG(s:ScT):List.take 2 (eU s)=eU s:=rfl
theorem tA(l:List TkT):∀ e∈l.map f6,e.length=3:=by
 intro e he; obtain ⟨t,_,rfl⟩:=List.mem_map.1 he; rfl
theorem o9{l:List OwT}(h:∀ w∈l,w.h.length=32):∀ e∈l.map cH,e.length=38:=by
 intro e he; obtain ⟨w,hw,rfl⟩:=List.mem_map.1 he; exact eG (h w hw)
theorem Jz:∀ {a b c d:List V} {x y:Bool},a.length=c.length->j5 a c=some x->j5 b d=some y->j5 (a++b) (c++d)=some (x&&y)
 | [],b,[],d,x,y,_,h1,h2=>by cases h1; simpa using h2
 | [],_,_::_,_,_,_,h,_,_=>by simp at h
 | _::_,_,[],_,_,_,h,_,_=>by simp at h
 | v::a,b,u::c,d,x,y,h,h1,h2=>by
  unfold j5 at h1;split at h1
  ·rename_i e1 e2; cases e1
  ·rename_i k n xs k' m ys e1 e2;cases e1; cases e2;split at h1
   ·rename_i hk;rw [Wag] at h1;obtain ⟨z,hz,rfl⟩:=h1;have:=Jz (b:=b) (d:=d) (by simpa using h) hz h2;simp only [List.cons_append,j5,if_pos hk,this,Wbl,Bool.and_assoc]
   ·cases h1
  ·cases h1
def xa(w v:OwT):Bool:=decide (w.h=v.h)&&decide (w.ix=v.ix)
theorem Ha{v:OwT}(hw:w.h.length=32)(hv:v.h.length=32)(k:Bool->Option Y):eqC 33 (ic w) (ic v) k=k (xa w v):=by
 unfold eqC;rw [bQ ⟨im hw,im hv⟩];have:j5 (ic w) (ic v)=some (xa w v):=by
  refine Jz (by rw [iQ,iQ,hw,hv]) (HY .u8 _ _ (by rw [hw,hv])) ?_;simp only [j5,if_pos,Wbl,Bool.and_true];rfl
 rw [this]
def Fin2(P:Nat->Prop):Prop:=∃ L0,∀ L,L0<=L->P L
theorem Fin2.of(n:Nat)(h:∀ L,n<=L->P L):Fin2 P:=⟨n,h⟩
theorem Fin2.and{Q:Nat->Prop}(h:Fin2 P)(g:Fin2 Q):Fin2 (λL=>P L/\Q L):=by
 obtain ⟨a,h⟩:=h; obtain ⟨b,g⟩:=g;exact ⟨a+b,λL hL=>⟨h L (by omega),g L (by omega)⟩⟩
theorem Fin2.imp{Q:Nat->Prop}(H:∀ L,P L->Q L)(h:Fin2 P):Fin2 Q:=by
 obtain ⟨a,h⟩:=h; exact ⟨a,λL hL=>H L (h L hL)⟩
theorem Fin2.big(n:Nat)(h:Fin2 P):Fin2 (λL=>n<=L/\P L):=(Fin2.of n λL h=>h).and h
theorem Tl{l:List α}{p:α->Bool}(h:i<l.length):(l.drop i).all p=(p l[i]&&(l.drop (i+1)).all p):=by
 rw [WaM h]; rfl
theorem zgQ{l:List α}{p:α->Bool}(h:i<l.length):(l.drop i).any p=(p l[i]||(l.drop (i+1)).any p):=by
 rw [WaM h]; rfl
theorem eH{f:α->List V}{l:List α}(h:i<l.length):(l.map f)[i]?=some (f l[i]):=by simp [h]
theorem up{n:Nat}(h:n<=1000000000):IntKind.wrap .i64 ((n:Int)+1)=((n+1:Nat):Int):=zeN h
section
variable {N:Nat} {W:Nat->Int}
theorem tu{k:IntKind}{lo hi:Int}(h:G N W (.iv k lo hi) v):∃ n,v=.sc (.int k n)/\lo<=n/\n<=hi:=by
 cases h with
 | iv k lo hi n h=>exact ⟨n,rfl,h⟩
theorem U9{q sz:Nat}{lo hi:Int}{row:List A}(h:G N W (.ai q sz lo hi row) v):∃ es,v=mkL q sz es/\lo<=(es.length:Int)/\(es.length:Int)<=hi/\∀ r∈es,GL N W row r:=by
 generalize ha:A.ai q sz lo hi row=a at h;cases h <;> first | (cases ha; done) | skip
 rename_i es hl hr hh;cases ha;exact ⟨es,rfl,hl.1,hl.2,λr hr'=>⟨hr r hr',hh r hr'⟩⟩
theorem Gl{cs:List A}(h:G N W (.agg cs) v):∃ vs,v=.agg vs/\GL N W cs vs:=by
 generalize ha:A.agg cs=a at h;cases h <;> first | (cases ha; done) | skip
 rename_i vs hl hh;cases ha;exact ⟨vs,rfl,hl,hh⟩
theorem wB(h:GL N W [] vs):vs=[]:=WaT.1 h.1.symm
theorem jk{a:A}{av:List A}(h:GL N W (a::av) vs):∃ v r,vs=v::r/\G N W a v/\GL N W av r:=by
 cases vs with
 | nil=>have:=h.1; simp at this
 | cons v r=>exact ⟨v,r,rfl,h.2 0 _ _ rfl rfl,⟨by simpa using h.1,λi a b ha hb=>h.2 (i+1) a b (by simpa using ha) (by simpa using hb)⟩⟩
theorem Kk:∀ {av bs:List A} {vs:List V},GL N W (av++bs) vs->∃ r s,vs=r++s/\GL N W av r/\GL N W bs s
 | [],bs,vs,h=>⟨[],vs,rfl,All2.nil,h⟩
 | a::av,bs,vs,h=>by
  obtain ⟨v,r,e,g,h0⟩:=jk h;subst e;obtain ⟨r,s,rfl,h1,h2⟩:=Kk h0;exact ⟨v::r,s,rfl,.cons g h1,h2⟩
theorem NS{k:IntKind}{lo hi:Int}:∀ {n:Nat} {vs:List V},GL N W (Wad n (.iv k lo hi)) vs->∃ l:List Int,vs=row k l/\l.length=n/\∀ x∈l,lo<=x/\x<=hi
 | 0,vs,h=>⟨[],wB h,rfl,by simp⟩
 | n+1,vs,h=>by
  obtain ⟨v,r,e,g,h2⟩:=jk h;subst e;obtain ⟨x,rfl,hx⟩:=tu g;obtain ⟨l,rfl,hl,hw⟩:=NS h2;exact ⟨x::l,rfl,by simp [hl],λy hy=>(WbL.1 hy).elim (λe=>e ▸ hx) (hw y)⟩
end
end
section
variable {T:Nat->Option CF}
def ovF:List (Nat × (Nat->Dk))->Nat->Nat->Option Dk
 | [],_,_=>none
 | p::l,L,g=>match Wae p.1 g with
  | true=>some (p.2 L)
  | false=>ovF l L g
def Xf(T:Nat->Option CF)(ov:Nat->Option Dk)(L:Nat):Nat->CBC
 | 0=>noC
 | n+1=>λY g a b k=>match ov g with
  | some d=>d Y a b k
  | none=>match T g,frN g with
   | some c,false=>dx (f9 []) (Xf T ov L n) L c a b k
   | _,_=>none
def zdp(T:Nat->Option CF)(D:Nat)(l:List (Nat × (Nat->Dk))):Prop:=∀ L g d,ovF l L g=some d->FOk T L g d D
theorem zk2:zdp T 0 []:=λL g d h=>by cases h
theorem zc8{T:Nat->Option CF}{D:Nat}{l:List (Nat × (Nat->Dk))}(h:zdp T D l){L:Nat}:∀ (n m:Nat),D+n<=m->za (Xf T (ovF l L) L n) (wR (evF T C4 L m))
 | 0,m,hm=>eF
 | n+1,m,hm=>λY g a b k r e=>by
  unfold Xf at e;split at e
  ·rename_i d hd;exact h L g d hd m (by omega) Y a b k r e
  ·split at e
   ·rename_i c hT hf;obtain ⟨m,rfl⟩:∃ q,m=q+1:=⟨m-1,by omega⟩;rw [ziy hf];exact zcS (zc8 h n m (by omega)) hT e
   ·cases e
theorem zjK{D:Nat}{l:List (Nat × (Nat->Dk))}(h:zdp T D l)(L n g:Nat){d:Dk}(hd:DK d (λY a b k=>Xf T (ovF l L) L n Y g a b k)):FOk T L g d (D+n):=λm hm Y a b k r e=>zc8 h n m hm Y g a b k r (hd _ _ _ _ _ e)
end
end Go.Proofs.YtipklgbboecciaaGreat
