/- Part 5 of the proof of ScanRewinds: an abstract machine over plain values, its soundness, and the functions of the program on plain values. -/
import Derived.Test.YtipklgbboecciaaGreatMScanRewinds4
namespace Go.Proofs.YtipklgbboecciaaGreat
set_option maxRecDepth 100000
set_option linter.unusedVariables false
set_option linter.unusedSimpArgs false
open Option renaming bind_eq_some_iff->Waa,bind_eq_bind->Wab,map_some->Wbl,map_eq_some_iff->Wag
open Option.some renaming injEq->Waf
open List renaming getElem?_eq_some_iff->Wam,mem_of_getElem?->WaQ,getElem?_map->WaU,getElem?_eq_getElem->Wac,getD_eq_getElem?_getD->Wak,getElem?_set_self->Wax,getElem?_set_ne->Waw,all_eq_true->Wbj,getElem?_take->Wai,getElem?_append_right->Wal,getElem?_drop->Waj,getElem?_append_left->Wan,getElem?_cons_succ->Wbq,nodup_cons->Wbr,replicate->Wad,mem_of_mem_take->WaI
open Bool renaming false_eq_true->WaR,and_eq_true->WaG
open Nat renaming le_refl->Wah,not_lt_zero->Wbo
open _root_.Array renaming getD_eq_getD_getElem?->Wbk,replicate->Wbn,getElem?_eq_getElem->Wbp
open Prod.mk renaming injEq->Wbm
open Result renaming andThen_ok->Waz
section
variable {b:List B}{s:Src × Nat}{v:V}{x:Operand}{ty:TypeId}
variable {aa:Rn} {we:World} {ωe:Nat->Ow} {U:Nat->Nat->Prop} {O:Nat->Prop} {Z:St} {a:Act} {w:World} {ω:Nat->Ow} {μ:Nat->Nat} {P:Program}
def toB(x:B):B:=x
theorem zcy(l:List B):l.map toB=l:=by induction l with | nil=>rfl | cons x l ih=>simp [toB,ih]
def PCall(P:Program)(aa:Rn)(f:FuncId)(args:List V)(bor:Bor)(r:V)(bor':Bor):Prop:=
 ∀ (w:World) (us:List Value) (U:Nat->Nat->Prop) (O:Nat->Prop) (ω:Nat->Ow) (μ:Nat->Nat),Rel aa w ω U O ⟨args,bor.map toB⟩ ⟨us.toArray,[]⟩ w ω μ ->
  Calls P f us.toArray w λe w'=>∃ u ω' μ',e=.returned u/\Rel aa w ω U O ⟨[r],bor'.map toB⟩ ⟨#[u],[]⟩ w' ω' μ'/\∀ k,k<bor.length->μ' k=μ k
def n8(P:Program)(f:FuncId):Bool:=match P.funcs[f]? with | some fn=>fn.body.isSome&&fn.name != "runtime.NumGoroutine" | none=>false
def rD(P:Program)(aa:Rn)(cb:CB):Prop:=∀ g args bor r bor',cb g args bor=some (r,bor')->∀ f,aa f=some g->n8 P f=true/\PCall P aa f args bor r bor'
theorem Lu(b:List B)(id k:Nat):(fQ b id)[k]?=b[k]?∨(∃ cs,b[k]?=some (.live true cs)/\k=id/\cs≠[]/\(fQ b id)[k]?=some (.fz cs)):=by
 unfold fQ;split
 ·rename_i c cs hb;by_cases hk:k=id
  ·subst hk;exact .inr ⟨c::cs,hb,rfl,by simp,Wax (Wam.1 hb).1⟩
  ·exact .inl (Waw (λe=>hk e.symm))
 ·exact .inl rfl
theorem QY{id:Nat}{cs:List V}(hb:b[id]?=some (.live true cs))(hne:cs≠[]):fQ b id=b.set id (.fz cs):=by
 cases cs with
 | nil=>exact absurd rfl hne
 | cons c cs=>unfold fQ; rw [hb]
theorem Rel.freeze(R:Rel aa we ωe U O Z a w ω μ)(id:Nat):∃ ω',Rel aa we ωe U O { Z with b:=fQ Z.b id } a w ω' μ/\Fr (env U Z w ω μ) (env U { Z with b:=fQ Z.b id } w ω' μ):=by
 by_cases hl:∃ cs,Z.b[id]?=some (.live true cs)/\cs≠[]
 ·obtain ⟨cs,hb,hcne⟩:=hl;have hlt:id<Z.b.length:=(Wam.1 hb).1;have hf:fQ Z.b id=Z.b.set id (.fz cs):=QY hb hcne;obtain ⟨e0,arr,T,e1,e2,e3⟩:=R.live hb hcne;have hnU:∀ o,¬ U (μ id) o:=by
   intro o hu;have h1:=R.ul _ _ hu;rcases (R.ow (μ id) (by rw [e0]; simp)).1 with h | h
   ·omega
   ·exact h1.2 h
  have F:Fr (env U Z w ω μ) (env U { Z with b:=fQ Z.b id } w (upd ω (μ id) .no) μ):=by
   refine ⟨λk o u h1 h2=>⟨?_,h2⟩,λid' L hL=>⟨?_,rfl,Wah _⟩⟩
   ·have h1:¬ wr U ω k o:=h1;show ¬ wr U (upd ω (μ id) .no) k o;unfold wr at h1 ⊢;by_cases hk:k=μ id
    ·subst hk; rw [d7]; simp only [not_or] at h1 ⊢; exact ⟨h1.1,λh=>h⟩
    ·rw [dC _ _ hk]; exact h1
   ·have hL:dS Z.b id'=some L:=hL;show dS (fQ Z.b id) id'=some L;rw [hf];unfold dS at hL ⊢;by_cases hne:id'=id
    ·subst hne;rw [Wax hlt];rw [hb] at hL;exact hL
    ·rw [Waw (λe=>hne e.symm)]; exact hL
  have hgs:∀ (l:Loc) Y h,ω Y=.gs l h->upd ω (μ id) .no Y=.gs l h:=by
   grind [dC]
  refine ⟨upd ω (μ id) .no,R.step F rfl (λt j Y h _ e=>⟨hgs _ Y h e,rfl⟩) (λid' p' cs' h' hne'=>?_) (λid' cs' h'=>?_) (λid' es' h'=>?_) (Kept.refl No w) (λk _ h=>AH h) (λk hk=>?_) (λk=>Wah _),F⟩
  ·simp only at h';rw [hf] at h';by_cases hne:id'=id
   ·subst hne; rw [Wax hlt] at h'; cases h'
   ·rw [Waw (λe=>hne e.symm)] at h';obtain ⟨q0,_⟩:=R.live h' hne';refine .inl ⟨h',?_,rfl,λj Y h e=>⟨hgs _ Y h e,rfl⟩⟩;rw [dC]
    ·exact q0
    ·intro e; rw [e,e0] at q0; cases q0; exact hne rfl
  ·simp only at h';rw [hf] at h';by_cases hne:id'=id
   ·subst hne;rw [Wax hlt] at h'; cases h';refine .inr ⟨λo ho=>?_,arr,T,_,e1,e2,λj c hc=>?_⟩
    ·unfold wr at ho;rw [d7] at ho;rcases ho with ho | ho
     ·exact hnU o ho
     ·exact ho
    ·obtain ⟨u,g1,g2,g3,_⟩:=e3 j c hc;exact ⟨u,g1,g2,(g3 rfl).mono F.st⟩
   ·rw [Waw (λe=>hne e.symm)] at h';obtain ⟨q0,_⟩:=R.fs id' cs' h';refine .inl ⟨h',λo ho=>q0 o ?_,rfl⟩;unfold wr at ho ⊢;by_cases hk:μ id'=μ id
    ·rw [hk,d7] at ho;rcases ho with ho | ho
     ·exact .inl (by rw [hk]; exact ho)
     ·exact ho.elim
    ·rwa [dC _ _ hk] at ho
  ·simp only at h';rw [hf] at h';by_cases hne:id'=id
   ·subst hne; rw [Wax hlt] at h'; cases h'
   ·rw [Waw (λe=>hne e.symm)] at h';obtain ⟨q0,_⟩:=R.ms id' es' h';refine .inl ⟨h',?_,rfl⟩;rw [dC]
    ·exact q0
    ·intro e; rw [e,e0] at q0; cases q0; exact hne rfl
  ·by_cases hkb:k=μ id
   ·subst hkb; rw [d7] at hk; exact absurd rfl hk
   ·rw [dC _ _ hkb] at hk; exact R.ow k hk
 ·have hf:fQ Z.b id=Z.b:=by
   unfold fQ
   grind
  refine ⟨ω,?_,?_⟩
  ·have:({ Z with b:=fQ Z.b id }:St)=Z:=by rw [hf]
   rw [this]; exact R
  ·have:({ Z with b:=fQ Z.b id }:St)=Z:=by rw [hf]
   rw [this];exact ⟨λk o u h1 h2=>⟨h1,h2⟩,λid L hL=>⟨hL,rfl,Wah _⟩⟩
theorem zfC{vs:List V}:∀ {cs:List V},cs.mapM (yv b)=some vs->vs.length=cs.length/\∀ (j:Nat) (c:V),vs[j]?=some c->∃ c0,cs[j]?=some c0/\yv b c0=some c:=by
 grind [pT,mQ]
theorem Rel.freezeF(R:Rel aa we ωe U O Z a w ω μ)(id:Nat):∃ ω',Rel aa we ωe U O { Z with b:=ko Z.b id } a w ω' μ/\Fr (env U Z w ω μ) (env U { Z with b:=ko Z.b id } w ω' μ):=by
 by_cases hl:∃ cs vs,Z.b[id]?=some (.live false cs)/\cs≠[]/\cs.mapM (yv Z.b)=some vs
 ·obtain ⟨cs,vs,hb,hcne,hvs⟩:=hl;obtain ⟨hvl,hvc⟩:=zfC hvs;have hlt:id<Z.b.length:=(Wam.1 hb).1;have hf:ko Z.b id=Z.b.set id (.fz vs):=by
   cases cs with
   | nil=>exact absurd rfl hcne
   | cons c cs=>unfold ko; rw [hb]; simp [hvs]
  obtain ⟨e0,arr,T,e1,e2,e3⟩:=R.live hb hcne;have hnU:∀ o,¬ U (μ id) o:=by
   intro o hu;have h1:=R.ul _ _ hu;rcases (R.ow (μ id) (by rw [e0]; simp)).1 with h | h
   ·omega
   ·exact h1.2 h
  have F:Fr (env U Z w ω μ) (env U { Z with b:=ko Z.b id } w (upd ω (μ id) .no) μ):=by
   refine ⟨λk o u h1 h2=>⟨?_,h2⟩,λid' L hL=>⟨?_,rfl,Wah _⟩⟩
   ·have h1:¬ wr U ω k o:=h1;show ¬ wr U (upd ω (μ id) .no) k o;unfold wr at h1 ⊢;by_cases hk:k=μ id
    ·subst hk; rw [d7]; simp only [not_or] at h1 ⊢; exact ⟨h1.1,λh=>h⟩
    ·rw [dC _ _ hk]; exact h1
   ·have hL:dS Z.b id'=some L:=hL;show dS (ko Z.b id) id'=some L;rw [hf];unfold dS at hL ⊢;by_cases hne:id'=id
    ·subst hne;rw [Wax hlt];rw [hb] at hL;simp only at hL ⊢;rw [hvl]; exact hL
    ·rw [Waw (λe=>hne e.symm)]; exact hL
  have hgs:∀ (l:Loc) Y h,ω Y=.gs l h->upd ω (μ id) .no Y=.gs l h:=by
   grind [dC]
  refine ⟨upd ω (μ id) .no,R.step F rfl (λt j Y h _ e=>⟨hgs _ Y h e,rfl⟩) (λid' p' cs' h' hne'=>?_) (λid' cs' h'=>?_) (λid' es' h'=>?_) (Kept.refl No w) (λk _ h=>AH h) (λk hk=>?_) (λk=>Wah _),F⟩
  ·simp only at h';rw [hf] at h';by_cases hne:id'=id
   ·subst hne; rw [Wax hlt] at h'; cases h'
   ·rw [Waw (λe=>hne e.symm)] at h';obtain ⟨q0,_⟩:=R.live h' hne';refine .inl ⟨h',?_,rfl,λj Y h e=>⟨hgs _ Y h e,rfl⟩⟩;rw [dC]
    ·exact q0
    ·intro e; rw [e,e0] at q0; cases q0; exact hne rfl
  ·simp only at h';rw [hf] at h';by_cases hne:id'=id
   ·subst hne;rw [Wax hlt] at h'; cases h';refine .inr ⟨λo ho=>?_,arr,T,_,e1,by rw [hvl]; exact e2,λj c hc=>?_⟩
    ·unfold wr at ho;rw [d7] at ho;rcases ho with ho | ho
     ·exact hnU o ho
     ·exact ho
    ·obtain ⟨c0,hc0,hp⟩:=hvc j c hc;obtain ⟨u,g1,g2,_,g4⟩:=e3 j c0 hc0;exact ⟨u,g1,g2,(zbn R g4 hp).mono F.st⟩
   ·rw [Waw (λe=>hne e.symm)] at h';obtain ⟨q0,_⟩:=R.fs id' cs' h';refine .inl ⟨h',λo ho=>q0 o ?_,rfl⟩;unfold wr at ho ⊢;by_cases hk:μ id'=μ id
    ·rw [hk,d7] at ho;rcases ho with ho | ho
     ·exact .inl (by rw [hk]; exact ho)
     ·exact ho.elim
    ·rwa [dC _ _ hk] at ho
  ·simp only at h';rw [hf] at h';by_cases hne:id'=id
   ·subst hne; rw [Wax hlt] at h'; cases h'
   ·rw [Waw (λe=>hne e.symm)] at h';obtain ⟨q0,_⟩:=R.ms id' es' h';refine .inl ⟨h',?_,rfl⟩;rw [dC]
    ·exact q0
    ·intro e; rw [e,e0] at q0; cases q0; exact hne rfl
  ·by_cases hkb:k=μ id
   ·subst hkb; rw [d7] at hk; exact absurd rfl hk
   ·rw [dC _ _ hkb] at hk; exact R.ow k hk
 ·have hf:ko Z.b id=Z.b:=by
   unfold ko
   grind
  refine ⟨ω,?_,?_⟩
  ·have:({ Z with b:=ko Z.b id }:St)=Z:=by rw [hf]
   rw [this]; exact R
  ·have:({ Z with b:=ko Z.b id }:St)=Z:=by rw [hf]
   rw [this];exact ⟨λk o u h1 h2=>⟨h1,h2⟩,λid L hL=>⟨hL,rfl,Wah _⟩⟩
theorem Fr.trans{E E' E'':En}(F:Fr E E')(G:Fr E' E''):Fr E E'':=
 ⟨λk o u h1 h2=>G.st k o u (F.st k o u h1 h2).1 (F.st k o u h1 h2).2,λid L hL=>by
  obtain ⟨f1,f2,f3⟩:=F.id id L hL;obtain ⟨g1,g2,g3⟩:=G.id id L f1
  grind⟩
theorem Rel.frozenBy(s0:St):∀ (srcs:List (Src × Nat)) {Z:St} {ω:Nat->Ow},Rel aa we ωe U O Z a w ω μ->∃ ω',Rel aa we ωe U O { Z with b:=dG s0 srcs Z.b } a w ω' μ/\Fr (env U Z w ω μ) (env U { Z with b:=dG s0 srcs Z.b } w ω' μ)
 | [],Z,ω,R=>⟨ω,R,⟨λk o u h1 h2=>⟨h1,h2⟩,λid L hL=>⟨hL,rfl,Wah _⟩⟩⟩
 | s::srcs,Z,ω,R=>by
  unfold dG;by_cases hm:2<=s.2
  ·rw [if_pos hm]; exact Rel.frozenBy s0 srcs R
  rw [if_neg hm];cases hid:gS (s.1.get s0) with
  | none=>simp only; exact Rel.frozenBy s0 srcs R
  | some id=>
   simp only;obtain ⟨ω1,R1,F1⟩:=R.freeze id;obtain ⟨ω2,R2,F2⟩:=Rel.frozenBy s0 srcs R1;exact ⟨ω2,R2,F1.trans F2⟩
theorem Bj(s0:St):∀ (srcs:List (Src × Nat)) (b:List B) (k:Nat),(dG s0 srcs b)[k]?=b[k]?∨(∃ cs,b[k]?=some (.live true cs)/\(dG s0 srcs b)[k]?=some (.fz cs))
 | [],b,k=>.inl rfl
 | s::srcs,b,k=>by
  unfold dG;by_cases hm:2<=s.2
  ·rw [if_pos hm]; exact Bj s0 srcs b k
  rw [if_neg hm];cases hid:gS (s.1.get s0) with
  | none=>exact Bj s0 srcs b k
  | some id=>
   simp only;rcases Bj s0 srcs (fQ b id) k with h | ⟨cs,h1,h2⟩
   ·grind [Lu]
   ·grind [Lu]
theorem BA(s0:St):∀ (srcs:List (Src × Nat)) (b:List B) (s:Src × Nat),s∈srcs->¬ 2<=s.2->∀ id off len sz,s.1.get s0=.own id off len sz->∀ cs,((b[id]?).getD .gone).cs?=some cs->cs≠[]->(dG s0 srcs b)[id]?=some (.fz cs)
 | [],b,s,hs,hm,id,off,len,sz,h,cs,hc,hne=>by cases hs
 | s'::srcs,b,s,hs,hm,id,off,len,sz,h,cs,hc,hne=>by
  unfold dG;have hb:b[id]?=some (.live true cs)∨b[id]?=some (.fz cs):=by
   cases hx:b[id]? with
   | none=>simp [hx,B.cs?] at hc
   | some x=>
    cases x with
    | gone=>simp [hx,B.cs?] at hc
    | live p cs'=>
     cases p with
     | false=>simp [hx,B.cs?] at hc
     | true=>simp [hx,B.cs?] at hc; subst hc; exact .inl rfl
    | fz cs'=>simp [hx,B.cs?] at hc; subst hc; exact .inr rfl
    | mp es=>simp [hx,B.cs?] at hc
    | dead n=>simp [hx,B.cs?] at hc
  have done:∀ b',b'[id]?=some (.fz cs)->(dG s0 srcs b')[id]?=some (.fz cs):=by
   grind [Bj]
  rcases List.mem_cons.1 hs with rfl | hs'
  ·rw [if_neg hm,h];simp only [gS];refine done _ ?_;rcases hb with hb | hb
   ·rw [QY hb hne]; exact Wax (Wam.1 hb).1
   ·unfold fQ; rw [hb]; exact hb
  ·by_cases hm':2<=s'.2
   ·rw [if_pos hm']; exact BA s0 srcs b s hs' hm id off len sz h cs hc hne
   rw [if_neg hm'];cases hid:gS (s'.1.get s0) with
   | none=>exact BA s0 srcs b s hs' hm id off len sz h cs hc hne
   | some id'=>
    simp only;refine BA s0 srcs (fQ b id') s hs' hm id off len sz h cs ?_ hne;rcases Lu b id' id with g | ⟨cs',g1,_,_,g2⟩
    ·rw [g]; exact hc
    ·rw [g2];rw [g1] at hc;exact hc
def zen(v:V):Prop:=(∃ id off,v=.ptr id off)∨(∃ n cs,v=.fp n cs)∨(∃ f caps,v=.fn f caps)∨(∃ id,v=.mp id)∨(∃ id off len sz,v=.own id off len sz)∨(∃ sz,v=.fr sz [])∨(∃ cs,v=.st cs)
theorem zbQ(h:BU s=some v):∃ sz,s.1=.const (.gs sz [])/\v=.fr sz []:=by
 grind [BU]
theorem ziS{sz:Nat}(hx:du P aa ty x=some (.const (.gs sz []))):∃ A,a.eval x=.slice A 0 0:=by
 cases x with
 | tmp t=>simp [du] at hx
 | func f=>simp [du] at hx
 | global g=>simp [du] at hx
 | const c=>
  simp [du] at hx;unfold K1 at hx;split at hx <;> first | (cases hx; done) | skip
  exact ⟨none,rfl⟩
theorem zeQ(R:Rel aa we ωe U O Z a w ω μ){srcs:List (Src × Nat)}{ω1:Nat->Ow}(R1:Rel aa we ωe U O { Z with b:=dG Z srcs Z.b } a w ω1 μ)(F1:Fr (env U Z w ω μ) (env U { Z with b:=dG Z srcs Z.b } w ω1 μ))(hs:s∈srcs)(hx:du P aa ty x=some s.1)(hv:jh Z s=some v) :
  (RepP aa w (wr U ω1) v (a.eval x)∨(∀ l,Rep aa (env U { Z with b:=dG Z srcs Z.b } w ω1 μ) l v (a.eval x)/\zen v)):=by
 have hr:=R.opnd hx;unfold jh at hv;cases hnil:BU s with
 | some v'=>
  rw [hnil] at hv;cases hv;right;intro l;obtain ⟨sz,e1,rfl⟩:=zbQ hnil;rw [e1] at hx;obtain ⟨A,eu⟩:=ziS (P:=P) (aa:=aa) (a:=a) hx;rw [eu];exact ⟨.aU sz _,.inr (.inr (.inr (.inr (.inr (.inl ⟨sz,rfl⟩)))))⟩
 | none=>
 rw [hnil] at hv;simp only at hv;unfold wF at hv;cases hlend:wK s.2 (s.1.get Z) with
 | some v'=>
  rw [hlend] at hv;cases hv;unfold wK at hlend;split at hlend
  ·split at hlend
   ·rename_i id off len sz hg;cases hlend;rw [hg] at hr;right;intro l;exact ⟨Rep.frame0 F1 (λ_=>hr.bt.rep _) (by simp) l,.inr (.inr (.inr (.inr (.inl ⟨id,off,len,sz,rfl⟩))))⟩
   ·rename_i cs hg;cases hlend;rw [hg] at hr;right;intro l;obtain ⟨us,eu,h1,h2,h3⟩:=hr.st_inv;exact ⟨Rep.frame0 F1 (λ_=>by rw [eu]; exact .st cs us h1 h2 h3) (by simp) l,.inr (.inr (.inr (.inr (.inr (.inr ⟨cs,rfl⟩)))))⟩
   ·cases hlend
  ·cases hlend
 | none=>
 have hmode:∀ id off len sz,s.1.get Z=.own id off len sz->¬ 2<=s.2:=by
  intro id off len sz hg hm;rw [hg] at hlend;simp [wK,hm] at hlend
 rw [hlend] at hv;simp only at hv;cases hg:s.1.get Z with
 | own id off len sz=>
  rw [hg] at hr hv;simp only [i4,Wab] at hv;cases hcs:((Z.b[id]?).getD .gone).cs? with
  | none=>simp [hcs] at hv
  | some cs=>
   simp only [hcs,Option.bind_some,Option.pure_def,V.plain,Waf] at hv;subst hv;left;obtain ⟨c,L,A,eu,hL,hl,hc,hA⟩:=hr.own_inv;have hLc:L=cs.length:=by
    have h1:dS Z.b id=some L:=hL;have:=(R.ax hcs).1;rw [this] at h1; cases h1; rfl
   subst hLc;rw [eu];by_cases hne:cs=[]
   ·subst hne;have hnil:∀ (i:Nat) (v:V),¬ (bY sz len (([]:List V).drop off)).flatten[i]?=some v:=by
     intro i v hv;rw [ig,Wai] at hv;split at hv
     ·simp at hv
     ·cases hv
    have key:=RepP.sl (aa:=aa) (w:=w) (Wr:=wr U ω1) sz (bY sz len (([]:List V).drop off)) A c (λ_=>undef) (by rw [eo]; exact hc.1) (jF _ _ _ (by simp at hl ⊢; omega)) (μ id) off
     (λhne=>by
      rcases hA with ⟨h1,_⟩ | ⟨h1,_⟩
      ·exact h1
      ·subst h1; simp [bY] at hne)
     (λi v hv=>absurd hv (hnil i v)) (λi v hv=>absurd hv (hnil i v)) (λi v hv=>absurd hv (hnil i v))
    rw [eo] at key;exact key
   have hfz:=BA Z srcs Z.b s hs (hmode _ _ _ _ hg) id off len sz hg cs hcs hne;obtain ⟨q0,arr,T,fr,q1,q2,q3⟩:=R1.fs id cs hfz;have key:=RepP.sl (aa:=aa) (w:=w) (Wr:=wr U ω1) sz (bY sz len (cs.drop off)) A c (λi=>arr.toList.getD (off+i) undef) (by rw [eo]; exact hc.1) (jF _ _ _ (by simp; omega)) (μ id) off
    (λhne=>by
     rcases hA with ⟨h1,_⟩ | ⟨h1,_⟩
     ·exact h1
     ·subst h1; simp [bY] at hne)
   have seg:∀ (i:Nat) (v:V),(bY sz len (cs.drop off)).flatten[i]?=some v->∃ u,arr.toList.getD (off+i) undef=u/\arr[off+i]?=some u/\u.oneCell'=true/\RepP aa w (wr U ω1) v u:=by
    intro i v hv;rw [ig,Wai] at hv;split at hv
    ·rw [Waj] at hv;obtain ⟨u,g1,g2,g3⟩:=q3 _ _ hv;have g1':arr.toList[off+i]?=some u:=by simpa using g1
     exact ⟨u,by rw [Wak,g1']; rfl,g1,g2,g3⟩
    ·cases hv
   have key:=key (λi v hv=>by obtain ⟨u,e,g1,g2,g3⟩:=seg i v hv; exact ⟨q0 _,by rw [cell_of_row _ _ _ _ _ _ q1,e]; exact g1⟩)
    (λi v hv=>by obtain ⟨u,e,g1,g2,g3⟩:=seg i v hv; rw [e]; exact g2) (λi v hv=>by obtain ⟨u,e,g1,g2,g3⟩:=seg i v hv; rw [e]; exact g3)
   rw [eo] at key;exact key
 | ptr id off=>
  rw [hg] at hr hv;cases hv;right;intro l;obtain ⟨L,hL,eu⟩:=hr.ar;exact ⟨Rep.frame0 F1 (λ_=>by rw [eu]; exact .ptr id off L hL) (by simp) l,.inl ⟨id,off,rfl⟩⟩
 | fp n cs=>
  rw [hg] at hr hv;cases hv;right;intro l;obtain ⟨k,q,f,eu,g1,g2,g3,g4⟩:=hr.a6;exact ⟨Rep.frame0 F1 (λ_=>by rw [eu]; exact .fp n cs k q f g1 g2 g3 g4) (by simp) l,.inr (.inl ⟨n,cs,rfl⟩)⟩
 | fn g caps=>
  rw [hg] at hr hv;cases hv;right;intro l;obtain ⟨f,us,eu,g1,g2,g3⟩:=hr.bn;exact ⟨Rep.frame0 F1 (λ_=>by rw [eu]; exact .fn f g caps us g1 g2 g3) (by simp) l,.inr (.inr (.inl ⟨g,caps,rfl⟩))⟩
 | agg cs=>
  rw [hg] at hr hv;simp only [i4] at hv;cases hv;left;have h0:=hr.aZ;obtain ⟨us,eu,hcp⟩:=CellsP.of_agg h0;have hcp1:=hcp.mono (w':=w) (Wr':=wr U ω1) F1.st;rw [eu];split
  ·exact (vG hcp1).agg
  ·exact hcp1.agg
 | sc x=>
  rw [hg] at hr hv;simp only [i4] at hv;left;exact (hr.plain R.hU hv).mono F1.st
 | sl sz es=>
  rw [hg] at hr hv;simp only [i4] at hv;left;exact (hr.plain R.hU hv).mono F1.st
 | gs sz es=>
  rw [hg] at hr hv;simp only [i4] at hv;left;have h0:=(hr.plain R.hU (v':=.sl sz es) rfl);cases hv;exact h0.mono F1.st
 | mp id=>
  rw [hg] at hr hv;cases hv;right;intro l;obtain ⟨L,hL,eu⟩:=hr.be;exact ⟨Rep.frame0 F1 (λ_=>by rw [eu]; exact .mp id L hL) (by simp) l,.inr (.inr (.inr (.inl ⟨id,rfl⟩)))⟩
 | ae vs=>rw [hg] at hv; simp [i4,V.plain] at hv
 | st cs=>rw [hg] at hv; simp [i4,V.plain] at hv
 | bx p cs=>rw [hg] at hv; simp [i4,V.plain] at hv
 | fr sz es=>rw [hg] at hv; simp [i4,V.plain] at hv
 | cut id off len cap sz=>rw [hg] at hv; simp [i4,V.plain] at hv
 | ub=>rw [hg] at hv; simp [i4,V.plain] at hv
 | af=>rw [hg] at hv; simp [i4,V.plain] at hv
end
section
variable {ids:List Nat}{E:En}{v:V}{u:Value}{Wr:Nat->Nat->Prop}{k:Nat}
variable {aa:Rn} {we:World} {ωe:Nat->Ow} {U:Nat->Nat->Prop} {O:Nat->Prop} {Z:St} {a:Act} {w:World} {ω:Nat->Ow} {μ:Nat->Nat} {P:Program}
theorem Fm(b:List B):∀ (n:Nat) (todo acc:List Nat),acc.Nodup->(o7 b n todo acc).Nodup
 | 0,_,acc,h=>by simpa [o7] using h
 | n+1,[],acc,h=>by simpa [o7] using h
 | n+1,id::todo,acc,h=>by
  unfold o7;split
  ·exact Fm b n todo acc h
  ·rename_i hc;refine Fm b n _ _ ?_
   grind
theorem Am{id:Nat}(h:id∈ids):fD ids id<ids.length/\ids[fD ids id]?=some id:=by
 grind [fD]
theorem wN(hn:ids.Nodup){i id:Nat}(h:ids[i]?=some id):fD ids id=i:=by
 grind [fD]
theorem s5{b:List B}{ids:List Nat}:∀ (l:List Nat) (bor:Bor),oh b ids l=some bor->bor.length=l.length/\∀ (i id:Nat),l[i]?=some id->(∃ p cs,b[id]?=some (.live p cs)/\bor[i]?=some (.live p (if p then cs else cs.map (lr (fD ids))))/\(p=false->∀ c∈cs,kP ids c=true))∨(∃ es,b[id]?=some (.mp es)/\bor[i]?=some (.mp es))
 | [],bor,h=>by cases h; exact ⟨rfl,by simp⟩
 | id0::l,bor,h=>by
  simp only [oh] at h;split at h
  ·rename_i cs hb;simp [Waa] at h;obtain ⟨bor',h',rfl⟩:=h;obtain ⟨e,ih⟩:=s5 l bor' h'
   grind
  ·rename_i cs hb;split at h
   ·rename_i hall;simp [Waa] at h;obtain ⟨bor',h',rfl⟩:=h;obtain ⟨e,ih⟩:=s5 l bor' h'
    grind
   ·cases h
  ·rename_i es hb;simp [Waa] at h;obtain ⟨bor',h',rfl⟩:=h;obtain ⟨e,ih⟩:=s5 l bor' h'
   grind
  ·cases h
theorem OwnAt.move{E':En}(h:OwnAt E v u)(g:Nat->Nat)(hid:∀ id,gS v=some id->∀ L,E.bl id=some L->E'.bl (g id)=some L/\E'.μ (g id)=E.μ id)(hrs:∀ k,eR E.w k<=eR E'.w k):OwnAt E' (ZD g v) u:=by
 obtain ⟨id,off,len,sz,c,L,A,rfl,rfl,hL,hl,hc,hz,hA⟩:=h;obtain ⟨q1,q2⟩:=hid id rfl L hL;refine ⟨g id,off,len,sz,c,L,A,rfl,rfl,q1,hl,hc,hz,?_⟩
 grind
theorem RepP.renOwn_same(h:RepP aa w Wr v u)(g:Nat->Nat):ZD g v=v:=by
 cases h <;> rfl
theorem Rep.bD{E':En}{l l':Loc}{cs:List V}(h:Rep aa E l (.st cs) u)(st:∀ k o u,¬ E.Wr k o->E.w.cell? ⟨k,o,none⟩=some u->¬ E'.Wr k o/\E'.w.cell? ⟨k,o,none⟩=some u)(g:Nat->Nat)
  (hid:∀ id∈eg (.st cs),∀ L,E.bl id=some L->E'.bl (g id)=some L/\E'.μ (g id)=E.μ id) (hrs:∀ k,eR E.w k<=eR E'.w k):Rep aa E' l' (lr g (.st cs)) u:=by
 obtain ⟨us,rfl,hl,h,h1⟩:=h.st_inv;refine .st _ us (by simpa using hl) (λi c u hc hu=>?_) h1;rw [WaU] at hc;cases hci:cs[i]? with
 | none=>simp [hci] at hc
 | some c0=>
  simp [hci] at hc; subst hc;rcases h i c0 u hci hu with q | q
  ·left; rw [q.renOwn_same]; exact q.mono st
  ·right;exact q.move g (λid e=>hid id (by grind [eg])) hrs
theorem Rep.move{E E':En}{l l':Loc}{v:V}{u:Value}(h:Rep aa E l v u)(st:∀ k o u,¬ E.Wr k o->E.w.cell? ⟨k,o,none⟩=some u->¬ E'.Wr k o/\E'.w.cell? ⟨k,o,none⟩=some u)(g:Nat->Nat)
  (hid:∀ id∈eg v,∀ L,E.bl id=some L->E'.bl (g id)=some L/\E'.μ (g id)=E.μ id) (hg:∀ Y h,E.ω Y=.gs l h->E'.ω Y=.gs l' h/\E'.w.heap[Y]?=E.w.heap[Y]?) (hrs:∀ k,eR E.w k<=eR E'.w k) (htup:∀ x xs,v≠.ae (x::xs)):Rep aa E' l' (lr g v) u:=by
 cases h with
 | pure h=>
  have h':=h.mono (w':=E'.w) (Wr':=E'.Wr) st;cases h with
  | fn f g' hr=>exact .pure (.fn f g' hr)
  | sc _ _=>exact .pure h'
  | agg _ _ _ _ _=>exact .pure h'
  | sl _ _ _ _ _ _ _ _ _ _ _ _ _=>exact .pure h'
  | bv _ _ _ _ _ _ _ _ _ _ _ _=>exact .pure h'
 | gs sz es Y c arr T f hω hb hc hn hsz hcell h1 h=>
  obtain ⟨g1,g2⟩:=hg _ _ hω;exact .gs sz es Y c arr T f g1 (by rw [g2]; exact hb) hc hn hsz hcell h1 (λi v hv=>(h i v hv).mono st)
 | fr sz es Y c arr T f hω hb hc hn hsz hcell h1 h=>
  obtain ⟨g1,g2⟩:=hg _ _ hω;exact .fr sz es Y c arr T f g1 (by rw [g2]; exact hb) hc hn hsz hcell h1 (λi v hv=>(h i v hv).mono st)
 | aU sz A=>exact .aU sz A
 | ub b=>exact .ub b
 | mp id L hL=>
  obtain ⟨q1,q2⟩:=hid id (by simp [eg]) L hL;rw [<- q2];exact .mp (g id) L q1
 | bx p cs Y arr T f hω hb hn hcell h1 h=>
  obtain ⟨g1,g2⟩:=hg _ _ hω;exact .bx p cs Y arr T f g1 (by rw [g2]; exact hb) hn hcell h1 (λi v hv=>(h i v hv).mono st)
 | own id off len sz c L A hL hl hc hA=>
  exact (OwnAt.move ⟨id,off,len,sz,c,L,A,rfl,rfl,hL,hl,hc.1,hc.2,hA⟩ g (λid' e=>by cases e; grind [eg]) hrs).rep _
 | cut id off len cap sz c L A hL hl hc hA=>
  obtain ⟨q1,q2⟩:=hid id (by simp [eg]) L hL;refine .cut (g id) off len cap sz c L A q1 hl hc ?_
  grind
 | ptr id off L hL=>
  obtain ⟨q1,q2⟩:=hid id (by simp [eg]) L hL;rw [<- q2];exact .ptr (g id) off L q1
 | fp n cs k o f hl hcell h1 h=>exact .fp n cs k o f hl (λi v hv=>st _ _ _ (hcell i v hv).1 (hcell i v hv).2) h1 (λi v hv=>(h i v hv).mono st)
 | fn f g' caps us hr hl h=>
  refine .fn f g' _ us hr (by simpa using hl) (λi c hc=>?_);rw [WaU] at hc;cases hci:caps[i]? with
  | none=>simp [hci] at hc
  | some c0=>
   simp [hci] at hc; subst hc;obtain ⟨id,off,L,rfl,e2,e3⟩:=h i c0 hci;obtain ⟨q1,q2⟩:=hid id (by
    simp [eg];exact ⟨.ptr id off,WaQ hci,rfl⟩) L e2
   exact ⟨g id,off,L,rfl,q1,by rw [q2]; exact e3⟩
 | ae vs us hl h=>
  cases vs with
  | nil=>
   cases us with
   | nil=>exact .ae [] [] rfl (by simp)
   | cons x xs=>simp at hl
  | cons x xs=>exact absurd rfl (htup x xs)
 | st cs us hl h h1=>exact (Rep.st (l:=l) cs us hl h h1).bD st g hid hrs
 | af=>exact .af
theorem zdB(h:yU v=true):∀ x xs,v≠.ae (x::xs):=by
 grind [yU]
theorem Dv(h:kP ids v=true):(∀ id∈eg v,id∈ids)/\(∀ x xs,v≠.ae (x::xs)):=by
 cases v with
 | ptr id off=>grind [kP,eg]
 | own id off len sz=>grind [kP,eg]
 | mp id=>grind [kP,eg]
 | fn f caps=>
  grind [kP,eg]
 | ae _=>simp [kP] at h
 | bx _ _=>simp [kP] at h
 | fr _ _=>simp [kP] at h
 | cut _ _ _ _ _=>simp [kP] at h
 | ub=>simp [kP] at h
 | agg _=>simp [kP] at h
 | st _=>simp [kP] at h
 | _=>grind [eg]
theorem RepP.renV_same(h:RepP aa w Wr v u)(g:Nat->Nat):lr g v=v:=by
 cases h <;> rfl
def ωIn(ids:List Nat)(ω:Nat->Ow)(k:Nat):Ow:=match ω k with
 | .ax id=>if ids.contains id then .ax (fD ids id) else .no
 | .gs (.cell id j) h=>if ids.contains id then .gs (.cell (fD ids id) j) h else .no
 | _=>.no
def UIn(U:Nat->Nat->Prop)(ids:List Nat)(ω:Nat->Ow)(k o:Nat):Prop:=wr U ω k o/\ωIn ids ω k=.no
def OIn(ids:List Nat)(ω:Nat->Ow)(k:Nat):Prop:=ωIn ids ω k≠.no
theorem ωIn_no(h:ωIn ids ω k≠.no):ω k≠.no:=by
 grind [ωIn]
theorem Rel.noU(R:Rel aa we ωe U O Z a w ω μ)(h:ω k≠.no)(o:Nat):¬ U k o:=by
 intro hu;have h1:=R.ul _ _ hu;rcases (R.ow k h).1 with h | h
 ·omega
 ·exact h1.2 h
theorem Rel.wrIn(R:Rel aa we ωe U O Z a w ω μ)(ids:List Nat)(k o:Nat):wr (UIn U ids ω) (ωIn ids ω) k o↔wr U ω k o:=by
 have no:ωIn ids ω k=.no->(wr (UIn U ids ω) (ωIn ids ω) k o↔wr U ω k o):=by
  intro e;constructor
  ·intro h;rcases h with h | h
   ·exact h.1
   ·rw [e] at h; exact h.elim
  ·intro h; exact .inl ⟨h,e⟩
 cases hω:ω k with
 | no=>grind [ωIn]
 | ax id=>
  by_cases hc:ids.contains id=true
  ·have e:ωIn ids ω k=.ax (fD ids id):=by unfold ωIn; rw [hω]; simp only [hc,if_true]
   exact ⟨λ_=>.inr (by rw [hω]; trivial),λ_=>.inr (by rw [e]; trivial)⟩
  ·exact no (by unfold ωIn; rw [hω]; simp only [hc,if_false,WaR])
 | gs l hh=>
  cases l with
  | slot t j=>grind [ωIn]
  | cell id j=>
   by_cases hc:ids.contains id=true
   ·have e:ωIn ids ω k=.gs (.cell (fD ids id) j) hh:=by unfold ωIn; rw [hω]; simp only [hc,if_true]
    have hu:=R.noU (k:=k) (by rw [hω]; simp) o;constructor
    ·intro h;rcases h with h | h
     ·exact h.1
     ·rw [e] at h; exact .inr (by rw [hω]; exact h)
    ·intro h;rcases h with h | h
     ·exact absurd h hu
     ·rw [hω] at h; exact .inr (by rw [e]; exact h)
   ·exact no (by unfold ωIn; rw [hω]; simp only [hc,if_false,WaR])
theorem Rel.wrIn_eq(R:Rel aa we ωe U O Z a w ω μ)(ids:List Nat):wr (UIn U ids ω) (ωIn ids ω)=wr U ω:=by
 grind [Rel.wrIn]
theorem zlg{sz:Nat}(h:∀ l,Rep aa E l (.fr sz []) u):∃ A,u=.slice A 0 0:=by
 have h1:=h (.slot 0 0);have h2:=h (.slot 1 0);cases h1 with
 | pure h=>cases h
 | aU _ A=>exact ⟨A,rfl⟩
 | fr _ _ Y c arr T f hω hb hc hn hsz hcell h1' hh=>
  cases h2 with
  | pure h=>cases h
  | fr _ _ β' c' arr' T' f' hω' hb' hc' hn' hsz' hcell' h1'' hh'=>
   rw [hω] at hω'; cases hω'
  | aU _ A=>exact ⟨_,rfl⟩
theorem Rel.enterRel(R:Rel aa we ωe U O Z a w ω μ)(hn:ids.Nodup){bor:Bor}(hl:oh Z.b ids ids=some bor){args:List V}{us:List Value}(hlen:args.length=us.length)
  (hargs:∀ (i:Nat) (v:V) (u:Value),args[i]?=some v->us[i]?=some u->RepP aa w (wr U ω) v u∨(∀ l,Rep aa (env U Z w ω μ) l v u/\zen v))
  (hrefs:args.all (λa=>(eg a).all ids.contains)=true) :
  Rel aa w (ωIn ids ω) (UIn U ids ω) (OIn ids ω) ⟨args.map (lr (fD ids)),bor.map toB⟩ ⟨us.toArray,[]⟩ w (ωIn ids ω) (λi=>μ (ids.getD i 0)):=by
 obtain ⟨hbl,hbor⟩:=s5 ids bor hl;have hw:=R.wrIn_eq ids;have hidT:∀ id∈ids,∀ L,dS Z.b id=some L->dS (bor.map toB) (fD ids id)=some L/\μ (ids.getD (fD ids id) 0)=μ id:=by
  intro id hid L hL;obtain ⟨h1,h2⟩:=Am hid;refine ⟨?_,by rw [Wak,h2]; rfl⟩;rcases hbor _ _ h2 with ⟨p,cs,g1,g2,_⟩ | ⟨es,g1,g2⟩
  ·simp [dS,g1] at hL;simp only [dS,WaU,g2,Wbl,toB];cases p <;> simp [hL]
  ·simp [dS,g1] at hL;simp [dS,g2,toB,hL]
 have hst:∀ k o u,¬ wr U ω k o->w.cell? ⟨k,o,none⟩=some u->¬ wr (UIn U ids ω) (ωIn ids ω) k o/\w.cell? ⟨k,o,none⟩=some u:=by
  intro k o u h1 h2; rw [hw]; exact ⟨h1,h2⟩
 refine ⟨rfl,by simp [hlen],λi v hi=>?_,λi p cs hb=>?_,λi cs hb=>?_,λi es hb=>?_,Kept.refl _ w,λk hk=>⟨.inr hk,(R.ow k (ωIn_no hk)).2⟩,λk o hu=>?_,λk o u h1 h2=>⟨h1,h2⟩,λk=>Wah _,by rw [hw]; exact R.gvn⟩
 ·simp only [WaU] at hi;cases hai:args[i]? with
  | none=>simp [hai] at hi
  | some v0=>
   simp [hai] at hi; subst hi;have hlt:i<us.length:=by rw [<- hlen]; exact (Wam.1 hai).1
   have hu:us[i]?=some us[i]:=Wac hlt;have hgd:us.toArray.getD i undef=us[i]:=by simp [hlt]
   show Rep aa _ _ _ (us.toArray.getD i undef);rw [hgd];have hr0:=Wbj.1 hrefs v0 (WaQ hai);have hrf:∀ id∈eg v0,id∈ids:=λid hid=>by have:=Wbj.1 hr0 id hid; simpa using this
   rcases hargs i v0 us[i] hai hu with h | h
   ·rw [h.renV_same];exact .pure (h.mono hst)
   ·have h0:=h (.slot i 0);rcases h0.2 with ⟨id,off,rfl⟩ | ⟨n,cs,rfl⟩ | ⟨f,caps,rfl⟩ | ⟨id,rfl⟩ | hform
    ·obtain ⟨L,hL,e⟩:=h0.1.ar;obtain ⟨q1,q2⟩:=hidT id (hrf id (by simp [eg])) L hL;have:Rep aa (env (UIn U ids ω) ⟨args.map (lr (fD ids)),bor.map toB⟩ w (ωIn ids ω) (λi=>μ (ids.getD i 0))) (.slot i 0) (.ptr (fD ids id) off) (.pointer (some ⟨μ (ids.getD (fD ids id) 0),off,none⟩)):=.ptr _ off L q1;rw [q2] at this;rw [e]; exact this
    ·obtain ⟨k,q,f,e,g1,g2,g3,g4⟩:=h0.1.a6;rw [e];exact .fp n cs k q f g1 (λi v hv=>hst _ _ _ (g2 i v hv).1 (g2 i v hv).2) g3 (λi v hv=>(g4 i v hv).mono hst)
    ·obtain ⟨f',us',e,g1,g2,g3⟩:=h0.1.bn;rw [e];refine .fn f' f _ us' g1 (by simpa using g2) (λj c hc=>?_);rw [WaU] at hc;cases hcj:caps[j]? with
     | none=>simp [hcj] at hc
     | some c0=>
      simp [hcj] at hc; subst hc;obtain ⟨id,off,L,rfl,e2,e3⟩:=g3 j c0 hcj;obtain ⟨q1,q2⟩:=hidT id (hrf id (by simp [eg]; exact ⟨.ptr id off,WaQ hcj,rfl⟩)) L e2;refine ⟨fD ids id,off,L,rfl,q1,?_⟩;show us'[j]?=some (.pointer (some ⟨μ (ids.getD (fD ids id) 0),off,none⟩));rw [q2]; exact e3
    ·obtain ⟨L,hL,e⟩:=h0.1.be;obtain ⟨q1,q2⟩:=hidT id (hrf id (by simp [eg])) L hL;have:Rep aa (env (UIn U ids ω) ⟨args.map (lr (fD ids)),bor.map toB⟩ w (ωIn ids ω) (λi=>μ (ids.getD i 0))) (.slot i 0) (.mp (fD ids id)) (.map (some (μ (ids.getD (fD ids id) 0)))):=.mp _ L q1;rw [q2] at this;rw [e]; exact this
    ·have hst':∀ k o u,¬ (env U Z w ω μ).Wr k o->(env U Z w ω μ).w.cell? ⟨k,o,none⟩=some u->¬ (env (UIn U ids ω) ⟨args.map (lr (fD ids)),bor.map toB⟩ w (ωIn ids ω) (λi=>μ (ids.getD i 0))).Wr k o/\(env (UIn U ids ω) ⟨args.map (lr (fD ids)),bor.map toB⟩ w (ωIn ids ω) (λi=>μ (ids.getD i 0))).w.cell? ⟨k,o,none⟩=some u:=hst;rcases hform with ⟨id,off,len,sz,rfl⟩ | ⟨sz,rfl⟩ | ⟨cs,rfl⟩
     ·exact (h0.1.bt.move (E':=env (UIn U ids ω) ⟨args.map (lr (fD ids)),bor.map toB⟩ w (ωIn ids ω) (λi=>μ (ids.getD i 0))) (fD ids) (λid' e L hL=>by cases e; exact hidT id (hrf id (by simp [eg])) L hL) (λk=>Wah _)).rep _
     ·obtain ⟨A,e⟩:=zlg (λl=>(h l).1);rw [e]; exact .aU sz A
     ·exact h0.1.bD hst' (fD ids) (λid hid L hL=>hidT id (hrf id hid) L hL) (λk=>Wah _)
 ·simp only [WaU] at hb;cases hbi:bor[i]? with
  | none=>simp [hbi] at hb
  | some x=>
   have hi:i<ids.length:=by rw [<- hbl]; exact (Wam.1 hbi).1
   have hii:ids[i]?=some ids[i]:=Wac hi;simp [hbi,toB] at hb;subst hb;obtain ⟨p',cs',g1,g2,g3⟩:∃ p' cs',Z.b[ids[i]]?=some (.live p' cs')/\bor[i]?=some (.live p' (if p' then cs' else cs'.map (lr (fD ids))))/\(p'=false->∀ c∈cs',kP ids c=true):=by
    rcases hbor i _ hii with h | ⟨es,g1,g2⟩
    ·exact h
    ·rw [hbi] at g2; cases g2
   rw [hbi] at g2; cases g2;have hmu:μ (ids.getD i 0)=μ ids[i]:=by rw [Wak,hii]; rfl
   refine Po λhne=>?_;have hne':cs'≠[]:=by rintro rfl; cases p <;> simp at hne
   obtain ⟨e0,arr,T,e1,e2,e3⟩:=R.live g1 hne';have hmem:ids.contains ids[i]=true:=by simp
   refine ⟨?_,arr,T,by rw [hmu]; exact e1,by cases p <;> simp [e2],λj c hc=>?_⟩
   ·rw [hmu]; unfold ωIn; rw [e0]; simp only [hmem,if_true]; rw [wN hn hii]
   ·cases p with
    | true=>
     simp at hc;obtain ⟨u,q1,q2,q3,q4⟩:=e3 j c hc;exact ⟨u,q1,q2,λ_=>(q3 rfl).mono hst,.pure ((q3 rfl).mono hst)⟩
    | false=>
     simp only [WaR,if_false,WaU] at hc;cases hcj:cs'[j]? with
     | none=>simp [hcj] at hc
     | some c0=>
      simp [hcj] at hc; subst hc;obtain ⟨u,q1,q2,q3,q4⟩:=e3 j c0 hcj;obtain ⟨f1,f3⟩:=Dv (g3 rfl c0 (WaQ hcj));refine ⟨u,q1,q2,by simp,q4.move (E':=env (UIn U ids ω) ⟨args.map (lr (fD ids)),bor.map toB⟩ w (ωIn ids ω) (λi=>μ (ids.getD i 0))) (l':=.cell i j) hst (fD ids) (λid hid L hL=>hidT id (f1 id hid) L hL) (λY hh e=>⟨?_,rfl⟩) (λk=>Wah _) f3⟩;have e:ω Y=.gs (.cell ids[i] j) hh:=e;show ωIn ids ω Y=_;unfold ωIn;rw [e];simp only [hmem,if_true];rw [wN hn hii]
 ·simp only [WaU] at hb;cases hbi:bor[i]? with
  | none=>simp [hbi] at hb
  | some x=>
   have hi:i<ids.length:=by rw [<- hbl]; exact (Wam.1 hbi).1
   have hii:ids[i]?=some ids[i]:=Wac hi;simp [hbi,toB] at hb;subst hb;rcases hbor i _ hii with ⟨_,_,_,g2,_⟩ | ⟨_,_,g2⟩ <;> (rw [hbi] at g2; cases g2)
 ·simp only [WaU] at hb;cases hbi:bor[i]? with
  | none=>simp [hbi] at hb
  | some x=>
   have hi:i<ids.length:=by rw [<- hbl]; exact (Wam.1 hbi).1
   have hii:ids[i]?=some ids[i]:=Wac hi;simp [hbi,toB] at hb;subst hb;obtain ⟨es',g1,g2⟩:∃ es',Z.b[ids[i]]?=some (.mp es')/\bor[i]?=some (.mp es'):=by
    rcases hbor i _ hii with ⟨_,_,_,g2,_⟩ | h
    ·rw [hbi] at g2; cases g2
    ·exact h
   rw [hbi] at g2; cases g2;have hmu:μ (ids.getD i 0)=μ ids[i]:=by rw [Wak,hii]; rfl
   obtain ⟨e0,arr,clock,e1,e2⟩:=R.ms ids[i] _ g1;have hmem:ids.contains ids[i]=true:=by simp
   refine ⟨?_,arr,clock,by rw [hmu]; exact e1,e2.mono hst⟩;rw [hmu]; unfold ωIn; rw [e0]; simp only [hmem,if_true]; rw [wN hn hii]
 ·refine ⟨?_,λho=>ho hu.2⟩;rcases hu.1 with h | h
  ·exact Nat.lt_of_lt_of_le (R.ul _ _ h).1 R.kp.size
  ·exact (R.ow k (by intro e; rw [e] at h; exact h)).2
end
section
variable {ids:List Nat}{r:V}
variable {aa:Rn} {we:World} {ωe:Nat->Ow} {U:Nat->Nat->Prop} {O:Nat->Prop} {Z:St} {a:Act} {w:World} {ω:Nat->Ow} {μ:Nat->Nat} {P:Program}
theorem Di(g:Nat->Nat):∀ (ids:List Nat) (bor:Bor) (b:List B) (id:Nat),id ∉ ids->(iF g ids bor b)[id]?=b[id]?
 | [],bor,b,id,h=>by cases bor <;> rfl
 | i0::ids,[],b,id,h=>rfl
 | i0::ids,x::bor,b,id,h=>by
  unfold iF;rw [Di g ids bor _ id (λhm=>h (by simp [hm]))]
  grind
theorem DX(g:Nat->Nat):∀ (ids:List Nat) (bor:Bor) (b:List B) (i id:Nat) (x:B),ids.Nodup->ids[i]?=some id->bor[i]?=some x->id<b.length->(iF g ids bor b)[id]?=some (x.aa g)
 | [],bor,b,i,id,x,hn,h1,h2,h3=>by simp at h1
 | i0::ids,[],b,i,id,x,hn,h1,h2,h3=>by simp at h2
 | i0::ids,x0::bor,b,i,id,x,hn,h1,h2,h3=>by
  unfold iF;rw [Wbr] at hn;cases i with
  | zero=>
   grind [Di]
  | succ i=>exact DX g ids bor _ i id x hn.2 (by simpa using h1) (by simpa using h2) (by simpa using h3)
def Lt(ids:List Nat)(T:Nat):Ow->Ow
 | .ax i=>if i<ids.length then .ax (ids.getD i 0) else .no
 | .gs (.cell i j) h=>if i<ids.length then .gs (.cell (ids.getD i 0) j) h else .no
 | .gs (.slot 0 j) h=>.gs (.slot T j) h
 | _=>.no
def ωOut(ids ids':List Nat)(T:Nat)(w:World)(ω ω':Nat->Ow)(k:Nat):Ow:=
 if k<w.heap.size then match ωIn ids ω k with | .no=>ω k | _=>Lt ids' T (ω' k) else Lt ids' T (ω' k)
def owr:Ow->Nat->Prop
 | .no,_=>False
 | .gs _ h,o=>h<=o
 | .ax _,_=>True
theorem HL(U:Nat->Nat->Prop)(ω:Nat->Ow)(k o:Nat):wr U ω k o↔U k o∨owr (ω k) o:=by
 grind [owr,wr]
theorem zb7{T:Nat}{x:Ow}{o:Nat}(h:owr (Lt ids T x) o):owr x o:=by
 cases x with
 | no=>exact h
 | ax i=>trivial
 | gs l hh=>
  cases l with
  | slot t j=>
   cases t with
   | zero=>exact h
   | succ t=>exact h.elim
  | cell i j=>
   simp only [Lt] at h;by_cases hi:i<ids.length
   ·simp only [hi,if_true] at h; exact h
   ·simp [hi] at h; exact h.elim
theorem ωOut_cases(ids ids':List Nat)(T:Nat)(w:World)(ω ω':Nat->Ow)(k:Nat):(k<w.heap.size/\ωIn ids ω k=.no/\ωOut ids ids' T w ω ω' k=ω k)∨((w.heap.size<=k∨ωIn ids ω k≠.no)/\ωOut ids ids' T w ω ω' k=Lt ids' T (ω' k)):=by
 unfold ωOut;by_cases hk:k<w.heap.size
 ·rw [if_pos hk];cases h:ωIn ids ω k with
  | no=>exact .inl ⟨hk,rfl,rfl⟩
  | ax i=>exact .inr ⟨.inr (by simp),rfl⟩
  | gs l hh=>exact .inr ⟨.inr (by simp),rfl⟩
 ·rw [if_neg hk]; exact .inr ⟨.inl (by omega),rfl⟩
theorem M3:∀ {l m:Bor},ua l m=true->∀ (i:Nat) (x y:B),l[i]?=some x->m[i]?=some y->x.isMp=y.isMp
 | [],[],_,i,x,y,hx,_=>by simp at hx
 | [],_::_,h,_,_,_,_,_=>by simp [ua] at h
 | _::_,[],h,_,_,_,_,_=>by simp [ua] at h
 | a::l,b::m,h,i,x,y,hx,hy=>by
  simp [ua] at h;cases i with
  | zero=>grind
  | succ i=>exact M3 h.2 i x y (by simpa using hx) (by simpa using hy)
theorem Z0(h:∀ vs,r≠.ae vs):(∀ g,rP g r=lr g r)/\F5 r=yU r/\o4 r=eg r:=by
 cases r <;> first | exact ⟨λ_=>rfl,rfl,rfl⟩ | exact absurd rfl (h _)
theorem Rel.leave(R:Rel aa we ωe U O Z a w ω μ){xs:List Nat}(hn:(ids++xs).Nodup)(hxs:∀ x∈xs,Z.b[x]?=some .gone){bor bor':Bor}(hl:oh Z.b ids ids=some bor){u:Value}{w':World}{ω':Nat->Ow}{μ':Nat->Nat}
  (Rc:Rel aa w (ωIn ids ω) (UIn U ids ω) (OIn ids ω) ⟨[r],bor'.map toB⟩ ⟨#[u],[]⟩ w' ω' μ') (hμ:∀ k,k<bor.length->μ' k=μ (ids.getD k 0)) (hlen:(bor'.take ids.length).map B.len=bor.map B.len) (hlen':bor'.length=(ids++xs).length)
  (hlend:bor'.all (B.lend (List.range (ids++xs).length))=true) (hr:F5 r=true) (hrr:(o4 r).all (λk=>decide (k<(ids++xs).length))=true) (hkind:ua (bor'.take ids.length) bor=true) (hrow:(bor'.drop ids.length).all B.isRow=true) :
  ∃ ω2 μ2,Rel aa we ωe U O { Z with b:=iF (λk=>(ids++xs).getD k 0) (ids++xs) bor' Z.b } a w' ω2 μ2/\Rep aa (env U { Z with b:=iF (λk=>(ids++xs).getD k 0) (ids++xs) bor' Z.b } w' ω2 μ2) (.slot Z.t.length 0) (rP (λk=>(ids++xs).getD k 0) r) u/\∀ k,k ∉ xs->μ2 k=μ k:=by
 obtain ⟨hbl,hbor⟩:=s5 ids bor hl;have hw:=R.wrIn_eq ids;obtain ⟨ids',hids'⟩:∃ ids',ids'=ids++xs:=⟨_,rfl⟩;rw [<- hids'] at hn hlen' hlend hrr ⊢;have hidsl:ids.length<=ids'.length:=by rw [hids']; simp
 have hat1:∀ i,i<ids.length->ids'[i]?=ids[i]?:=λi hi=>by rw [hids',Wan hi]
 have hat2:∀ i,ids.length<=i->ids'[i]?=xs[i-ids.length]?:=λi hi=>by rw [hids',Wal hi]
 have hgetD:∀ i id,ids'[i]?=some id->ids'.getD i 0=id:=λi id h=>by rw [Wak,h]; rfl
 obtain ⟨μ2,hμ2⟩:∃ μ2:Nat->Nat,μ2=λid=>if xs.contains id then μ' (fD ids' id) else μ id:=⟨_,rfl⟩;have hμno:∀ k,k ∉ xs->μ2 k=μ k:=by
  intro k hk;have:xs.contains k=false:=by simpa using hk
  rw [hμ2]; simp only [this,WaR,if_false]
 have hnx:∀ id,id∈ids->id ∉ xs:=by
  intro id h1 h2;rw [hids',List.nodup_append] at hn;exact hn.2.2 id h1 id h2 rfl
 have hμat:∀ i id,ids'[i]?=some id->μ2 id=μ' i:=by
  intro i id h;by_cases hi:i<ids.length
  ·have h1:ids[i]?=some id:=by rw [<- hat1 i hi]; exact h
   rw [hμno id (hnx id (WaQ h1)),hμ i (by rw [hbl]; exact hi),Wak,h1]; rfl
  ·have h1:xs[i-ids.length]?=some id:=by rw [<- hat2 i (by omega)]; exact h
   have:xs.contains id=true:=by simpa using WaQ h1
   rw [hμ2]; simp only [this,if_true];rw [wN hn h]
 generalize hσ2:({ Z with b:=iF (λk=>ids'.getD k 0) ids' bor' Z.b }:St)=σ2;have hσ2b:σ2.b=iF (λk=>ids'.getD k 0) ids' bor' Z.b:=by rw [<- hσ2]
 have hσ2t:σ2.t=Z.t:=by rw [<- hσ2]
 have hk2:=M3 hkind;have hlent:∀ (i id:Nat),ids'[i]?=some id->∃ y,bor'[i]?=some y/\σ2.b[id]?=some (y.aa (λk=>ids'.getD k 0))/\y.lend (List.range ids'.length)=true /\
   (Z.b[id]?=some .gone∨(∃ p cs p' cs',Z.b[id]?=some (.live p cs)/\y=.live p' cs'/\cs'.length=cs.length)∨(∃ es es',Z.b[id]?=some (.mp es)/\y=.mp es')∨(∃ p cs,Z.b[id]?=some (.live p cs)/\y=.dead cs.length)):=by
  intro i id hi;have hib:i<bor'.length:=by rw [hlen']; exact (Wam.1 hi).1
  have hbi:bor'[i]?=some bor'[i]:=Wac hib;have hy:=Wbj.1 hlend _ (WaQ hbi);generalize hyy:bor'[i]=y at hbi hy;by_cases hil:i<ids.length
  ·have hi1:ids[i]?=some id:=by rw [<- hat1 i hil]; exact hi
   have hbt:(bor'.take ids.length)[i]?=some y:=by rw [Wai,if_pos hil]; exact hbi
   have e1:((bor'.take ids.length).map B.len)[i]?=some y.len:=by rw [WaU,hbt]; rfl
   rw [hlen,WaU] at e1;rcases hbor i id hi1 with ⟨p,cs,g1,g2,g3⟩ | ⟨es,g1,g2⟩
   ·refine ⟨y,hbi,?_,hy,?_⟩
    ·rw [hσ2b]; exact DX _ ids' bor' Z.b i id y hn hi hbi (Wam.1 g1).1
    ·have hm:=hk2 i _ _ hbt g2;rw [g2] at e1;simp only [Wbl,Waf] at e1;have e1':cs.length=y.len:=by rw [<- e1]; cases p <;> simp [B.len]
     cases y with
     | gone=>simp [B.lend] at hy
     | fz _=>simp [B.lend] at hy
     | mp _=>simp [B.isMp] at hm
     | live p' cs'=>exact .inr (.inl ⟨p,cs,p',cs',g1,rfl,e1'.symm⟩)
     | dead n=>exact .inr (.inr (.inr ⟨p,cs,g1,by rw [e1']; rfl⟩))
   ·refine ⟨y,hbi,?_,hy,?_⟩
    ·rw [hσ2b]; exact DX _ ids' bor' Z.b i id y hn hi hbi (Wam.1 g1).1
    ·have hm:=hk2 i _ _ hbt g2;cases y with
     | gone=>simp [B.lend] at hy
     | fz _=>simp [B.lend] at hy
     | mp es'=>exact .inr (.inr (.inl ⟨es,es',g1,rfl⟩))
     | live p' cs'=>simp [B.isMp] at hm
     | dead n=>simp [B.isMp] at hm
  ·have hi2:xs[i-ids.length]?=some id:=by rw [<- hat2 i (by omega)]; exact hi
   have g1:=hxs id (WaQ hi2);refine ⟨y,hbi,?_,hy,.inl g1⟩;rw [hσ2b]; exact DX _ ids' bor' Z.b i id y hn hi hbi (Wam.1 g1).1
 have hother:∀ id,id ∉ ids'->σ2.b[id]?=Z.b[id]?:=λid h=>by rw [hσ2b]; exact Di _ _ _ _ _ h
 have hblen:∀ id L,dS Z.b id=some L->dS σ2.b id=some L/\id ∉ xs:=by
  intro id L hL;have hnotx:id ∉ xs:=by
   intro hx;simp [dS,hxs id hx] at hL
  refine ⟨?_,hnotx⟩;by_cases hid:id∈ids'
  ·obtain ⟨h1,h2⟩:=Am hid;obtain ⟨y,g2,g3,_,g4⟩:=hlent _ _ h2;rcases g4 with g4 | ⟨p,cs,p',cs',g4,rfl,g5⟩ | ⟨es,es',g4,rfl⟩ | ⟨p,cs,g4,rfl⟩
   ·simp [dS,g4] at hL
   ·simp [dS,g4] at hL;unfold dS; rw [g3];cases p' <;> simp [B.aa,g5,hL]
   ·simp [dS,g4] at hL;unfold dS; rw [g3];simp [B.aa,hL]
   ·simp [dS,g4] at hL;unfold dS; rw [g3];simp [B.aa,hL]
  ·unfold dS at hL ⊢; rw [hother id hid]; exact hL
 have hst:∀ k o x,¬ wr U ω k o->w.cell? ⟨k,o,none⟩=some x->¬ wr U (ωOut ids ids' Z.t.length w ω ω') k o/\w'.cell? ⟨k,o,none⟩=some x:=by
  intro k o x h1 h2;have h1':¬ wr (UIn U ids ω) (ωIn ids ω) k o:=by rw [hw]; exact h1
  obtain ⟨q1,q2⟩:=Rc.fr k o x h1' h2;refine ⟨λhwr=>?_,q2⟩;rw [HL] at hwr;rcases hwr with hu | hh
  ·exact h1 (.inl hu)
  ·rcases ωOut_cases ids ids' Z.t.length w ω ω' k with ⟨_,_,e⟩ | ⟨_,e⟩
   ·rw [e] at hh; exact h1 ((HL _ _ _ _).2 (.inr hh))
   ·rw [e] at hh; exact q1 ((HL _ _ _ _).2 (.inr (zb7 hh)))
 have F:Fr (env U Z w ω μ) (env U σ2 w' (ωOut ids ids' Z.t.length w ω ω') μ2):=
  ⟨hst,λid L hL=>⟨(hblen id L hL).1,hμno id (hblen id L hL).2,Rc.rs _⟩⟩
 have hout:∀ k o x,¬ wr (UIn U ids ω) ω' k o->w'.cell? ⟨k,o,none⟩=some x->¬ wr U (ωOut ids ids' Z.t.length w ω ω') k o/\w'.cell? ⟨k,o,none⟩=some x:=by
  intro k o x h1 h2;refine ⟨λhwr=>?_,h2⟩;rcases ωOut_cases ids ids' Z.t.length w ω ω' k with ⟨hk,hno,e⟩ | ⟨hk,e⟩
  ·unfold wr at hwr;rw [e] at hwr;exact h1 (.inl ⟨hwr,hno⟩)
  ·rw [HL] at hwr;rcases hwr with hu | hh
   ·have hklt:=(R.ul _ _ hu).1;rcases hk with hk | hk
    ·have:=R.kp.size; omega
    ·exact R.noU (ωIn_no hk) o hu
   ·rw [e] at hh; exact h1 ((HL _ _ _ _).2 (.inr (zb7 hh)))
 have hgapart:∀ l Y h,ω Y=.gs l h->ωIn ids ω Y=.no->ωOut ids ids' Z.t.length w ω ω' Y=.gs l h/\w'.heap[Y]?=w.heap[Y]?:=by
  intro l Y h e hno;have hlt:=(R.ow Y (by rw [e]; simp)).2;refine ⟨?_,Rc.kp.block Y hlt (λho=>ho hno)⟩;rcases ωOut_cases ids ids' Z.t.length w ω ω' Y with ⟨_,_,e'⟩ | ⟨hk,_⟩
  ·rw [e']; exact e
  ·rcases hk with hk | hk
   ·omega
   ·exact absurd hno hk
 have hown':∀ k,ω' k≠.no->w.heap.size<=k∨ωIn ids ω k≠.no:=λk hk=>(Rc.ow k hk).1;have hback:∀ k x,ω' k=x->x≠.no->ωOut ids ids' Z.t.length w ω ω' k=Lt ids' Z.t.length x:=by
  intro k x e hx;rcases ωOut_cases ids ids' Z.t.length w ω ω' k with ⟨h1,h2,_⟩ | ⟨_,e'⟩
  ·rcases hown' k (by rw [e]; exact hx) with h | h
   ·omega
   ·exact absurd h2 h
  ·rw [e',e]
 have hidT:∀ i,i<ids'.length->∀ L,dS (bor'.map toB) i=some L->dS σ2.b (ids'.getD i 0)=some L/\μ2 (ids'.getD i 0)=μ' i:=by
  intro i hil L hL;have hgi:ids'[i]?=some ids'[i]:=Wac hil;obtain ⟨y,r2,r3,_,_⟩:=hlent i _ hgi;rw [hgetD i _ hgi];refine ⟨?_,hμat i _ hgi⟩;unfold dS at hL ⊢;rw [WaU,r2] at hL;rw [r3];simp [toB] at hL;cases y with
  | gone=>cases hL
  | live p cs=>simp at hL; cases p <;> simp [B.aa,hL]
  | fz cs=>simpa [B.aa] using hL
  | mp es=>simpa [B.aa] using hL
  | dead n=>simpa [B.aa] using hL
 have hnotin:∀ id,id ∉ ids'->ids.contains id=false:=by
  intro id h;have:id ∉ ids:=λhm=>h (by rw [hids']; simp [hm]);simpa using this
 refine ⟨ωOut ids ids' Z.t.length w ω ω',μ2,R.step F hσ2t (λt j Y h ht e=>hgapart _ Y h e (by unfold ωIn; rw [e])) (λid p cs hb hne=>?_) (λid cs hb=>?_) (λid es hb=>?_) Rc.kp (λk hk ho=>?_) (λk hk=>?_) Rc.rs,?_,hμno⟩
 ·by_cases hid:id∈ids'
  ·right;obtain ⟨h1,h2⟩:=Am hid;obtain ⟨y0,g2,g3,hal,g4⟩:=hlent _ _ h2;rw [g3] at hb;obtain ⟨p',cs',rfl⟩:∃ p' cs',y0=.live p' cs':=by
    cases y0 with
    | live p' cs'=>exact ⟨p',cs',rfl⟩
    | gone=>simp [B.aa] at hb
    | fz _=>simp [B.aa] at hb
    | mp _=>simp [B.aa] at hb
    | dead _=>simp [B.aa] at hb
   simp only [B.aa,Waf,B.live.injEq] at hb;obtain ⟨hbp,hbc⟩:=hb;subst hbp;subst hbc;have hmu:μ2 id=μ' (fD ids' id):=hμat _ _ h2;have hne':cs'≠[]:=by rintro rfl; cases p' <;> simp at hne
   obtain ⟨e0,arr,T,e1,e2,e3⟩:=Rc.live (id:=fD ids' id) (p:=p') (cs:=cs') (by simp only [WaU,g2,Wbl]; rfl) hne';rw [hmu];refine ⟨?_,arr,T,e1,by cases p' <;> simp [e2],λj c hc=>?_⟩
   ·rw [hback _ _ e0 (by simp)];simp only [Lt,h1,if_true];rw [hgetD _ _ h2]
   ·cases p' with
    | true=>
     simp at hc;obtain ⟨x,q1,q2,q3,q4⟩:=e3 j c hc;exact ⟨x,q1,q2,λ_=>(q3 rfl).mono hout,.pure ((q3 rfl).mono hout)⟩
    | false=>
     simp only [WaR,if_false,WaU] at hc;cases hcj:cs'[j]? with
     | none=>simp [hcj] at hc
     | some c0=>
      simp [hcj] at hc; subst hc;obtain ⟨x,q1,q2,q3,q4⟩:=e3 j c0 hcj;simp only [B.lend,Bool.false_or] at hal;obtain ⟨f1,f3⟩:=Dv (Wbj.1 hal c0 (WaQ hcj));refine ⟨x,q1,q2,by simp,q4.move (E':=env U σ2 w' (ωOut ids ids' Z.t.length w ω ω') μ2) (l':=.cell id j) hout (λk=>ids'.getD k 0) (λi hi L hL=>hidT i (by simpa using f1 i hi) L hL) (λY hh e=>⟨?_,rfl⟩) (λk=>Wah _) f3⟩;have e:ω' Y=.gs (.cell (fD ids' id) j) hh:=e;show ωOut ids ids' Z.t.length w ω ω' Y=_;rw [hback _ _ e (by simp)];simp only [Lt,h1,if_true];rw [hgetD _ _ h2]
  ·left;rw [hother id hid] at hb;obtain ⟨e0,arr,T,e1,_⟩:=R.live hb hne;have hcont:=hnotin id hid;have hno:ωIn ids ω (μ id)=.no:=by unfold ωIn; rw [e0]; simp only [hcont,WaR,if_false]
   have hlt:=(R.ow (μ id) (by rw [e0]; simp)).2;refine ⟨hb,?_,Rc.kp.block _ hlt (λho=>ho hno),λj Y h e=>hgapart _ Y h e (by unfold ωIn; rw [e]; simp only [hcont,WaR,if_false])⟩;rcases ωOut_cases ids ids' Z.t.length w ω ω' (μ id) with ⟨_,_,e'⟩ | ⟨hk,_⟩
   ·rw [e']; exact e0
   ·rcases hk with hk | hk
    ·omega
    ·exact absurd hno hk
 ·have hid:id ∉ ids':=by
   intro hid;obtain ⟨h1,h2⟩:=Am hid;obtain ⟨y0,g2,g3,hal,g4⟩:=hlent _ _ h2;rw [g3] at hb;cases y0 with
   | fz _=>simp [B.lend] at hal
   | live p' cs'=>simp [B.aa] at hb
   | gone=>simp [B.aa] at hb
   | mp _=>simp [B.aa] at hb
   | dead _=>simp [B.aa] at hb
  left;rw [hother id hid] at hb;obtain ⟨e0,arr,T,fr,e1,e2,e3⟩:=R.fs id cs hb;have hlt:μ id<w.heap.size:=(Array.getElem?_eq_some_iff.1 e1).1;have hωno:ωIn ids ω (μ id)=.no∨ωIn ids ω (μ id)≠.no:=by
   cases ωIn ids ω (μ id) <;> simp
  have hno:ωIn ids ω (μ id)=.no:=by
   rcases hωno with h | h
   ·exact h
   ·exfalso
    have hne:=ωIn_no h;cases hω:ω (μ id) with
    | no=>exact hne hω
    | ax i=>exact e0 0 (.inr (by rw [hω]; trivial))
    | gs l hh=>exact e0 hh (.inr (by rw [hω]; exact Wah _))
  refine ⟨hb,λo ho=>e0 o ?_,Rc.kp.block _ hlt (λho=>ho hno)⟩;rcases ωOut_cases ids ids' Z.t.length w ω ω' (μ id) with ⟨_,_,e'⟩ | ⟨hk,_⟩
  ·unfold wr at ho ⊢; rw [e'] at ho; exact ho
  ·rcases hk with hk | hk
   ·omega
   ·exact absurd hno hk
 ·by_cases hid:id∈ids'
  ·right;obtain ⟨h1,h2⟩:=Am hid;obtain ⟨y0,g2,g3,hal,g4⟩:=hlent _ _ h2;rw [g3] at hb;obtain ⟨es',rfl⟩:∃ es',y0=.mp es':=by
    cases y0 with
    | mp es'=>exact ⟨es',rfl⟩
    | live p' cs'=>simp [B.aa] at hb
    | gone=>simp [B.aa] at hb
    | fz _=>simp [B.aa] at hb
    | dead _=>simp [B.aa] at hb
   simp only [B.aa,Waf,B.mp.injEq] at hb;subst hb;have hmu:μ2 id=μ' (fD ids' id):=hμat _ _ h2;obtain ⟨e0,arr,clock,e1,e2⟩:=Rc.ms (fD ids' id) es' (by simp only [WaU,g2,Wbl]; rfl);rw [hmu];refine ⟨?_,arr,clock,e1,e2.mono hout⟩;rw [hback _ _ e0 (by simp)];simp only [Lt,h1,if_true];rw [hgetD _ _ h2]
  ·left;rw [hother id hid] at hb;obtain ⟨e0,arr,clock,e1,_⟩:=R.ms id es hb;have hcont:=hnotin id hid;have hno:ωIn ids ω (μ id)=.no:=by unfold ωIn; rw [e0]; simp only [hcont,WaR,if_false]
   have hlt:=(R.ow (μ id) (by rw [e0]; simp)).2;refine ⟨hb,?_,Rc.kp.block _ hlt (λho=>ho hno)⟩;rcases ωOut_cases ids ids' Z.t.length w ω ω' (μ id) with ⟨_,_,e'⟩ | ⟨hk,_⟩
   ·rw [e']; exact e0
   ·rcases hk with hk | hk
    ·omega
    ·exact absurd hno hk
 ·have hne:=ωIn_no ho;rcases (R.ow k hne).1 with h | h
  ·omega
  ·exact h
 ·rcases ωOut_cases ids ids' Z.t.length w ω ω' k with ⟨h1,h2,e⟩ | ⟨h1,e⟩
  ·rw [e] at hk;exact ⟨(R.ow k hk).1,Nat.lt_of_lt_of_le (R.ow k hk).2 Rc.kp.size⟩
  ·rw [e] at hk;have hk':ω' k≠.no:=by intro e'; rw [e'] at hk; exact hk rfl
   have:=Rc.ow k hk';refine ⟨?_,this.2⟩;rcases h1 with h | h
   ·exact .inl (Nat.le_trans R.kp.size h)
   ·exact (R.ow k (ωIn_no h)).1
 ·have hr0:Rep aa (env (UIn U ids ω) ⟨[r],bor'.map toB⟩ w' ω' μ') (.slot 0 0) r u:=Rc.ts 0 r rfl;have one:∀ (v:V) (x:Value) (j:Nat),yU v=true->(∀ k∈eg v,k<ids'.length)->Rep aa (env (UIn U ids ω) ⟨[r],bor'.map toB⟩ w' ω' μ') (.slot 0 j) v x->Rep aa (env U σ2 w' (ωOut ids ids' Z.t.length w ω ω') μ2) (.slot Z.t.length j) (lr (λk=>ids'.getD k 0) v) x:=by
   intro v x j hv hrf hx;exact hx.move (E':=env U σ2 w' (ωOut ids ids' Z.t.length w ω ω') μ2) (l':=.slot Z.t.length j) hout (λk=>ids'.getD k 0) (λid hid L hL=>hidT id (hrf id hid) L hL) (λY hh e=>⟨by
    have e:ω' Y=.gs (.slot 0 j) hh:=e;show ωOut ids ids' Z.t.length w ω ω' Y=_;rw [hback _ _ e (by simp)]; rfl,rfl⟩) (λk=>Wah _) (zdB hv)
  have hrf:∀ k∈o4 r,k<ids'.length:=λk hk=>of_decide_eq_true (Wbj.1 hrr k hk);by_cases hnt:∀ vs,r≠.ae vs
  ·obtain ⟨t1,t2,t3⟩:=Z0 hnt;rw [t1];rw [t2] at hr;rw [t3] at hrf;exact one r u 0 hr hrf hr0
  ·obtain ⟨vs,rfl⟩:∃ vs,r=.ae vs:=by
    refine Classical.byContradiction λhc=>hnt λvs e=>hc ⟨vs,e⟩
   obtain ⟨us,e,hl,hel⟩:=hr0.tup_inv;rw [e];refine .ae _ us (by simpa using hl) (λj v x hv hx=>?_);rw [WaU] at hv;cases hvj:vs[j]? with
   | none=>simp [hvj] at hv
   | some v0=>
    simp [hvj] at hv; subst hv;have hv1:yU v0=true:=Wbj.1 hr v0 (WaQ hvj);exact one v0 x (j+1) hv1 (λk hk=>hrf k (by simp [o4]; exact ⟨v0,WaQ hvj,hk⟩)) (hel j v0 x hvj hx)
end
section
variable {cb:CB}{f:FuncId}{g ld:Nat}{args:Array Operand}{ah:Bool}{σ':St}{xs:List Nat}{o:Oper}{ss:List (Src × Nat)}{ats:Array TypeId}
variable {aa:Rn} {we:World} {ωe:Nat->Ow} {U:Nat->Nat->Prop} {O:Nat->Prop} {Z:St} {a:Act} {w:World} {ω:Nat->Ow} {μ:Nat->Nat} {P:Program} {nb:Nat}
theorem NI{b:List B}{nb:Nat}:∀ {xs:List Nat},w7 b nb xs=true->(xs.map (nb+·)).Nodup/\∀ x∈xs.map (nb+·),b[x]?=some .gone
 | [],_=>⟨by simp,by simp⟩
 | x::xs,h=>by
  simp only [w7,WaG] at h;obtain ⟨⟨h1,h2⟩,h3⟩:=h;obtain ⟨i1,i2⟩:=NI h3;have hg:b[nb+x]?=some .gone:=by
   split at h2
   ·assumption
   ·cases h2
  refine ⟨?_,?_⟩
  ·rw [List.map_cons,Wbr];refine ⟨λhm=>?_,i1⟩;simp only [List.mem_map] at hm;obtain ⟨y,hy,e⟩:=hm;have:y=x:=by omega
   subst this;simp [hy] at h1
  ·intro y hy;rw [List.map_cons] at hy;rcases List.mem_cons.1 hy with rfl | hy
   ·exact hg
   ·exact i2 y hy
theorem X4(R:Rel aa we ωe U O Z a w ω μ)(hcb:rD P aa cb)(hf:aa f=some g){srcs:List (Src × Nat)}{args:List V}{us:List Value}(hlen:args.length=us.length)
  (hargs:∀ ω1,Rel aa we ωe U O { Z with b:=dG Z srcs Z.b } a w ω1 μ->Fr (env U Z w ω μ) (env U { Z with b:=dG Z srcs Z.b } w ω1 μ)->∀ (i:Nat) (v:V) (u:Value),args[i]?=some v->us[i]?=some u ->
   RepP aa w (wr U ω1) v u∨(∀ l,Rep aa (env U { Z with b:=dG Z srcs Z.b } w ω1 μ) l v u/\zen v))
   {dst:Option Nat}    (h:nu cb nb Z dst ah g args srcs xs=some σ') :
  n8 P f=true/\Calls P f us.toArray w λe w'=>∃ u,e=.returned u/\∃ ω' μ',Rel aa we ωe U O σ' (a.put dst u) w' ω' μ'/\∀ k,k<nb->μ' k=μ k:=by
 obtain ⟨ω1,R1,F1⟩:=R.frozenBy Z srcs;have hargs1:=hargs ω1 R1 F1;unfold nu at h;simp only [Wab,Waa] at h;obtain ⟨bor,hl,⟨r,bor'⟩,hr,h⟩:=h;simp only at h hr;split at h
 ·rename_i hc;obtain ⟨c1,c1',c2,c3,c3',c4,c5,c6,c7⟩:=hc;have hn:(gZ (dG Z srcs Z.b) args).Nodup:=Fm _ _ _ _ (by simp);obtain ⟨k1',k2'⟩:=NI c7;have k1:((xs.map (nb+·)).take (bor'.length-(gZ (dG Z srcs Z.b) args).length)).Nodup:=k1'.sublist (List.take_sublist _ _);have k2:∀ x∈(xs.map (nb+·)).take (bor'.length-(gZ (dG Z srcs Z.b) args).length),(dG Z srcs Z.b)[x]?=some .gone:=λx hx=>k2' x (WaI hx);have hn2:(gZ (dG Z srcs Z.b) args++(xs.map (nb+·)).take (bor'.length-(gZ (dG Z srcs Z.b) args).length)).Nodup:=by
   rw [List.nodup_append];refine ⟨hn,k1,λx hx y hy=>?_⟩
   rintro rfl
   have hgone:=k2 x hy;obtain ⟨i,hi,e⟩:=List.getElem_of_mem hx;rcases (s5 _ bor hl).2 i x (by grind) with ⟨p,cs,g1,_⟩ | ⟨es,g1,_⟩ <;> (rw [hgone] at g1; cases g1)
  obtain ⟨hcall,hp⟩:=hcb _ _ _ _ _ hr f hf;refine ⟨hcall,(hp w us _ _ _ _ (R1.enterRel hn hl hlen hargs1 c2)).mono ?_⟩
  rintro e w' ⟨u,ω',μ',rfl,Rc,hμ⟩
  refine ⟨u,rfl,?_⟩;obtain ⟨ω2,μ2,R2,hr2,hm2⟩:=R1.leave hn2 k2 hl Rc hμ c1 c1' c4 c3 c3' c5 c6;obtain ⟨ω3,μ3,R3,hm3⟩:=R2.au (Wah _) hr2 h;refine ⟨ω3,μ3,R3,λk hk=>(hm3 k hk).trans (hm2 k ?_)⟩;intro hm;have hm:=WaI hm;simp only [List.mem_map] at hm;obtain ⟨y,_,e⟩:=hm;omega
 ·cases h
theorem StepOk.enter{us:Array Value}(h:(execOp a.eval o).run P w=.ok (.enter f us) w)(hc:Calls P f us w λe w'=>∃ u,e=.returned u/\∃ ω' μ',Rel aa we ωe U O σ' (a.put o.dst u) w' ω' μ'/\∀ k,k<nb->μ' k=μ k):StepOk P aa we ωe U O a w o σ' nb μ:=by
 intro K Q hK;unfold Oper.wp;rw [h];refine hc.mono ?_
 grind
theorem Og(h:n8 P f=true)(us:Array Value)(w:World):(callFunc f us).run P w=.ok (.enter f us) w:=by
 unfold n8 at h;cases hf:P.funcs[f]? with
 | none=>simp [hf] at h
 | some fn=>
  simp [hf] at h;have hb:fn.body.isNone=false:=by
   simp_all
  simp [callFunc,hf,h.2]
  grind
theorem Rr(ld:Nat):∀ (xs:List Operand) (ts:List TypeId) (ss:List (Src × Nat)),EJ P aa ld xs ts=some ss->ss.length=xs.length/\∀ (i:Nat) (s:Src × Nat),ss[i]?=some s->∃ x ty,xs[i]?=some x/\du P aa ty x=some s.1
 | [],ts,ss,h=>by cases h; exact ⟨rfl,by simp⟩
 | x::xs,ts,ss,h=>by
  simp only [EJ,Wab,Waa,Option.pure_def,Waf] at h;obtain ⟨s,hs,rest,hr,rfl⟩:=h;obtain ⟨e,ih⟩:=Rr ld xs ts.tail rest hr
  grind
theorem zbf(R:Rel aa we ωe U O Z a w ω μ){xs:List Operand}{ts:List TypeId}(h:EJ P aa ld xs ts=some ss){vs:List V}(hv:ss.mapM (jh Z)=some vs) :
  vs.length=xs.length/\∀ ω1,Rel aa we ωe U O { Z with b:=dG Z ss Z.b } a w ω1 μ->Fr (env U Z w ω μ) (env U { Z with b:=dG Z ss Z.b } w ω1 μ)->∀ (i:Nat) (v:V) (u:Value),vs[i]?=some v->(xs.map a.eval)[i]?=some u ->
   RepP aa w (wr U ω1) v u∨(∀ l,Rep aa (env U { Z with b:=dG Z ss Z.b } w ω1 μ) l v u/\zen v):=by
 obtain ⟨e1,e2⟩:=Rr ld xs ts ss h;refine ⟨by rw [mQ hv,e1],λω1 R1 F1 i v u hvi hui=>?_⟩;have hlt:i<ss.length:=by grind
 obtain ⟨v',g1,g2⟩:=pT hv i _ (Wac hlt);rw [hvi] at g1; cases g1;obtain ⟨x,ty,g3,g4⟩:=e2 i _ (Wac hlt);rw [WaU,g3] at hui;cases hui;exact zeQ R R1 F1 (List.getElem_mem hlt) g4 g2
theorem zgm(R:Rel aa we ωe U O Z a w ω μ)(hcb:rD P aa cb)(hop:o.op=.call { callee:=.value (.func f),args:=args,argTypes:=ats })(hf:aa f=some g)(hs:EJ P aa ld args.toList ats.toList=some ss)(h:ck cb nb Z o.dst ah (.call g ss xs)=some σ'):StepOk P aa we ωe U O a w o σ' nb μ:=by
 simp [ck,Waa] at h;obtain ⟨vs,hv,h⟩:=h;obtain ⟨e1,e2⟩:=zbf R hs hv;obtain ⟨hc,hcalls⟩:=X4 R hcb hf (us:=args.toList.map a.eval) (by simpa using e1) e2 h;refine .enter (us:=(args.toList.map a.eval).toArray) ?_ hcalls;have ef:a.eval (.func f)=.func (.func f) #[] #[]:=rfl;simp only [execOp,hop,resolve,ef,Deferred.ofValue,Sem.run_bind,Sem.run_pure,Waz,invoke];rw [show #[]++args.map a.eval++#[]=(args.toList.map a.eval).toArray by apply Array.ext'; simp];exact Og hc _ w
theorem zdC(R:Rel aa we ωe U O Z a w ω μ)(hcb:rD P aa cb){t:Nat}(hop:o.op=.call { callee:=.value (.tmp t),args:=args,argTypes:=ats })(hs:EJ P aa ld args.toList ats.toList=some ss)(h:ck cb nb Z o.dst ah (.aQ (.tmp t) ss xs)=some σ'):StepOk P aa we ωe U O a w o σ' nb μ:=by
 simp only [ck] at h;split at h
 ·rename_i g caps hg;simp [Waa] at h;obtain ⟨vs,hv,h⟩:=h;have hr:=R.slot t;have hg:Z.t.getD t .af=.fn g caps:=hg;rw [hg] at hr;obtain ⟨f,us,eu,hf,hcl,hcaps⟩:=hr.bn;obtain ⟨e1,e2⟩:=zbf R hs hv;have hvl:vs.length=(args.toList.map a.eval).length:=by simpa using e1
  obtain ⟨hc,hcalls⟩:=X4 R hcb hf (args:=vs++caps) (us:=args.toList.map a.eval++us) (by simp [hcl,<- hvl]) (λω1 R1 F1 i v u hi hu=>by
   by_cases hlt:i<vs.length
   ·grind
   ·rw [Wal (by omega)] at hi;rw [Wal (by omega),<- hvl] at hu;obtain ⟨id,off,L,rfl,q1,q2⟩:=hcaps _ v hi;rw [q2] at hu; cases hu;exact .inr λl=>⟨Rep.frame0 F1 (λ_=>.ptr id off L q1) (by simp) l,.inl ⟨id,off,rfl⟩⟩) h
  refine .enter (us:=(args.toList.map a.eval++us).toArray) ?_ hcalls;have ef:a.eval (.tmp t)=.func (.func f) #[] us.toArray:=eu;simp only [execOp,hop,resolve,ef,Deferred.ofValue,Sem.run_bind,Sem.run_pure,Waz,invoke];rw [show #[]++args.map a.eval++us.toArray=(args.toList.map a.eval++us).toArray by apply Array.ext'; simp];exact Og hc _ w
 ·cases h
theorem zjb(R:Rel aa we ωe U O Z a w ω μ)(hcb:rD P aa cb){take:Bool}{k:K}(hk:cK P aa o take xs=some k)(h:ck cb nb Z o.dst ah k=some σ'):StepOk P aa we ωe U O a w o σ' nb μ:=by
 by_cases hc:(∃ f xs ys,k=.call f xs ys)∨(∃ f xs ys,k=.aQ f xs ys)
 ·have hcc:∃ c,o.op=.call c:=by
   unfold cK at hk;split at hk <;> (try simp only [Wab,Waa,Waf] at hk)
   all_goals first
    | exact ⟨_,by assumption⟩
    | (exfalso
       rcases hc with ⟨f,xs,ys,rfl⟩ | ⟨f,xs,ys,rfl⟩ <;> first
      | (rcases Ec _ _ hk with ⟨_,_,_,e⟩ | ⟨_,_,e⟩ | ⟨_,_,e⟩ | ⟨_,_,e⟩ | ⟨_,_,_,_,_,e⟩ | ⟨_,_,e⟩ <;> cases e; done)
      | (obtain ⟨_,_,_,_,_,_,e⟩:=hk; unfold ze2 at e; split at e <;> cases e; done)
      | (rcases Ny _ _ hk with ⟨_,_,_,_,_,_,e⟩ | ⟨_,_,_,_,_,_,e⟩ | ⟨_,_,_,_,_,e⟩ <;> cases e; done)
      | (obtain ⟨_,_,hk⟩:=hk; cases hk; done)
      | (obtain ⟨_,_,_,_,hk⟩:=hk; cases hk; done)
      | (obtain ⟨_,_,_,_,_,_,hk⟩:=hk; cases hk; done)
      | (cases hk; done)
      | (repeat' (first | (split at hk) | (simp only [Wab,Waa,Waf] at hk) | (obtain ⟨_,_,hk⟩:=hk) | (cases hk; done))))
  obtain ⟨⟨callee,args,ats⟩,hop⟩:=hcc;unfold cK at hk;rw [hop] at hk;simp only at hk;split at hk <;> (try simp only [Wab,Waa,Waf] at hk)
  ·split at hk
   ·exfalso
    split at hk
    ·simp only [Wab,Waa,Waf] at hk;obtain ⟨s1,h1,s2,h2,rfl⟩:=hk;rcases hc with ⟨f,xs,ys,e⟩ | ⟨f,xs,ys,e⟩ <;> cases e
    ·cases hk
   ·split at hk
    ·exfalso
     split at hk
     ·simp only [Wab,Waa,Waf] at hk;obtain ⟨s0,h0,s1,h1,s2,h2,s3,h3,rfl⟩:=hk;rcases hc with ⟨f,xs,ys,e⟩ | ⟨f,xs,ys,e⟩ <;> cases e
     ·cases hk
    ·simp only [Wab,Waa,Waf] at hk;obtain ⟨g,hg,ss,hs,rfl⟩:=hk; exact zgm R hcb hop hg hs h
  ·obtain ⟨ss,hs,rfl⟩:=hk; exact zdC R hcb hop hs h
  ·exfalso
   obtain ⟨k0,hk,ek⟩:=hk;rcases ZE xs k0 with e | ⟨_,_,_,_,_,e⟩
   rotate_left
   ·rw [e] at ek; subst ek;rcases hc with ⟨f,xs,ys,e⟩ | ⟨f,xs,ys,e⟩ <;> cases e
   rw [e] at ek; subst ek;unfold HA at hk;rcases hc with ⟨f,xs,ys,rfl⟩ | ⟨f,xs,ys,rfl⟩ <;>
    (repeat' (first | (split at hk) | (simp only [Wab,Waa,Waf] at hk) | (obtain ⟨_,_,hk⟩:=hk) | (cases hk; done)))
  ·cases hk
 ·exact zhH R hk h (λf xs ys e=>hc (.inl ⟨f,xs,ys,e⟩)) (λf xs ys e=>hc (.inr ⟨f,xs,ys,e⟩))
end
section
variable {ops:List COp}{o:Oper}{σ':St}{cb:CB}{h:Hint}{c x:CC}{Q:Exit->Act->World->Prop}{l:Loc}{u:Value}{L:Nat}{m:Msk}{s:Src}
variable {aa:Rn} {we:World} {ωe:Nat->Ow} {U:Nat->Nat->Prop} {O:Nat->Prop} {Z:St} {a:Act} {w:World} {ω:Nat->Ow} {μ:Nat->Nat} {P:Program} {nb:Nat}
theorem ON(R:Rel aa we ωe U O Z a w ω μ){ops:Array Oper}{g:Option (Nat × Bool)}(hg:zad ops o.guard=some g){b:Bool}(h:iS Z g=some b):Region.wanted o (yielded ops a.tmps)=b:=by
 unfold Region.wanted;cases hog:o.guard with
 | none=>
  rw [hog] at hg; cases hg;simp [iS] at h; simp [h]
 | some jw=>
  obtain ⟨j,want⟩:=jw;rw [hog] at hg;simp [zad,Waa] at hg;obtain ⟨o',ho',d,hd,rfl⟩:=hg;have hy:yielded ops a.tmps j=match a.tmps[d]? with | some (.bool b)=>some b | _=>none:=by
   simp [yielded,ho',hd]
   grind
  simp [hy];simp [iS] at h;split at h
  ·rename_i b' hv;cases h;have hr:=R.ts d _ hv;have hlt:d<a.tmps.size:=by rw [R.tl]; exact (Wam.1 hv).1
   have e:=hr.aA.1;have:a.tmps[d]?=some (.bool b'):=by
    rw [Wbk] at e;rw [Wbp hlt] at e ⊢;simpa using e
   rw [this];cases b' <;> cases want <;> rfl
  ·rename_i hv;cases h;have hr:=R.ts d _ hv;have hlt:d<a.tmps.size:=by rw [R.tl]; exact (Wam.1 hv).1
   obtain ⟨us,e,hl,_⟩:=hr.tup_inv;have hus:us=[]:=by cases us with | nil=>rfl | cons x xs=>simp at hl
   subst hus;have:a.tmps[d]?=some (.tuple #[]):=by
    rw [Wbk] at e;rw [Wbp hlt] at e ⊢;simpa using e
   rw [this];cases want <;> rfl
  ·cases h
def Post(aa:Rn)(we:World)(ωe:Nat->Ow)(U:Nat->Nat->Prop)(O:Nat->Prop)(nb:Nat)(μ:Nat->Nat)(σ':St)(K:Act->World->Prop):Prop:=
 ∀ a' w' ω' μ',Rel aa we ωe U O σ' a' w' ω' μ'->(∀ k,k<nb->μ' k=μ k)->K a' w'
theorem Post.at{μ':Nat->Nat}{K:Act->World->Prop}(h:Post aa we ωe U O nb μ σ' K)(hm:∀ k,k<nb->μ' k=μ k):Post aa we ωe U O nb μ' σ' K:=
 λa' w' ω' μ'' R hm'=>h a' w' ω' μ'' R (λk hk=>(hm' k hk).trans (hm k hk))
theorem Yw(R:Rel aa we ωe U O Z a w ω μ)(hcb:rD P aa cb){rid i:Nat}{ops:Array Oper}{c:COp}(hc:cOp P aa h rid ops i o=some c)(hs:dz cb nb Z c=some σ'){K:Act->World->Prop}(hK:Post aa we ωe U O nb μ σ' K) :
  if Region.wanted o (yielded ops a.tmps) then o.wp P a w K Q∨(o.asks P a w/\LetsOut Q) else K (a.put o.dst undef) w:=by
 simp only [cOp,Wab,Waa,Waf] at hc;obtain ⟨g,hg,rfl⟩:=hc;cases hk:cK P aa o (h.take.contains (rid,i)) (((h.xs.find? λx=>x.1==rid&&x.2.1==i).map (·.2.2)).getD []) with
 | none=>
  rw [hk] at hs;unfold dz at hs;simp only [Option.getD_none] at hs;split at hs
  ·simp [ck,cJ] at hs
  ·rename_i hgo;rw [ON R hg hgo];cases hs;exact hK _ _ ω μ (R.put o.dst (λi _=>.ae [] [] rfl (by simp))) (λ_ _=>rfl)
  ·cases hs
 | some k=>
 rw [hk] at hs;simp only [Option.getD_some] at hs;unfold dz at hs;simp only at hs;split at hs
 ·rename_i hgo;rw [ON R hg hgo];exact .inl (zjb R hcb hk hs K Q hK)
 ·rename_i hgo;rw [ON R hg hgo];cases hs;exact hK _ _ ω μ (R.put o.dst (λi _=>.ae [] [] rfl (by simp))) (λ_ _=>rfl)
 ·cases hs
theorem Lw{cb:CB}(hcb:rD P aa cb){h:Hint}{rid:Nat}{ops:Array Oper}{Q:Exit->Act->World->Prop}{σ':St}:∀ (l:List Oper) (i:Nat) (cs:List COp),OT P aa h rid ops l i=some cs->∀ {Z:St} {a:Act} {w:World} {ω:Nat->Ow} {μ:Nat->Nat},Rel aa we ωe U O Z a w ω μ->pQ cb nb cs Z=some σ'->Post aa we ωe U O nb μ σ' (Q .normal)->wpList P ops Q l a w
 | [],i,cs,hc,Z,a,w,ω,μ,R,hs,hK=>by
  cases hc; cases hs;exact hK _ _ _ _ R (λ_ _=>rfl)
 | o::l,i,cs,hc,Z,a,w,ω,μ,R,hs,hK=>by
  simp [OT,Waa] at hc;obtain ⟨c,hc1,rest,hr,rfl⟩:=hc;simp [pQ,Waa] at hs;obtain ⟨σ1,h1,h2⟩:=hs;exact Yw (K:=wpList P ops Q l) (Q:=Q) R hcb hc1 h1 (λa' w' ω' μ' R' hm=>Lw hcb l (i+1) rest hr R' h2 (hK.at hm))
theorem Yh(dead:Nat->Bool):∀ (kt:List Bool) (ts:List V) (i:Nat),(xj dead kt ts)[i]?=(ts[i]?).map (λv=>if kt.getD i false then qS dead v else .af)
 | [],[],i=>by simp [xj]
 | [],v::ts,i=>by
  grind [xj]
 | k::kt,[],i=>by simp [xj]
 | k::kt,v::ts,i=>by
  cases i with
  | zero=>cases k <;> simp [xj]
  | succ i=>simp only [xj,Wbq,Yh dead kt ts i]; simp
theorem Ee(dead:Nat->Bool):∀ (kt:List Bool) (ts:List B) (i:Nat),(D1 dead kt ts)[i]?=(ts[i]?).map (λv=>if kt.getD i false then zd3 dead v else .gone)
 | [],[],i=>by simp [D1]
 | [],v::ts,i=>by
  grind [D1]
 | k::kt,[],i=>by simp [D1]
 | k::kt,v::ts,i=>by
  cases i with
  | zero=>cases k <;> simp [D1]
  | succ i=>simp only [D1,Wbq,Ee dead kt ts i]; simp
theorem XU(dead:Nat->Bool):∀ (kt:List Bool) (ts:List V),(xj dead kt ts).length=ts.length
 | [],[]=>rfl
 | [],v::ts=>by simp [xj]
 | k::kt,[]=>rfl
 | k::kt,v::ts=>by simp [xj,XU dead kt ts]
theorem z6(kt kb:List Bool)(Z:St)(id:Nat)(h:kb.getD id false=true):dS (mask kt kb Z).b id=dS Z.b id:=by
 unfold dS;simp only [mask,Ee,h,if_true];cases hb:Z.b[id]? with
 | none=>rfl
 | some x=>
  cases x with
  | gone=>rfl
  | live p cs=>cases p <;> simp [zd3]
  | fz cs=>rfl
  | mp es=>rfl
  | dead n=>rfl
theorem Rep.kill{kt kb:List Bool}{v:V}(h:Rep aa (env U Z w ω μ) l v u):Rep aa (env U (mask kt kb Z) w ω μ) l (qS (λid=>!(kb.getD id false)) v) u:=by
 cases h with
 | pure h=>
  cases h with
  | sc _ h=>exact .pure (.sc _ h)
  | agg cs us hl h h1=>exact .pure (.agg cs us hl h h1)
  | sl sz es A c f hc hsz k o hA hcell h1 h=>exact .pure (.sl sz es A c f hc hsz k o hA hcell h1 h)
  | bv sz es A f hsz k o hA hcell h1 h hon=>exact .pure (.bv sz es A f hsz k o hA hcell h1 h hon)
  | fn f g h=>exact .pure (.fn f g h)
 | gs sz es Y c arr T f hω hb hc hn hsz hcell h1 h=>exact .gs sz es Y c arr T f hω hb hc hn hsz hcell h1 h
 | fr sz es Y c arr T f hω hb hc hn hsz hcell h1 h=>exact .fr sz es Y c arr T f hω hb hc hn hsz hcell h1 h
 | aU sz A=>exact .aU sz A
 | ub b=>exact .ub b
 | mp id L hL=>
  simp only [qS];split
  ·exact .af
  ·rename_i hd;exact .mp (E:=env U (mask kt kb Z) w ω μ) id L ((z6 kt kb Z id (by simpa using hd)).trans hL)
 | bx p cs Y arr T f hω hb hn hcell h1 h=>exact .bx p cs Y arr T f hω hb hn hcell h1 h
 | own id off len sz c L A hL hl hc hA=>
  simp only [qS];split
  ·exact .af
  ·rename_i hd;exact .own id off len sz c L A ((z6 kt kb Z id (by simpa using hd)).trans hL) hl hc hA
 | cut id off len cap sz c L A hL hl hc hA=>
  simp only [qS];split
  ·exact .af
  ·rename_i hd;exact .cut id off len cap sz c L A ((z6 kt kb Z id (by simpa using hd)).trans hL) hl hc hA
 | ptr id off L hL=>
  simp only [qS];split
  ·exact .af
  ·rename_i hd;exact .ptr (E:=env U (mask kt kb Z) w ω μ) id off L ((z6 kt kb Z id (by simpa using hd)).trans hL)
 | fp n cs k o f hl hcell h1 h=>exact .fp n cs k o f hl hcell h1 h
 | fn f g caps us hr hl h=>
  simp only [qS];split
  ·exact .af
  ·rename_i hd;refine .fn f g caps us hr hl (λi c hc=>?_);obtain ⟨id,off,L,rfl,q1,q2⟩:=h i c hc;refine ⟨id,off,L,rfl,?_,q2⟩;simp only [Bool.not_eq_true,List.any_eq_false] at hd;have:=hd _ (WaQ hc);exact (z6 kt kb Z id (by simpa using this)).trans q1
 | ae vs us hl h=>
  cases vs with
  | nil=>exact .ae [] us hl (by simp)
  | cons x xs=>exact .af
 | st cs us hl h h1=>
  simp only [qS];split
  ·exact .af
  ·rename_i hd;refine .st cs us hl (λi c u hc hu=>?_) h1;rcases h i c u hc hu with q | q
   ·exact .inl q
   ·right;obtain ⟨id,off,len,sz,c',L,A,rfl,rfl,hL,hl',hc',hz,hA⟩:=q;simp only [Bool.not_eq_true,List.any_eq_false] at hd;have:=hd _ (WaQ hc);exact ⟨id,off,len,sz,c',L,A,rfl,rfl,(z6 kt kb Z id (by simpa using this)).trans hL,hl',hc',hz,hA⟩
 | af=>exact .af
theorem Rel.mask(R:Rel aa we ωe U O Z a w ω μ)(kt kb:List Bool):Rel aa we ωe U O (mask kt kb Z) a w ω μ:=by
 refine ⟨R.df,by simp [Go.Proofs.YtipklgbboecciaaGreat.mask,XU,R.tl],λi v hv=>?_,λid p cs hb=>?_,λid cs hb=>?_,λid es hb=>?_,R.kp,R.ow,R.ul,R.fr,R.rs,R.gv⟩
 ·simp only [Go.Proofs.YtipklgbboecciaaGreat.mask,Yh] at hv;cases hi:Z.t[i]? with
  | none=>simp [hi] at hv
  | some v'=>
   simp only [hi,Wbl,Waf] at hv;subst hv;split
   ·exact (R.ts i v' hi).kill
   ·exact .af
 ·simp only [Go.Proofs.YtipklgbboecciaaGreat.mask,Ee] at hb;cases hi:Z.b[id]? with
  | none=>simp [hi] at hb
  | some x=>
   simp only [hi,Wbl,Waf] at hb;split at hb
   ·cases x with
    | gone=>cases hb
    | fz cs'=>cases hb
    | mp es=>cases hb
    | dead n=>cases hb
    | live p' cs'=>
     refine Po λhne=>?_;have hne':cs'≠[]:=by
      rintro rfl
      cases p' <;> (cases hb; exact hne rfl)
     obtain ⟨e1,arr,T,e2,e3,e4⟩:=R.live hi hne';cases p' with
     | true=>
      cases hb;exact ⟨e1,arr,T,e2,e3,λj c hc=>by
       obtain ⟨u,g1,g2,g3,g4⟩:=e4 j c hc;exact ⟨u,g1,g2,g3,.pure (g3 rfl)⟩⟩
     | false=>
      cases hb;refine ⟨e1,arr,T,e2,by simpa using e3,λj c hc=>?_⟩;rw [WaU] at hc;cases hcj:cs'[j]? with
      | none=>simp [hcj] at hc
      | some c'=>
       simp only [hcj,Wbl,Waf] at hc;subst hc;obtain ⟨u,g1,g2,g3,g4⟩:=e4 j c' hcj;exact ⟨u,g1,g2,by simp,g4.kill⟩
   ·cases hb
 ·simp only [Go.Proofs.YtipklgbboecciaaGreat.mask,Ee] at hb;cases hi:Z.b[id]? with
  | none=>simp [hi] at hb
  | some x=>
   simp only [hi,Wbl,Waf] at hb;split at hb
   ·cases x with
    | gone=>cases hb
    | fz cs'=>cases hb; exact R.fs id cs hi
    | mp es=>cases hb
    | dead n=>cases hb
    | live p' cs'=>cases p' <;> cases hb
   ·cases hb
 ·simp only [Go.Proofs.YtipklgbboecciaaGreat.mask,Ee] at hb;cases hi:Z.b[id]? with
  | none=>simp [hi] at hb
  | some x=>
   simp only [hi,Wbl,Waf] at hb;split at hb
   ·cases x with
    | gone=>cases hb
    | fz cs'=>cases hb
    | mp es=>cases hb; exact R.ms id _ hi
    | dead n=>cases hb
    | live p' cs'=>cases p' <;> cases hb
   ·cases hb
theorem Rel.fzAll:∀ (fz:List Nat) {Z:St} {ω:Nat->Ow},Rel aa we ωe U O Z a w ω μ->∃ ω',Rel aa we ωe U O (tX nb fz Z) a w ω' μ
 | [],Z,ω,R=>⟨ω,R⟩
 | d::fz,Z,ω,R=>by
  unfold tX;split
  ·obtain ⟨ω1,R1,_⟩:=R.freeze (nb+d);exact Rel.fzAll fz R1
  ·obtain ⟨ω1,R1,_⟩:=R.freezeF (nb+(d-100000));exact Rel.fzAll fz R1
def Ex.to:Ex->Exit
 | .normal=>.normal
 | .exit id=>.exit id
 | .ret=>.ret
variable {ex:Ex}
def VN(P:Program)(aa:Rn)(cb:CB):Prop:=
 ∀ (h:Hint) (id:Nat) (ops:Array Oper) (cs:List COp),OT P aa h id ops ops.toList 0=some cs->(Pv ops&&PM (Region.before ops) (nJ (h.rt.lookup id) (Region.before ops) cs))=true ->
  ∀ (nb:Nat) (we:World) (ωe:Nat->Ow) (U:Nat->Nat->Prop) (O:Nat->Prop) (Z σ':St) (a:Act) (w:World) (ω:Nat->Ow) (μ:Nat->Nat),Rel aa we ωe U O Z a w ω μ->vr cb nb (nJ (h.rt.lookup id) (Region.before ops) cs) Z=some σ' ->
  ∀ Q:Exit->Act->World->Prop,Post aa we ωe U O nb μ σ' (Q .normal)->(Code.region id ops true).wp P Q a w
theorem zcB(hr:run cb nb L (c.msk m) Z=some (ex,σ'))(hQ:Post aa we ωe U O nb μ σ' (Q ex.to)) :
  ∃ ex0 σ0,run cb nb L c Z=some (ex0,σ0)/\Post aa we ωe U O nb μ σ0 (Q ex0.to):=by
 rcases m with _ | ⟨kt,kb⟩
 ·exact ⟨ex,σ',hr,hQ⟩
 ·simp [CC.msk,run] at hr;split at hr
  ·rename_i σ1 hx;cases hr;exact ⟨_,_,hx,λa' w' ω' μ' R hm=>hQ a' w' ω' μ' (R.mask kt _) hm⟩
  ·exact ⟨ex,σ',hr,hQ⟩
theorem zb4(R:Rel aa we ωe U O Z a w ω μ)(hr:run cb nb L (c.pre m) Z=some (ex,σ')):∃ σ1,Rel aa we ωe U O σ1 a w ω μ/\run cb nb L c σ1=some (ex,σ'):=by
 rcases m with _ | ⟨kt,kb⟩
 ·exact ⟨Z,R,hr⟩
 ·simp [CC.pre,run] at hr;exact ⟨_,R.mask kt _,hr⟩
theorem Rep.ub_inv{E:En}(h:Rep aa E l .ub u):∃ b,u=.bool b:=by
 cases h with
 | pure h=>cases h
 | ub b=>exact ⟨b,rfl⟩
theorem zbv(hc:c≠.skip):c.msk m≠.skip:=by
 rcases m with _ | ⟨kt,kb⟩
 ·exact hc
 ·simp [CC.msk]
theorem ZZ(hc:c≠.skip):c.pre m≠.skip:=by
 rcases m with _ | ⟨kt,kb⟩
 ·exact hc
 ·simp [CC.pre]
theorem DU(a b:CC):T2 a b=.seq a b∨∃ ops s x,a=.seq (.bw ops) (.cond s x .skip)/\T2 a b=.fork (.bw ops) s x b:=by
 unfold T2;split
 ·rename_i p s x hf;unfold zfV at hf
  grind
 ·exact .inl rfl
theorem zd6{c:Code}{ms ms':List Msk}(hc:iT P aa h c ms=some (.skip,ms')):c=.skip:=by
 cases c with
 | skip=>rfl
 | region id ops draw=>
  simp only [iT,Wab,Waa] at hc
  grind
 | seq x y=>
  simp only [iT,Wab,Waa,Prod.exists] at hc
  grind [DU]
 | cond c x y=>
  cases ms with
  | nil=>cases hc
  | cons m ms=>
   simp only [iT,Wab,Waa,Prod.exists,Waf,Wbm] at hc
   grind [zbv]
 | block id x=>
  cases ms with
  | nil=>cases hc
  | cons m ms=>
   simp only [iT,Wab,Waa,Prod.exists,Waf,Wbm] at hc
   grind [zbv]
 | loop x=>
  cases ms with
  | nil=>cases hc
  | cons m ms=>
   rcases m with _ | ⟨kt,kb⟩
   ·cases hc
   simp only [iT,Wab,Waa,Prod.exists,Waf,Wbm] at hc
   grind
 | exit id=>
  cases ms with
  | nil=>cases hc
  | cons m ms=>grind [iT,ZZ]
 | ret=>
  cases ms with
  | nil=>cases hc
  | cons m ms=>grind [iT,ZZ]
 | _=>cases hc
theorem zc2(hc:∀ a b,c≠.seq a b):c.msk m≠.seq (.bw ops) (.cond s x .skip):=by
 rcases m with _ | ⟨kt,kb⟩
 ·exact hc _ _
 ·simp [CC.msk]
theorem zco(hc:∀ a b,c≠.seq a b):c.pre m≠.seq (.bw ops) (.cond s x .skip):=by
 rcases m with _ | ⟨kt,kb⟩
 ·exact hc _ _
 ·simp [CC.pre]
theorem zes{c:Code}{ms ms':List Msk}(hc:iT P aa h c ms=some (.seq (.bw ops) (.cond s x .skip),ms')) :
  ∃ p c0 x0 ms1 ms2 m,c=.seq p (.cond c0 x0 .skip)/\iT P aa h p ms=some (.bw ops,ms1)/\du P aa 0 c0=some s/\iT P aa h x0 m=some (x,ms2):=by
 cases c with
 | skip=>cases hc
 | region id ops draw=>
  simp only [iT,Wab,Waa] at hc
  grind
 | seq p q=>
  simp only [iT,Wab,Waa,Prod.exists] at hc;obtain ⟨a',ms1,h1,b',ms2,h2,h3⟩:=hc;rcases DU a' b' with e | ⟨ops,s,x,e1,e⟩
  ·rw [e] at h3;cases h3;cases q with
   | cond c0 x0 y0=>
    cases ms1 with
    | nil=>cases h2
    | cons m ms1=>
     simp only [iT,Wab,Waa,Prod.exists,Waf,Wbm] at h2;obtain ⟨s,hs,a',ms3,h4,b',ms4,h5,h6,_⟩:=h2;rcases m with _ | ⟨kt,kb⟩
     ·cases h6
      grind [zd6]
     ·cases h6
   | skip=>cases h2
   | region id ops draw=>
    simp only [iT,Wab,Waa] at h2
    grind
   | seq x y=>
    simp only [iT,Wab,Waa,Prod.exists] at h2
    grind [DU]
   | block id x=>
    cases ms1 with
    | nil=>cases h2
    | cons m ms=>
     simp only [iT,Wab,Waa,Prod.exists,Waf,Wbm] at h2;obtain ⟨a',ms1,h1,h3,_⟩:=h2;rcases m with _ | ⟨kt,kb⟩ <;> cases h3
   | loop x=>
    cases ms1 with
    | nil=>cases h2
    | cons m ms=>
     rcases m with _ | ⟨kt,kb⟩
     ·cases h2
     simp only [iT,Wab,Waa,Prod.exists,Waf,Wbm] at h2
     grind
   | exit id=>
    cases ms1 with
    | nil=>cases h2
    | cons m ms=>
     simp [iT] at h2;rcases m with _ | ⟨kt,kb⟩ <;> cases h2.1
   | ret=>
    cases ms1 with
    | nil=>cases h2
    | cons m ms=>
     simp [iT] at h2;rcases m with _ | ⟨kt,kb⟩ <;> cases h2.1
   | _=>cases h2
  ·rw [e] at h3; cases h3
 | cond c x y=>
  cases ms with
  | nil=>cases hc
  | cons m ms=>
   simp only [iT,Wab,Waa,Prod.exists,Waf,Wbm] at hc
   grind [zc2]
 | block id x=>
  cases ms with
  | nil=>cases hc
  | cons m ms=>
   simp only [iT,Wab,Waa,Prod.exists,Waf,Wbm] at hc
   grind [zc2]
 | loop x=>
  cases ms with
  | nil=>cases hc
  | cons m ms=>
   rcases m with _ | ⟨kt,kb⟩
   ·cases hc
   simp only [iT,Wab,Waa,Prod.exists,Waf,Wbm] at hc
   grind
 | exit id=>
  cases ms with
  | nil=>cases hc
  | cons m ms=>grind [iT,zco]
 | ret=>
  cases ms with
  | nil=>cases hc
  | cons m ms=>grind [iT,zco]
 | _=>cases hc
theorem YI{cb:CB}:∀ (cs:List COp) {Z σ':St},vr cb nb (cs.map λc=>(c,q0)) Z=some σ'->pQ cb nb cs Z=some σ'
 | [],Z,σ',h=>h
 | c::cs,Z,σ',h=>by
  simp [vr] at h;split at h
  ·rename_i σ1 h1;split at h
   ·simp [pQ,h1];exact YI cs h
   ·cases h
  ·cases h
def zev(P:Program)(aa:Rn)(cb:CB)(nb:Nat)(h:Hint)(L:Nat)(we:World)(ωe:Nat->Ow)(U:Nat->Nat->Prop)(O:Nat->Prop)(c:Code):Prop:=∀ (ms ms':List Msk) (cc:CC),iT P aa h c ms=some (cc,ms') ->
  ∀ {Z σ':St} {a:Act} {w:World} {ω:Nat->Ow} {μ:Nat->Nat} {ex:Ex},Rel aa we ωe U O Z a w ω μ->run cb nb L cc Z=some (ex,σ')->∀ Q:Exit->Act->World->Prop,Post aa we ωe U O nb μ σ' (Q ex.to)->c.wp P Q a w
def zlp(R:Code->Prop):Code->Prop
 | .cond _ x _=>R x
 | _=>True
def zmv(R:Code->Prop):Code->Prop
 | .seq p q=>R p/\zlp R q
 | _=>True
theorem zjG(hcb:rD P aa cb)(hd:VN P aa cb):∀ (c:Code),zev P aa cb nb h L we ωe U O c/\zlp (zev P aa cb nb h L we ωe U O) c/\zmv (zev P aa cb nb h L we ωe U O) c:=by
 intro c
 induction c with
 | skip=>
  refine ⟨?_,trivial,trivial⟩;intro ms ms' cc hc Z σ' a w ω μ ex R hr Q hQ;cases hc; cases hr;exact wp_skip (hQ _ _ _ _ R (λ_ _=>rfl))
 | region id ops draw=>
  refine ⟨?_,trivial,trivial⟩;intro ms ms' cc hc Z σ' a w ω μ ex R hr Q hQ;simp only [iT,Wab,Waa] at hc;obtain ⟨cs,hcs,hc⟩:=hc;cases draw with
  | true=>
   simp only [if_true] at hc;split at hc
   ·rename_i hp;cases hc;simp only [run,Wag] at hr;obtain ⟨σ1,h1,h2⟩:=hr;cases h2;obtain ⟨ω1,R1⟩:=Rel.fzAll (nb:=nb) ((h.fz.lookup id).getD []) R;exact hd h id ops cs hcs hp nb we ωe U O _ σ' a w ω1 μ R1 h1 Q hQ
   ·cases hc
  | false=>
   simp at hc;split at hc
   ·rename_i fz hfz;cases hc;simp only [run,Wag] at hr;obtain ⟨σ1,h1,h2⟩:=hr;cases h2;obtain ⟨ω1,R1⟩:=Rel.fzAll (nb:=nb) fz R;exact wp_region_list (Lw hcb _ _ _ hcs R1 (YI cs h1) hQ)
   ·cases hc;simp only [run,Wag] at hr;obtain ⟨σ1,h1,h2⟩:=hr;cases h2;exact wp_region_list (Lw hcb _ _ _ hcs R h1 hQ)
 | seq x y ihx ihy=>
  refine ⟨?_,trivial,ihx.1,ihy.2.1⟩;intro ms ms' cc hc Z σ' a w ω μ ex R hr Q hQ;simp only [iT,Wab,Waa,Prod.exists] at hc;obtain ⟨a',ms1,h1,b',ms2,h2,h3⟩:=hc;have h3:T2 a' b'=cc:=congrArg Prod.fst (Option.some.inj h3);subst h3;refine wp_seq ?_;rcases DU a' b' with e | ⟨ops,s,z,e1,e⟩
  rotate_left
  ·subst e1;rw [e] at hr;obtain ⟨p,c0,x0,ms3,ms4,m,rfl,hp,hs,hx⟩:=zes h1;obtain ⟨ihp,ihx0⟩:=ihx.2.2;refine wp_seq ?_;simp only [run] at hr;split at hr
   ·rename_i σ1 hpr;refine ihp _ _ _ hp R (by simp only [run]; exact hpr) _ (λa1 w1 ω1 μ1 R1 hm=>?_);split at hr
    ·rename_i hub;split at hr
     ·rename_i hsame;obtain ⟨hsame,σr,hret⟩:=SE hsame;have hr0:=R1.opnd hs;rw [hub] at hr0;obtain ⟨t,hv⟩:∃ t,a1.eval c0=.bool t:=hr0.ub_inv;rw [hret] at hr;cases hr;refine wp_cond hv ?_;cases t with
      | true=>
       simp only [if_true];exact ihx0 _ _ _ hx R1 (hsame.trans hret) _ (hQ.at hm)
      | false=>
       simp only [WaR,if_false];refine wp_skip ?_;exact ihy.1 _ _ _ h2 R1 hret Q (hQ.at hm)
     ·cases hr
    ·split at hr
     ·rename_i ht;have hv:=(R1.opnd hs).bool ht;refine wp_cond hv ?_;simp only [if_true];split at hr
      ·rename_i σ2 hx2;exact ihx0 _ _ _ hx R1 hx2 _ (λa2 w2 ω2 μ2 R2 hm2=>ihy.1 _ _ _ h2 R2 hr Q ((hQ.at hm).at hm2))
      ·rename_i hne;refine ihx0 _ _ _ hx R1 hr _ ?_;cases ex with
       | normal=>exact absurd hr (hne _)
       | exit id=>exact hQ.at hm
       | ret=>exact hQ.at hm
     ·rename_i ht;have hv:=(R1.opnd hs).bool ht;refine wp_cond hv ?_;simp only [WaR,if_false];refine wp_skip ?_;exact ihy.1 _ _ _ h2 R1 hr Q (hQ.at hm)
     ·cases hr
   ·rename_i hne;refine ihp _ _ _ hp R (by simp only [run]; exact hr) _ ?_;cases ex with
    | normal=>exact absurd hr (hne _)
    | exit id=>exact hQ
    | ret=>exact hQ
  rw [e] at hr;simp only [run] at hr;split at hr
  ·rename_i σ1 hx;exact ihx.1 _ _ _ h1 R hx _ (λa1 w1 ω1 μ1 R1 hm=>ihy.1 _ _ _ h2 R1 hr Q (hQ.at hm))
  ·rename_i hne;refine ihx.1 _ _ _ h1 R hr _ ?_;cases ex with
   | normal=>exact absurd hr (hne _)
   | exit id=>exact hQ
   | ret=>exact hQ
 | cond c x y ihx ihy=>
  refine ⟨?_,ihx.1,trivial⟩;intro ms ms' cc hc Z σ' a w ω μ ex R hr Q hQ;cases ms with
  | nil=>cases hc
  | cons m ms=>
  simp only [iT,Wab,Waa,Prod.exists] at hc;obtain ⟨s,hs,a',ms1,h1,b',ms2,h2,h3⟩:=hc;cases h3;obtain ⟨ex0,σ0,hr,hQ⟩:=zcB hr hQ;simp only [run] at hr;split at hr
  ·rename_i hub;split at hr
   ·rename_i hsame;have hsame:=Sd hsame;have hr0:=R.opnd hs;rw [hub] at hr0;obtain ⟨t,hv⟩:∃ t,a.eval c=.bool t:=hr0.ub_inv;refine wp_cond hv ?_;cases t with
    | true=>simp only [if_true]; exact ihx.1 _ _ _ h1 R (hsame.trans hr) Q hQ
    | false=>simp only [WaR,if_false]; exact ihy.1 _ _ _ h2 R hr Q hQ
   ·cases hr
  rename_i hnub;split at hr
  ·rename_i t ht;have hv:=(R.opnd hs).bool ht;refine wp_cond hv ?_;cases t with
   | true=>simp only [if_true] at hr ⊢; exact ihx.1 _ _ _ h1 R hr Q hQ
   | false=>simp only [WaR,if_false] at hr ⊢; exact ihy.1 _ _ _ h2 R hr Q hQ
  ·cases hr
 | block id x ih=>
  refine ⟨?_,trivial,trivial⟩;intro ms ms' cc hc Z σ' a w ω μ ex R hr Q hQ;cases ms with
  | nil=>cases hc
  | cons m ms=>
  simp only [iT,Wab,Waa,Prod.exists] at hc;obtain ⟨a',ms1,h1,h3⟩:=hc;cases h3;obtain ⟨ex,σ',hr,hQ⟩:=zcB hr hQ;simp only [run] at hr;refine wp_block ?_;split at hr
  ·rename_i j σ1 hx;refine ih.1 _ _ _ h1 R hx _ ?_;split at hr
   ·rename_i hj;cases hr;intro a1 w1 ω1 μ1 R1 hm;simp only [Ex.to,Exit.inBlock,hj,if_true];exact hQ _ _ _ _ R1 hm
   ·rename_i hj;cases hr;intro a1 w1 ω1 μ1 R1 hm;simp only [Ex.to,Exit.inBlock,hj,if_false];exact hQ _ _ _ _ R1 hm
  ·rename_i hne;refine ih.1 _ _ _ h1 R hr _ ?_;cases ex with
   | normal=>exact hQ
   | exit id=>exact absurd hr (hne _ _)
   | ret=>exact hQ
 | loop x ih=>
  refine ⟨?_,trivial,trivial⟩;intro ms ms' cc hc Z σ' a w ω μ ex R hr Q hQ;cases ms with
  | nil=>cases hc
  | cons m ms=>
   rcases m with _ | ⟨kt,kb⟩
   ·cases hc
   simp only [iT,Wab,Waa,Prod.exists] at hc;obtain ⟨a',ms1,h1,h3⟩:=hc;cases h3;simp only [run] at hr;refine wp_loop_rounds L ?_;have key:∀ (n:Nat) {Z:St} {a:Act} {w:World} {ω:Nat->Ow} {μ:Nat->Nat},Rel aa we ωe U O Z a w ω μ->qx (run cb nb L a') (f4 nb kt kb) n Z=some (ex,σ')->Post aa we ωe U O nb μ σ' (Q ex.to)->Code.rounds P x Q n a w:=by
    intro n
    induction n with
    | zero=>intro Z a w ω μ R hr; cases hr
    | succ n ihn=>
     intro Z a w ω μ R hr hQ;rw [rounds_succ];simp [qx] at hr;split at hr
     ·rename_i σ1 hx;exact ih.1 _ _ _ h1 (R.mask kt _) hx _ (λa1 w1 ω1 μ1 R1 hm=>ihn R1 hr (hQ.at hm))
     ·rename_i hne;refine ih.1 _ _ _ h1 (R.mask kt _) hr _ ?_;cases ex with
      | normal=>exact absurd hr (hne _)
      | exit id=>exact hQ
      | ret=>exact hQ
   exact key L R hr hQ
 | exit id=>
  refine ⟨?_,trivial,trivial⟩;intro ms ms' cc hc Z σ' a w ω μ ex R hr Q hQ;cases ms with
  | nil=>cases hc
  | cons m ms=>
   cases hc;obtain ⟨σ1,R1,hr⟩:=zb4 R hr;cases hr;exact wp_exit (hQ _ _ _ _ R1 (λ_ _=>rfl))
 | ret=>
  refine ⟨?_,trivial,trivial⟩;intro ms ms' cc hc Z σ' a w ω μ ex R hr Q hQ;cases ms with
  | nil=>cases hc
  | cons m ms=>
   cases hc;obtain ⟨σ1,R1,hr⟩:=zb4 R hr;cases hr;exact wp_ret (hQ _ _ _ _ R1 (λ_ _=>rfl))
 | rangeFunc=>exact ⟨(by intro ms ms' cc hc; cases hc),trivial,trivial⟩
 | scope=>exact ⟨(by intro ms ms' cc hc; cases hc),trivial,trivial⟩
 | label=>exact ⟨(by intro ms ms' cc hc; cases hc),trivial,trivial⟩
 | goto=>exact ⟨(by intro ms ms' cc hc; cases hc),trivial,trivial⟩
 | refuse=>exact ⟨(by intro ms ms' cc hc; cases hc),trivial,trivial⟩
theorem zkx(hcb:rD P aa cb)(hd:VN P aa cb):∀ (c:Code) (ms ms':List Msk) (cc:CC),iT P aa h c ms=some (cc,ms') ->
  ∀ {Z σ':St} {a:Act} {w:World} {ω:Nat->Ow} {μ:Nat->Nat} {ex:Ex},Rel aa we ωe U O Z a w ω μ->run cb nb L cc Z=some (ex,σ')->∀ Q:Exit->Act->World->Prop,Post aa we ωe U O nb μ σ' (Q ex.to)->c.wp P Q a w:=
 λc=>(zjG hcb hd c).1
end
section
variable {v:V}{l:Loc}{id:Nat}{ω':Nat->Ow}
variable {aa:Rn} {we:World} {ωe:Nat->Ow} {U:Nat->Nat->Prop} {O:Nat->Prop} {Z:St} {a:Act} {w:World} {ω:Nat->Ow} {μ:Nat->Nat} {P:Program} {nb:Nat}
theorem zfW{args:List V}{bor:Bor}{us:List Value}(nt:Nat)(R:Rel aa we ωe U O ⟨args,bor.map toB⟩ ⟨us.toArray,[]⟩ w ω μ):Rel aa we ωe U O (enter nt args bor) ⟨us.toArray++Wbn (nt-us.length) undef,[]⟩ w ω μ:=by
 have hlen:us.length=args.length:=by have:=R.tl; simpa using this
 have hb:∀ (id:Nat) (x:B),(enter nt args bor).b[id]?=some x->x=.gone∨(bor.map toB)[id]?=some x:=by
  intro id x hx;have hx:(bor++Wad nt B.gone)[id]?=some x:=hx;rw [<- zcy bor] at hx
  grind
 have hbl:dS (enter nt args bor).b=dS (bor.map toB):=by
  funext id;unfold dS;have e:(enter nt args bor).b=bor.map toB++Wad nt B.gone:=by rw [zcy]; rfl
  grind
 have he:env U (enter nt args bor) w ω μ=env U ⟨args,bor.map toB⟩ w ω μ:=by simp [env,hbl]
 refine ⟨rfl,by simp [enter,hlen],λi v hv=>?_,λid p cs h=>?_,λid cs h=>?_,λid es h=>?_,R.kp,R.ow,R.ul,R.fr,R.rs,R.gv⟩
 ·rw [he];have hv:(args++Wad (nt-args.length) (V.ae []))[i]?=some v:=hv;by_cases h:i<args.length
  ·rw [Wan h] at hv;have:=R.ts i v hv;have e:(us.toArray++Wbn (nt-us.length) undef).getD i undef=us.toArray.getD i undef:=by
    rw [Wbk,Wbk,Array.getElem?_append_left (by simp; omega)]
   show Rep aa _ _ _ ((us.toArray++Wbn (nt-us.length) undef).getD i undef);rw [e]; exact this
  ·rw [Wal (by omega),List.getElem?_replicate] at hv;split at hv
   ·cases hv;have e:(us.toArray++Wbn (nt-us.length) undef).getD i undef=undef:=by
     rw [Wbk,Array.getElem?_append_right (by simp; omega),Array.getElem?_replicate];split <;> rfl
    show Rep aa _ _ _ ((us.toArray++Wbn (nt-us.length) undef).getD i undef);rw [e];exact .ae [] [] rfl (by simp)
   ·cases hv
 ·rw [he];rcases hb id _ h with h | h
  ·cases h
  ·exact R.bs id p cs h
 ·rcases hb id _ h with h | h
  ·cases h
  ·exact R.fs id cs h
 ·rcases hb id _ h with h | h
  ·cases h
  ·exact R.ms id es h
def ir(tmps:Array Value):ResultVar->Sem Value
 | .tmp t=>pure (tmps.getD t undef)
 | .cell a t=>do loadVar t (<- asAddr (tmps.getD a undef))
def A4(nb:Nat)(b:List B)(g:Nat->Nat)(rp:Bool)(v:V)(l:Loc)(id:Nat):Option Ow:=match v with
 | .own id' _ len sz=>if id=id'/\nb<=id then some (.gs l (if rp then len*sz else 0)) else none
 | .ptr id' _=>if id=id' then some (.gs l 0) else none
 | .st cs=>if id∈cs.filterMap gS/\nb<=id then some (if rp then .no else .ax (g id)) else none
 | .mp id'=>if id=id' then some (.ax (g id)) else none
 | .fn f caps=>if id∈m8 b (.fn f caps) then some (.ax (g id)) else none
 | _=>none
def RV.rp:RV->Bool
 | .aH _=>true
 | _=>false
def tgt(nb:Nat)(g:Nat->Nat)(Z:St)(loc:Nat->Loc):List RV->Nat->Ow->Ow
 | [],_,x=>x
 | r::rest,j,x=>match r.slot with
  | none=>tgt nb g Z loc rest (j+1) x
  | some t=>match x with
   | .gs (.slot t' 0) h=>if t'=t then .gs (loc j) h else tgt nb g Z loc rest (j+1) x
   | .ax id=>match A4 nb Z.b g r.rp (Z.t.getD t .af) (loc j) id with
    | some y=>y
    | none=>tgt nb g Z loc rest (j+1) x
   | _=>tgt nb g Z loc rest (j+1) x
theorem X3{b:List B}{g:Nat->Nat}{rp:Bool}(h:id ∉ jM nb b v):A4 nb b g rp v l id=none:=by
 unfold A4
 grind [jM]
variable {g:Nat->Nat}
theorem zbr(Z:St)(loc:Nat->Loc):∀ (rs:List RV) (j:Nat),tgt nb g Z loc rs j .no=.no
 | [],_=>rfl
 | r::rest,j=>by
  simp [tgt];split <;> exact zbr Z loc rest (j+1)
theorem Sf(Z:St)(loc:Nat->Loc)(id i h:Nat):∀ (rs:List RV) (j:Nat),tgt nb g Z loc rs j (.gs (.cell id i) h)=.gs (.cell id i) h
 | [],_=>rfl
 | r::rest,j=>by
  simp [tgt];split <;> exact Sf Z loc id i h rest (j+1)
theorem U7(Z:St)(loc:Nat->Loc)(o:Nat):∀ (rs:List RV) (j:Nat) (x:Ow),owr (tgt nb g Z loc rs j x) o->owr x o
 | [],_,x,h=>h
 | r::rest,j,x,h=>by
  cases x with
  | no=>rw [zbr] at h; exact h
  | ax id=>simp [owr]
  | gs l hh=>
   cases l with
   | cell id i=>rw [Sf] at h; exact h
   | slot t' k=>
    simp only [tgt] at h;split at h
    ·exact U7 Z loc o rest (j+1) _ h
    ·cases k with
     | zero=>
      simp only at h;split at h
      ·exact h
      ·exact U7 Z loc o rest (j+1) _ h
     | succ k=>exact U7 Z loc o rest (j+1) _ h
theorem zcs(Z:St)(loc:Nat->Loc)(id:Nat):∀ (rs:List RV) (j:Nat),id ∉ q7 nb Z rs->tgt nb g Z loc rs j (.ax id)=.ax id
 | [],_,h=>rfl
 | r::rest,j,h=>by
  simp only [q7,List.mem_append,not_or] at h;have ih:=zcs Z loc id rest (j+1) h.2
  grind [tgt,X3]
theorem za9(Z:St)(loc:Nat->Loc)(t h:Nat):∀ (rs:List RV) (j i:Nat) (r:RV),uC rs=true->rs[i]?=some r->r.slot=some t->tgt nb g Z loc rs j (.gs (.slot t 0) h)=.gs (loc (j+i)) h
 | [],_,i,_,_,hi,_=>by simp at hi
 | r'::rest,j,i,r,hd,hi,hr=>by
  simp [uC] at hd;cases i with
  | zero=>grind [tgt]
  | succ i=>
   have hi:rest[i]?=some r:=by simpa using hi
   have ih:=za9 Z loc t h rest (j+1) i r hd.2 hi hr
   grind [tgt]
theorem Vr(Z:St)(t id:Nat)(hv:id∈jM nb Z.b (Z.t.getD t .af)):∀ (rs:List RV) (i:Nat) (r:RV),rs[i]?=some r->r.slot=some t->id∈q7 nb Z rs
 | [],i,r,hi,_=>by simp at hi
 | r'::rest,i,r,hi,hr=>by
  simp only [q7,List.mem_append];cases i with
  | zero=>grind
  | succ i=>exact .inr (Vr Z t id hv rest i r (by simpa using hi) hr)
theorem MO:∀ (xs ys:List Nat),oJ (xs++ys)=true->oJ ys=true/\∀ x∈xs,x ∉ ys
 | [],ys,h=>⟨h,by simp⟩
 | x::xs,ys,h=>by
  simp [oJ] at h;obtain ⟨q1,q2⟩:=MO xs ys h.2
  grind
theorem NJ:∀ {xs:List Nat},oJ xs=true->xs.Nodup
 | [],_=>by simp
 | x::xs,h=>by
  simp [oJ] at h;rw [Wbr];exact ⟨h.1,NJ h.2⟩
theorem WG(Z:St)(loc:Nat->Loc)(t id:Nat)(hv:id∈jM nb Z.b (Z.t.getD t .af)):∀ (rs:List RV) (j i:Nat) (r:RV),oJ (q7 nb Z rs)=true->rs[i]?=some r->r.slot=some t->∀ y,A4 nb Z.b g r.rp (Z.t.getD t .af) (loc (j+i)) id=some y->tgt nb g Z loc rs j (.ax id)=y
 | [],_,i,_,_,hi,_,_,_=>by simp at hi
 | r'::rest,j,i,r,hd,hi,hr,y,hy=>by
  simp only [q7] at hd;obtain ⟨hd1,hd2⟩:=MO _ _ hd;cases i with
  | zero=>
   grind [tgt]
  | succ i=>
   have hi:rest[i]?=some r:=by simpa using hi
   have hm:=Vr Z t id hv rest i r hi hr;have ih:=WG Z loc t id hv rest (j+1) i r hd1 hi hr y (by grind)
   grind [tgt,X3]
theorem JA{t:TypeId}{b:Bool}{n:Nat}(h1:iC P t=some b)(h2:eJ P t=some n){k q:Nat}(us:List Value)(hb1:b=true->us.length=n)(hb2:b=false->us.length=1)(hc:∀ (j:Nat) (u:Value),us[j]?=some u->w.cell? ⟨k,q+j,none⟩=some u) :
  (loadVar t ⟨k,q,none⟩).run P w=.ok (if b then .agg us.toArray else us.getD 0 undef) w:=by
 have hl:=run_loadCells_list (P:=P) w ⟨k,q,none⟩ us (λj u hu=>by rw [mB]; exact hc j u hu);simp only [Sem.run_bind,Waz,loadVar,Pa h1];cases b with
 | true=>
  rw [hb1 rfl] at hl;simp [hH h2,hl]
 | false=>
  cases us with
  | nil=>simp at hb2
  | cons u us=>
   have:=hc 0 u rfl
   simp_all
theorem Tn(R:Rel aa we ωe U O Z a w ω μ){cs vs:List V}{arr:Array Value}(hc:∀ (j:Nat) (c:V),cs[j]?=some c->∃ u,arr[j]?=some u/\u.oneCell'=true/\Rep aa (env U Z w ω μ) (.cell id j) c u)(h:cs.mapM V.plain=some vs):vs.length=cs.length/\∀ (j:Nat) (c:V),vs[j]?=some c->∃ u,arr[j]?=some u/\u.oneCell'=true/\RepP aa w (wr U ω) c u:=by
 refine ⟨mQ h,λj c hj=>?_⟩;have hlt:j<cs.length:=by grind [mQ]
 obtain ⟨v',g1,g2⟩:=pT h j _ (Wac hlt);rw [hj] at g1; cases g1;obtain ⟨u,q1,q2,q3⟩:=hc j _ (Wac hlt);exact ⟨u,q1,q2,q3.plain R.hU g2⟩
theorem Rel.blockP(R:Rel aa we ωe U O Z a w ω μ){p:Bool}{cs vs:List V}(hb:Z.b[id]?=some (.live p cs))(hne:cs≠[])(h:(if p then some cs else cs.mapM V.plain)=some vs) :
  ω (μ id)=.ax id/\vs.length=cs.length/\∃ arr T,w.heap[μ id]?=some (.cells arr T (0,0))/\cs.length<=arr.size/\∀ (j:Nat) (c:V),vs[j]?=some c->∃ u,arr[j]?=some u/\u.oneCell'=true/\RepP aa w (wr U ω) c u:=by
 obtain ⟨e1,arr,T,e2,e3,e4⟩:=R.live hb hne;cases p with
 | true=>
  grind
 | false=>
  obtain ⟨q1,q2⟩:=Tn R (id:=id) (λj c hj=>by obtain ⟨u,g1,g2,g3,g4⟩:=e4 j c hj; exact ⟨u,g1,g2,g4⟩) h
  grind
theorem zgr(R:Rel aa we ωe U O Z a w ω μ)(hwr:∀ k o,wr U ω' k o->wr U ω k o){c:V}{u:Value}(hc:RepP aa w (wr U ω) c u∨OwnAt (env U Z w ω μ) c u)(h1:u.oneCell'=true)(hno:∀ id,gS c=some id->nb<=id->∀ Y,ω Y=.ax id->ω' Y=.no)(hv:Vv nb Z.b c=some v):RepP aa w (wr U ω') v u:=by
 have mono:∀ {v:V} {u:Value},RepP aa w (wr U ω) v u->RepP aa w (wr U ω') v u:=λh=>h.mono (λk o u h1 h2=>⟨λhh=>h1 (hwr k o hh),h2⟩);by_cases hown:∃ id off len sz,c=.own id off len sz
 ·obtain ⟨id,off,len,sz,rfl⟩:=hown;rcases hc with hc | hc
  ·cases hc
  ·obtain ⟨id',off',a7,sz',c',L,A,e,rfl,hL,hl,hcl,hz,hA⟩:=hc;cases e;simp only [Vv] at hv;split at hv
   ·rename_i hge;split at hv
    ·rename_i cs hb;cases hv;have hL':dS Z.b id=some L:=hL;have:L=cs.length:=by simp [dS,hb] at hL'; exact hL'.symm
     subst this;by_cases hne:cs=[]
     ·subst hne;have hnil:∀ (i:Nat) (v:V),¬ (bY sz len (([]:List V).drop off)).flatten[i]?=some v:=by
       intro i v hv;rw [ig,Wai] at hv;split at hv
       ·simp at hv
       ·cases hv
      have key:=RepP.sl (aa:=aa) (w:=w) (Wr:=wr U ω') sz (bY sz len (([]:List V).drop off)) A c' (λ_=>undef) (by rw [eo]; exact hcl) (jF _ _ _ (by simp at hl ⊢; omega)) (μ id) off
       (λhne=>by
        rcases hA with ⟨h1,_⟩ | ⟨h1,_⟩
        ·exact h1
        ·subst h1; simp [bY] at hne)
       (λi v hv=>absurd hv (hnil i v)) (λi v hv=>absurd hv (hnil i v)) (λi v hv=>absurd hv (hnil i v))
      rw [eo] at key;exact key
     ·obtain ⟨e0,arr,T,e1,e2,e3⟩:=R.live hb hne;have hω':=hno id rfl hge _ e0;have hnw:∀ o,¬ wr U ω' (μ id) o:=by
       intro o ho;rw [HL,hω'] at ho;rcases ho with ho | ho
       ·exact R.noU (by rw [e0]; simp) o ho
       ·exact ho
      have seg:∀ (i:Nat) (v:V),(bY sz len (cs.drop off)).flatten[i]?=some v->∃ u,arr.toList.getD (off+i) undef=u/\arr[off+i]?=some u/\u.oneCell'=true/\RepP aa w (wr U ω') v u:=by
       intro i v hv;rw [ig,Wai] at hv;split at hv
       ·rw [Waj] at hv;obtain ⟨u,g1,g2,g3,_⟩:=e3 _ _ hv;have g1':arr.toList[off+i]?=some u:=by simpa using g1
        exact ⟨u,by rw [Wak,g1']; rfl,g1,g2,mono (g3 rfl)⟩
       ·cases hv
      have key:=RepP.sl (aa:=aa) (w:=w) (Wr:=wr U ω') sz (bY sz len (cs.drop off)) A c' (λi=>arr.toList.getD (off+i) undef) (by rw [eo]; exact hcl) (jF _ _ _ (by simp; omega)) (μ id) off
       (λhne=>by
        rcases hA with ⟨h1,_⟩ | ⟨h1,_⟩
        ·exact h1
        ·subst h1; simp [bY] at hne)
       (λi v hv=>by obtain ⟨u,e,g1,g2,g3⟩:=seg i v hv; exact ⟨hnw _,by rw [cell_of_row _ _ _ _ _ _ e1,e]; exact g1⟩)
       (λi v hv=>by obtain ⟨u,e,g1,g2,g3⟩:=seg i v hv; rw [e]; exact g2) (λi v hv=>by obtain ⟨u,e,g1,g2,g3⟩:=seg i v hv; rw [e]; exact g3)
      rw [eo] at key;exact key
    ·rename_i cs hb;cases hv;have hL':dS Z.b id=some L:=hL;have:L=cs.length:=by simp [dS,hb] at hL'; exact hL'.symm
     subst this;obtain ⟨q0,arr,T,fr,q1,q2,q3⟩:=R.fs id cs hb;have seg:∀ (i:Nat) (v:V),(bY sz len (cs.drop off)).flatten[i]?=some v->∃ u,arr.toList.getD (off+i) undef=u/\arr[off+i]?=some u/\u.oneCell'=true/\RepP aa w (wr U ω') v u:=by
      intro i v hv;rw [ig,Wai] at hv;split at hv
      ·rw [Waj] at hv;obtain ⟨u,g1,g2,g3⟩:=q3 _ _ hv;have g1':arr.toList[off+i]?=some u:=by simpa using g1
       exact ⟨u,by rw [Wak,g1']; rfl,g1,g2,mono g3⟩
      ·cases hv
     have key:=RepP.sl (aa:=aa) (w:=w) (Wr:=wr U ω') sz (bY sz len (cs.drop off)) A c' (λi=>arr.toList.getD (off+i) undef) (by rw [eo]; exact hcl) (jF _ _ _ (by simp; omega)) (μ id) off
      (λhne=>by
       rcases hA with ⟨h1,_⟩ | ⟨h1,_⟩
       ·exact h1
       ·subst h1; simp [bY] at hne)
      (λi v hv=>by obtain ⟨u,e,g1,g2,g3⟩:=seg i v hv; exact ⟨λhh=>q0 _ (hwr _ _ hh),by rw [cell_of_row _ _ _ _ _ _ q1,e]; exact g1⟩)
      (λi v hv=>by obtain ⟨u,e,g1,g2,g3⟩:=seg i v hv; rw [e]; exact g2) (λi v hv=>by obtain ⟨u,e,g1,g2,g3⟩:=seg i v hv; rw [e]; exact g3)
     rw [eo] at key;exact key
    ·cases hv
   ·cases hv
 ·have hs:Vv nb Z.b c=c.plain:=by
   cases c <;> first | rfl | exact absurd ⟨_,_,_,_,rfl⟩ hown
  rw [hs] at hv;rcases hc with hc | hc
  ·exact mono ((Rep.pure (E:=env U Z w ω μ) (l:=.slot 0 0) hc).plain R.hU hv)
  ·obtain ⟨id,off,len,sz,_,_,_,e,_⟩:=hc;exact absurd ⟨id,off,len,sz,e⟩ hown
theorem zgK(R:Rel aa we ωe U O Z a w ω μ){x:ResultVar}{rv:RV}{rp0:Bool}(hx:lL P rp0 [x]=some [rv])(hv:gH nb Z rv=some v){σ2:St}{μ2:Nat->Nat}(hwr:∀ k o,wr U ω' k o->wr U ω k o)
  (hslot:∀ t,rv.slot=some t->∀ Y h,ω Y=.gs (.slot t 0) h->ω' Y=.gs l h) (hgone:∀ t id,rv.slot=some t->id∈jM nb Z.b (Z.t.getD t .af)->∀ y,A4 nb Z.b g rv.rp (Z.t.getD t .af) l id=some y->∀ Y,ω Y=.ax id->ω' Y=y)
  (hidx:∀ id∈eg v,∀ L,dS Z.b id=some L->dS σ2.b (g id)=some L/\μ2 (g id)=μ id) :
  ∃ u,(ir a.tmps x).run P w=.ok u w/\Rep aa (env U σ2 w ω' μ2) l (lr g v) u:=by
 have mono:∀ {v:V} {u:Value},RepP aa w (wr U ω) v u->RepP aa w (wr U ω') v u:=λh=>h.mono (λk o u h1 h2=>⟨λhh=>h1 (hwr k o hh),h2⟩);have pl:∀ {v:V} {u:Value},RepP aa w (wr U ω) v u->Rep aa (env U σ2 w ω' μ2) l (lr g v) u:=λh=>by rw [h.renV_same]; exact .pure (mono h)
 cases x with
 | tmp t=>
  have hrv:rv=.tmp t∨rv=.aH t:=by
   grind [lL]
  have hslot':rv.slot=some t:=by rcases hrv with rfl | rfl <;> rfl
  refine ⟨a.tmps.getD t undef,rfl,?_⟩;have hr:=R.slot t;have gsCase:∀ sz es,Z.t.getD t .af=.gs sz es->v=.gs sz es->Rep aa (env U σ2 w ω' μ2) l (lr g v) (a.tmps.getD t undef):=by
   intro sz es hs hv;subst hv;rw [hs] at hr;generalize a.tmps.getD t undef=u at hr ⊢;cases hr with
   | pure h=>exact pl h
   | gs _ _ Y c arr T f hω hb hc hn hsz hcell h1 h=>exact .gs _ _ Y c arr T f (hslot t hslot' Y _ hω) hb hc hn hsz hcell h1 (λi v hv=>mono (h i v hv))
  rcases hrv with rfl | rfl
  ·simp only [gH] at hv;split at hv
   ·rename_i id off len sz hs;rw [hs] at hr;split at hv
    ·rename_i hge;split at hv
     ·rename_i h0;obtain ⟨h0,hpos⟩:=h0;split at hv
      ·rename_i cs hb;split at hv
       ·rename_i hcond;obtain ⟨c,L,A,e1,e2,e3,e4,e5⟩:=hr.own_inv;rw [e1];have hL:L=cs.length:=by
         have e2:dS Z.b id=some L:=e2
         grind [dS]
        subst hL;subst h0;cases hv;have triv:len=0->c=0->Rep aa (env U σ2 w ω' μ2) l (lr g (.fr sz (bY sz len cs))) (.slice A len c):=by
         rintro rfl rfl
         exact .aU _ _
        by_cases hne:cs=[]
        ·subst hne;have hl0:len=0:=by
          grind
         refine triv hl0 ?_;rcases e4.2 rfl with q | q
         ·omega
         ·exact q
        obtain ⟨q1,arr,T,q2,q3,q4⟩:=R.live hb hne;rcases e5 with ⟨e5,e6⟩ | ⟨e5,e6⟩
        ·rw [e5];have hfl:∀ (i:Nat) (v:V),(bY sz len cs).flatten[i]?=some v->cs[i]?=some v:=λi v hv=>by
          grind [ig]
         have e6:0+c*sz<=eR w (μ id):=e6;rw [jX q2] at e6;have hω':ω' (μ id)=.gs l 0:=hgone t id rfl (by rw [hs]; simp [jM,hge]) (.gs l 0) (by grind [RV.rp,A4]) _ q1;have key:Rep aa (env U σ2 w ω' μ2) l (.fr sz (bY sz len cs)) (.slice (some ⟨μ id,0,none⟩) (bY sz len cs).length c):=by
          refine .fr sz (bY sz len cs) (μ id) c arr T (λi=>arr.toList.getD i undef) hω' q2 (by omega) ⟨by grind [eo],λhnil=>?_⟩ (jF _ _ _ (by omega)) (λi v hv=>?_) (λi v hv=>?_) (λi v hv=>?_)
          ·have hl0:len=0:=by grind [eo]
           rcases hcond with q | q
           ·exact absurd hl0 q
           ·exact absurd (List.length_eq_zero_iff.1 q) hne
          all_goals
           (obtain ⟨u,g1,g2,g3,_⟩:=q4 i v (hfl i v hv)
            have g1':arr.toList[i]?=some u:=by simpa using g1
            have e:arr.toList.getD i undef=u:=by grind
            simp only [e])
          ·exact g1
          ·exact g2
          ·exact mono (g3 rfl)
         rw [eo] at key;exact key
        ·exact triv e5 e6
       ·cases hv
      ·cases hv
     ·cases hv
    ·cases hv;exact (hr.bt.move (E':=env U σ2 w ω' μ2) g (λid' e L hL=>by cases e; exact hidx id (by simp [eg]) L hL) (λk=>Wah _)).rep _
   ·rename_i id off hs;rw [hs] at hr;split at hv
    ·rename_i h0;split at hv
     ·rename_i p cs hb;split at hv
      ·rename_i hcl;have hne:cs≠[]:=λe=>hcl (by rw [e]; rfl);obtain ⟨vs,hvs,rfl⟩:∃ vs,(if p then some cs else cs.mapM V.plain)=some vs/\v=.bx p vs:=by
        cases p with
        | true=>grind
        | false=>
          simp at hv
          grind
       obtain ⟨L,e1,e2⟩:=hr.ar;rw [e2];obtain ⟨q1,q0,arr,T,q2,q3,q4⟩:=R.blockP hb hne hvs;rw [h0.1];have hω':ω' (μ id)=.gs l 0:=hgone t id rfl (by rw [hs]; simp [jM]) (.gs l 0) (by rw [hs]; simp [A4]) _ q1;refine .bx p vs (μ id) arr T (λi=>arr.toList.getD i undef) hω' q2 (by omega) (λi v hv=>?_) (λi v hv=>?_) (λi v hv=>?_) <;>
        (obtain ⟨u,g1,g2,g3⟩:=q4 i v hv
         have g1':arr.toList[i]?=some u:=by simpa using g1
         have e:arr.toList.getD i undef=u:=by grind
         simp only [e])
       ·exact g1
       ·exact g2
       ·exact mono g3
      ·cases hv
     ·cases hv
    ·cases hv
   ·rename_i id off len cap sz hs;rw [hs] at hr;split at hv
    ·cases hv
    ·cases hv;obtain ⟨c,L,A,e1,e2,e3,⟨e4,e4',e4''⟩,e5⟩:=hr.cut_inv;have hle:len*sz<=cap*sz:=Nat.mul_le_mul_right sz e4;have ho:OwnAt (env U Z w ω μ) (.own id off len sz) (a.tmps.getD t undef):=
      ⟨id,off,len,sz,c,L,A,rfl,e1,e2,by omega,by omega,e4'',by grind⟩
     exact (ho.move (E':=env U σ2 w ω' μ2) g (λid' e L hL=>by cases e; exact hidx id (by simp [eg]) L hL) (λk=>Wah _)).rep _
   ·rename_i hs; cases hv; rw [hs] at hr;cases hr with
    | pure h=>exact pl h
   ·rename_i hs; cases hv; rw [hs] at hr;cases hr with
    | pure h=>exact pl h
   ·rename_i hs; cases hv; rw [hs] at hr;cases hr with
    | pure h=>exact pl h
   ·rename_i hs; cases hv; exact gsCase _ _ hs rfl
   ·rename_i cs hs; cases hv; rw [hs] at hr;exact hr.bD (E':=env U σ2 w ω' μ2) (λk o u h1 h2=>⟨λhh=>h1 (hwr k o hh),h2⟩) g hidx (λk=>Wah _)
   ·rename_i id hs;split at hv
    ·cases hv;rw [hs] at hr;exact hr.move (E':=env U σ2 w ω' μ2) (l':=l) (λk o u h1 h2=>⟨λhh=>h1 (hwr k o hh),h2⟩) g hidx (λY h hβ=>⟨hslot t hslot' Y h hβ,rfl⟩) (λk=>Wah _) (λ_ _ e=>by cases e)
    ·cases hv
   ·rename_i f caps hs;split at hv
    ·cases hv;rw [hs] at hr;exact hr.move (E':=env U σ2 w ω' μ2) (l':=l) (λk o u h1 h2=>⟨λhh=>h1 (hwr k o hh),h2⟩) g hidx (λY h hβ=>⟨hslot t hslot' Y h hβ,rfl⟩) (λk=>Wah _) (λ_ _ e=>by cases e)
    ·cases hv
   ·cases hv
  ·simp only [gH] at hv;split at hv
   ·rename_i id off len sz hs;rw [hs] at hr;split at hv
    ·rename_i h0;obtain ⟨hge,h0,hpos⟩:=h0;split at hv
     ·rename_i cs hb;obtain ⟨c,L,A,e1,e2,e3,e4,e5⟩:=hr.own_inv;rw [e1];have hL:L=cs.length:=by
       have e2:dS Z.b id=some L:=e2
       grind [dS]
      subst hL;subst h0;cases hv;have triv:len=0->c=0->Rep aa (env U σ2 w ω' μ2) l (lr g (.gs sz (bY sz len cs))) (.slice A len c):=by
       rintro rfl rfl
       exact .pure (.nil _ _)
      by_cases hne:cs=[]
      ·subst hne;have hl0:len=0:=by
        grind
       refine triv hl0 ?_;rcases e4.2 rfl with q | q
       ·omega
       ·exact q
      obtain ⟨q1,arr,T,q2,q3,q4⟩:=R.live hb hne;rcases e5 with ⟨e5,e6⟩ | ⟨e5,e6⟩
      ·rw [e5];have hfl:∀ (i:Nat) (v:V),(bY sz len cs).flatten[i]?=some v->cs[i]?=some v:=λi v hv=>by
        grind [ig]
       have e6:0+c*sz<=eR w (μ id):=e6;rw [jX q2] at e6;have hω':ω' (μ id)=.gs l (len*sz):=hgone t id rfl (by rw [hs]; simp [jM,hge]) (.gs l (len*sz)) (by grind [RV.rp,A4]) _ q1;have key:Rep aa (env U σ2 w ω' μ2) l (.gs sz (bY sz len cs)) (.slice (some ⟨μ id,0,none⟩) (bY sz len cs).length c):=by
        refine .gs sz (bY sz len cs) (μ id) c arr T (λi=>arr.toList.getD i undef) (by rw [eo]; exact hω') q2 (by omega) (by grind [eo]) (jF _ _ _ (by omega)) (λi v hv=>?_) (λi v hv=>?_) (λi v hv=>?_)
        all_goals
         (obtain ⟨u,g1,g2,g3,_⟩:=q4 i v (hfl i v hv)
          have g1':arr.toList[i]?=some u:=by simpa using g1
          have e:arr.toList.getD i undef=u:=by rw [Wak,g1']; rfl
          simp only [e])
        ·exact g1
        ·exact g2
        ·exact mono (g3 rfl)
       rw [eo] at key;exact key
      ·exact triv e5 e6
     ·cases hv
    ·cases hv
   ·rename_i cs hs;rw [hs] at hr;obtain ⟨us,eu,hl,hc,h1⟩:=hr.st_inv;rw [eu];rw [Wag] at hv;obtain ⟨vs,hvs,rfl⟩:=hv;have hvl:vs.length=cs.length:=mQ hvs;refine .pure (.agg vs us (by omega) (λi v u hvi hui=>?_) h1);have hlt:i<cs.length:=by grind
    obtain ⟨v',g1,g2⟩:=pT hvs i _ (Wac hlt);rw [hvi] at g1; cases g1;refine zgr R hwr (hc i _ u (Wac hlt) hui) (h1 u (WaQ hui)) (λid hid hge Y hβ=>?_) g2;have hmem:id∈cs.filterMap gS:=List.mem_filterMap.2 ⟨_,List.getElem_mem hlt,hid⟩;exact hgone t id rfl (by grind [jM]) .no (by grind [RV.rp,A4]) Y hβ
   ·rename_i hs; cases hv; rw [hs] at hr;cases hr with
    | pure h=>exact pl h
   ·rename_i hs; cases hv; rw [hs] at hr;cases hr with
    | pure h=>exact pl h
   ·rename_i hs; cases hv; rw [hs] at hr;cases hr with
    | pure h=>exact pl h
   ·rename_i hs; cases hv; exact gsCase _ _ hs rfl
   ·cases hv
 | cell t ty=>
  simp only [lL,Wab,Waa,Waf] at hx;obtain ⟨agg,ha,n,hn,_,rfl,hx⟩:=hx;cases hx;have hr:=R.slot t;simp only [gH] at hv;split at hv
  ·rename_i id off hs;rw [hs] at hr;obtain ⟨L,e1,e2⟩:=hr.ar;split at hv
   ·rename_i p cs hb;cases agg with
    | true=>
     simp only [if_true] at hv;split at hv
     ·rename_i h0;obtain ⟨vs,hvs,rfl⟩:∃ vs,(if p then some cs else cs.mapM V.plain)=some vs/\v=.agg vs:=by
       cases p with
       | true=>grind
       | false=>
        simp at hv
        grind
      have hne:cs≠[]:=by grind
      obtain ⟨q1,q0,arr,T,q2,q3,q4⟩:=R.blockP hb hne hvs;refine ⟨.agg (arr.toList.take n).toArray,?_,?_⟩
      ·simp only [ir,e2,Sem.run_bind];have:=JA (P:=P) (w:=w) (k:=μ id) (q:=off) ha hn (arr.toList.take n) (λ_=>by simp; omega) (by simp) (λj u hu=>by
        rw [h0.1,Nat.zero_add,cell_of_row _ _ _ _ _ _ q2]
        grind)
       simpa [asAddr,env] using this
      ·refine pl (CellsP.agg ⟨by simp; omega,λj c hj=>?_⟩);obtain ⟨u,g1,g2,g3⟩:=q4 j c hj;have hjn:j<n:=by grind
       exact ⟨u,by grind,g2,g3⟩
     ·cases hv
    | false=>
     simp only [WaR,if_false] at hv;split at hv
     ·rename_i h0;rw [Waa] at hv;obtain ⟨c,hc,hp⟩:=hv;obtain ⟨q1,arr,T,q2,q3,q4⟩:=R.live hb (by rintro rfl; simp at hc);obtain ⟨u,g1,g2,g3,g4⟩:=q4 0 c hc;refine ⟨u,?_,pl (g4.plain R.hU hp)⟩;simp only [ir,e2,Sem.run_bind];have:=JA (P:=P) (w:=w) (k:=μ id) (q:=off) ha hn [u] (by simp) (by simp) (λj u' hu=>by
       cases j with
       | zero=>simp at hu; subst hu; rw [h0.2,cell_of_row _ _ _ _ _ _ q2]; exact g1
       | succ j=>simp at hu)
      simpa [asAddr,env] using this
     ·cases hv
   ·cases hv
  ·cases hv
end
section
variable {l:Loc}{v:V}{u:Value}{w:World}{μ:Nat->Nat}{us:List Value}{args:List V}{U:Nat->Nat->Prop}{O:Nat->Prop}{ω:Nat->Ow}
variable {aa:Rn} {P:Program}
def noω:Nat->Ow:=λ_=>.no
theorem zat(d4:Nat->Nat->Prop):wr d4 noω=d4:=by
 funext k o;simp [wr,noω]
theorem zid{E:En}(hp:Zq v=true)(h:Rep aa E l v u):RepP aa E.w E.Wr v u:=by
 cases v with
 | sc x=>
  obtain ⟨rfl,h1⟩:=h.aA;exact .sc _ h1
 | agg cs=>exact h.aZ
 | sl sz es=>exact h.aK
 | _=>cases hp
theorem zal(h:zdz v=true):∃ x,v=.sc x:=by
 cases v with
 | sc x=>exact ⟨x,rfl⟩
 | _=>cases h
theorem zgI{w':World}{d4:Nat->Nat->Prop}{ω':Nat->Ow}{Z:St}{a:Act}(R:Rel aa w noω d4 No Z a w' ω' μ){sz:Nat}{es:Ls}(hf:zdU es=true)
  (h:Rep aa (env d4 Z w' ω' μ) l (.gs sz es) u):∃ Y,w.heap.size<=Y/\Y<w'.heap.size/\∀ (E:En),E.w=w'->E.ω Y=.gs l 0->Rep aa E l (.fr sz es) u:=by
 unfold zdU at hf;rw [WaG,WaG] at hf;obtain ⟨hoff,hne,hall⟩:=hf;have hoff:D0=false:=by cases h:D0 <;> simp_all
 have hne:es≠[]:=by intro e; subst e; cases hne
 cases h with
 | pure h=>cases h with
  | bv _ _ A f hsz k o hA hcell h1 h hon=>
   rcases hon with h | h
   ·exact absurd h hne
   ·rw [hoff] at h; cases h
 | gs _ _ Y c arr T f hω hb hc hn hsz hcell h1 h=>
  have hω:ω' Y=.gs l (es.length*sz):=hω;obtain ⟨q1,q2⟩:=R.ow Y (by rw [hω]; simp);have q1:w.heap.size<=Y:=q1.resolve_right (λh=>h);refine ⟨Y,q1,q2,λE hE hβ=>.fr sz es Y c arr T f hβ (by rw [hE]; exact hb) hc ⟨hn,λe=>absurd e hne⟩ hsz hcell h1 (λi v hv=>?_)⟩;obtain ⟨x,rfl⟩:=zal (Wbj.1 hall v (WaQ hv));have q:=h i _ hv;generalize f i=y at q;cases q with
  | sc _ hx=>exact .sc _ hx
theorem F9{w':World}{ω' ω2:Nat->Ow}{μ':Nat->Nat}{r r':V}(R:Rel aa w ω U O ⟨args,[]⟩ ⟨us.toArray,[]⟩ w ω μ)
  (R':Rel aa w noω (wr U ω) No ⟨[r],[]⟩ ⟨#[u],[]⟩ w' ω' μ') (H:∀ k,ω2 k=ω k∨(w.heap.size<=k/\k<w'.heap.size))
  (hr:Rep aa (env U ⟨[r'],[]⟩ w' ω2 μ') (.slot 0 0) r' u):Rel aa w ω U O ⟨[r'],[]⟩ ⟨#[u],[]⟩ w' ω2 μ':=by
 have hsize:w.heap.size<=w'.heap.size:=R'.kp.size;refine ⟨rfl,rfl,λi v hv=>?_,λid p cs hb=>by simp at hb,λid cs hb=>by simp at hb,λid es hb=>by simp at hb,R'.kp.mono (λk _ h=>h.elim),λk hk=>?_,R.ul,λk o x q1 q2=>?_,R'.rs,R.gv⟩
 ·cases i with
  | zero=>
   simp at hv;subst hv;exact hr
  | succ i=>simp at hv
 ·rcases H k with e | ⟨h1,h2⟩
  ·rw [e] at hk;obtain ⟨q1,q2⟩:=R.ow k hk;exact ⟨q1,by omega⟩
  ·exact ⟨.inl h1,h2⟩
 ·have hk:k<w.heap.size:=World.block_lt_of_cell? w ⟨k,o,none⟩ q2;have q3:¬ wr (wr U ω) noω k o:=by rw [zat]; exact q1
  refine ⟨?_,(R'.fr k o x q3 q2).2⟩;rcases H k with e | ⟨h1,h2⟩
  ·unfold wr at q1 ⊢;rw [e];exact q1
  ·omega
theorem zb8{w':World}{Y:Nat}(h1:w.heap.size<=Y)(h2:Y<w'.heap.size)(x:Ow):∀ k,upd ω Y x k=ω k∨(w.heap.size<=k/\k<w'.heap.size):=by
 grind [dC]
theorem ziq(R:Rel aa w ω U O ⟨args,[]⟩ ⟨us.toArray,[]⟩ w ω μ)(hp:args.all Zq=true) :
  Rel aa w noω (wr U ω) No ⟨args,[]⟩ ⟨us.toArray,[]⟩ w noω μ:=by
 refine ⟨rfl,R.tl,λi v hv=>?_,λid p cs hb=>by simp at hb,λid cs hb=>by simp at hb,λid es hb=>by simp at hb,Kept.refl _ _,λk hk=>absurd rfl hk,λk o h=>?_,λk o u h1 h2=>⟨h1,h2⟩,λk=>Wah _,by rw [zat]; exact R.gv⟩
 ·refine .pure ?_;show RepP aa w (wr (wr U ω) noω) v _;rw [zat];exact zid (Wbj.1 hp v (WaQ hv)) (R.ts i v hv)
 ·refine ⟨?_,λh=>h⟩;rcases h with h | h
  ·exact (R.ul k o h).1
  ·refine (R.ow k (λe=>?_)).2;rw [e] at h;exact h
theorem PCall.fresh{f:FuncId}{r r':V}(h:PCall P aa f args [] r [])(hp:args.all Zq=true)(hr:zea r=some r'):PCall P aa f args [] r' []:=by
 intro w us U O ω μ R;refine (h w us (wr U ω) No noω μ (ziq R hp)).mono ?_
 rintro e w' ⟨u,ω',μ',rfl,R',_⟩
 unfold zea at hr;split at hr
 ·rename_i sz es;cases hr;have q:Rep aa (env (wr U ω) ⟨[.gs sz es],[]⟩ w' ω' μ') (.slot 0 0) (.gs sz es) u:=R'.ts 0 _ rfl;split
  ·rename_i hf;obtain ⟨Y,h1,h2,h3⟩:=zgI R' hf q;exact ⟨u,upd ω Y (.gs (.slot 0 0) 0),μ',rfl,F9 R R' (zb8 h1 h2 _) (h3 _ rfl (d7 _ _ _)),λk hk=>absurd hk (Wbo k)⟩
  ·exact ⟨u,ω,μ',rfl,F9 R R' (λk=>.inl rfl) .af,λk hk=>absurd hk (Wbo k)⟩
 ·rename_i sz es vs;split at hr
  ·rename_i hs;cases hr;have q:Rep aa (env (wr U ω) ⟨[.ae (.gs sz es::vs)],[]⟩ w' ω' μ') (.slot 0 0) (.ae (.gs sz es::vs)) u:=R'.ts 0 _ rfl;obtain ⟨us',rfl,hl,hq⟩:=q.tup_inv;cases us' with
   | nil=>simp at hl
   | cons u0 us'=>
    have rest:∀ (E:En) (l:Loc) (j:Nat) (v:V) (x:Value),vs[j]?=some v->us'[j]?=some x->Rep aa E l v x:=by
     intro E l j v x hv hx;obtain ⟨y,rfl⟩:=zal (Wbj.1 hs v (WaQ hv));obtain ⟨rfl,hy⟩:=(hq (j+1) (.sc y) x (by simpa using hv) (by simpa using hx)).aA;exact .pure (.sc _ hy)
    split
    ·rename_i hf;obtain ⟨Y,h1,h2,h3⟩:=zgI R' hf (hq 0 _ _ rfl rfl);refine ⟨_,upd ω Y (.gs (.slot 0 1) 0),μ',rfl,F9 R R' (zb8 h1 h2 _) (.ae _ _ (by simpa using hl) (λj v x hv hx=>?_)),λk hk=>absurd hk (Wbo k)⟩;cases j with
     | zero=>
      simp at hv hx;subst hv; subst hx;exact h3 _ rfl (d7 _ _ _)
     | succ j=>exact rest _ _ j v x (by simpa using hv) (by simpa using hx)
    ·refine ⟨_,ω,μ',rfl,F9 R R' (λk=>.inl rfl) (.ae _ _ (by simpa using hl) (λj v x hv hx=>?_)),λk hk=>absurd hk (Wbo k)⟩;cases j with
     | zero=>
      simp at hv;subst hv;exact .af
     | succ j=>exact rest _ _ j v x (by simpa using hv) (by simpa using hx)
  ·cases hr
 ·cases hr
theorem W8{cb:CB}(h:rD P aa cb):rD P aa (wR cb):=by
 intro g args bor r bor' hr f hf;unfold wR at hr;split at hr
 ·exact h g args bor r bor' hr f hf
 ·split at hr
  ·split at hr
   ·rename_i hp;split at hr
    ·rename_i r0 hc;split at hr
     ·rename_i r1 hn;cases hr;obtain ⟨q1,q2⟩:=h g args [] r0 [] hc f hf;exact ⟨q1,q2.fresh hp hn⟩
     ·cases hr
    ·cases hr
   ·cases hr
  ·cases hr
end
end Go.Proofs.YtipklgbboecciaaGreat
