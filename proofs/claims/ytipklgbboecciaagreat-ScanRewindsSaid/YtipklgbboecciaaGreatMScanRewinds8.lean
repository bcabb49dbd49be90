/- Part 8 of the proof of ScanRewinds: an abstract machine over plain values, its soundness, and the functions of the program on plain values. -/
import Derived.Test.YtipklgbboecciaaGreatMScanRewinds7
namespace Go.Proofs.YtipklgbboecciaaGreat
set_option maxRecDepth 100000
set_option linter.unusedVariables false
set_option linter.unusedSimpArgs false
open Nat renaming beq->Wae,ble->WbY,blt->Wca,eq_of_beq_eq_true->Wao,mul_comm->Wcb
open List renaming zipWith->WbZ,replicate->Wad,getElem?_eq_some_iff->Wam,flatten_cons->WaF,ext_getElem?->Wby,take_succ_cons->Wcc
open Option renaming bind_eq_some_iff->Waa,bind_eq_bind->Wab,bind_some->Wbz
open IntKind renaming wrap->Wbf
open Bool renaming and_eq_true->WaG
section
variable {t ah:Bool}{kd:IntKind}{v:V}{sz off f g:Nat}{cs args:List V}{es:Ls}{b:List B}{s:Sh}{dst:Option Nat}{k:K}{o:COp}{rs:List RV}{T:Nat->Option CF}{cf:CF}
section
variable {Y:Type} {r:Y}
theorem ep{p:Prop}[Decidable p]{k:Option Y}(h:chk p k=some r):p/\k=some r:=by
 grind [qh]
theorem wU{a b:Option Y}(h:ifb t a b=some r):(t=true/\a=some r)∨(t=false/\b=some r):=by
 cases t
 ·exact .inr ⟨rfl,h⟩
 ·exact .inl ⟨rfl,h⟩
theorem rc{k:Int->Option Y}(h:aI kd v k=some r):∃ n,v=.sc (.int kd n)/\k n=some r:=by
 unfold aI at h; grind [qh]
theorem rJ{k:Int->Option Y}(h:FD v k=some r):∃ kd n,v=.sc (.int kd n)/\k n=some r:=by
 unfold FD at h; grind
theorem Ox{k:Bool->Option Y}(h:aB v k=some r):∃ b,v=.sc (.bool b)/\k b=some r:=by
 unfold aB at h; grind
theorem Z6{k:ByteArray->Option Y}(h:aS v k=some r):∃ s,v=.sc (.string s)/\k s=some r:=by
 unfold aS at h; grind
theorem H5{k:Ls->Option Y}(h:aL sz v k=some r):∃ es,v=.sl sz es/\k es=some r:=by
 unfold aL at h; grind [qh]
theorem zb5{k:Ls->Option Y}(h:aLd sz v k=some r):∃ es,v.ag=.sl sz es/\k es=some r:=by
 unfold aLd at h; simp [qh] at h; split at h
 ·split at h
  ·rename_i e; subst e; exact ⟨_,rfl,h⟩
  ·cases h
 ·split at h
  ·rename_i e; subst e; exact ⟨_,rfl,h⟩
  ·cases h
 ·cases h
theorem zbk{k:List V->Option Y}(h:aG v k=some r):∃ cs,v=.agg cs/\k cs=some r:=by
 unfold aG at h; grind
theorem zjX{k:Ls->Option Y}(h:aGs sz v k=some r):∃ es,v=.gs sz es/\k es=some r:=by
 unfold aGs at h; grind [qh]
theorem zca{id:Nat}{k:Nat->Option Y}(h:aO0 id sz v k=some r):∃ l,v=.own id 0 l sz/\k l=some r:=by
 unfold aO0 at h; grind [qh]
theorem K5{id:Nat}{k:Option Y}(h:aP id off v k=some r):v=.ptr id off/\k=some r:=by
 unfold aP at h; grind [qh]
theorem VT:∀ {caps:List (Nat × Nat)} {cs:List V},PZ caps cs=true->cs=caps.map (λp=>.ptr p.1 p.2)
 | [],[],_=>rfl
 | (i,o)::r,.ptr a b::s,h=>by
  simp only [PZ,WaG] at h;rw [Wao h.1,Wao h.2.1,VT h.2.2];rfl
 | [],_::_,h=>by cases h
 | _::_,[],h=>by cases h
 | (i,o)::_,.sc _::_,h=>by cases h
 | (i,o)::_,.agg _::_,h=>by cases h
 | (i,o)::_,.ae _::_,h=>by cases h
 | (i,o)::_,.sl _ _::_,h=>by cases h
 | (i,o)::_,.gs _ _::_,h=>by cases h
 | (i,o)::_,.own _ _ _ _::_,h=>by cases h
 | (i,o)::_,.fp _ _::_,h=>by cases h
 | (i,o)::_,.fn _ _::_,h=>by cases h
 | (i,o)::_,.bx _ _::_,h=>by cases h
 | (i,o)::_,.fr _ _::_,h=>by cases h
 | (i,o)::_,.af::_,h=>by cases h
theorem zgf{caps:List (Nat × Nat)}{k:Option Y}(h:aF f caps v k=some r):v=.fn f (caps.map (λp=>.ptr p.1 p.2))/\k=some r:=by
 unfold aF at h; split at h
 ·split at h
  ·rename_i e;simp only [WaG] at e;rw [Wao e.1,VT e.2];exact ⟨rfl,h⟩
  ·cases h
 ·cases h
theorem w4{k:V->Option Y}(h:pf cs off k=some r):∃ v,cs[off]?=some v/\k v=some r:=by
 grind [pf]
theorem zju{j:Int}{k:List V->Option Y}(h:idx es j k=some r):0<=j/\∃ c,es[j.toNat]?=some c/\k c=some r:=by
 grind [qh,idx]
theorem zjh{n:Nat}{a b:List V}{k:Bool->Option Y}(h:eqC n a b k=some r):(a.length=n/\b.length=n)/\∃ t,j5 a b=some t/\k t=some r:=by
 grind [qh,eqC]
theorem zhD{k:ByteArray->Option Y}(h:yp es k=some r):∃ l,og es=some l/\k ⟨l.toArray⟩=some r:=by
 grind [yp]
theorem JN{k:List V->Option Y}(h:KL cs k=some r):∃ vs,cs.mapM V.plain=some vs/\k vs=some r:=by
 grind [KL]
theorem zgi{k:List V->Option Y}(h:zel cs k=some r):∃ vs,cs.mapM V.aN=some vs/\k vs=some r:=by
 grind [zel]
theorem vD{o:Option St}{κ:St->Option Y}(h:xP o κ=some r):∃ Z,o=some Z/\κ Z=some r:=by
 grind
theorem pL{k:V->Option Y}(h:y9 b v k=some r):∃ u,i4 b v=some u/\k u=some r:=by
 grind [y9]
theorem zcY{k:Ls->Option Y}(h:aGw sz v k=some r):∃ es,v=.gs sz es/\k es=some r:=by
 unfold aGw at h
 grind [ep]
theorem zij{k:V->Option Y}(h:zhE s v k=some r):k v=some r:=by
 unfold zhE at h
 grind [zcY]
theorem W3{k:V->Option Y}(h:asc s v k=some r):k v=some r:=by
 cases s with
 | any=>exact h
 | int kd=>obtain ⟨n,e,h'⟩:=rc h; subst e; exact h'
 | bool=>obtain ⟨n,e,h'⟩:=Ox h; subst e; exact h'
 | str=>obtain ⟨n,e,h'⟩:=Z6 h; subst e; exact h'
 | sl sz=>obtain ⟨n,e,h'⟩:=H5 h; subst e; exact h'
 | gs sz=>obtain ⟨n,e,h'⟩:=zcY h; subst e; exact h'
 | row l=>cases h
theorem zh5{k:V->Option Y}(h:zkG s v k=some r):k v.ag=some r:=by
 cases s with
 | any=>exact h
 | int kd=>obtain ⟨n,e,h'⟩:=rc h; subst e; exact h'
 | bool=>obtain ⟨n,e,h'⟩:=Ox h; subst e; exact h'
 | str=>obtain ⟨n,e,h'⟩:=Z6 h; subst e; exact h'
 | sl sz=>obtain ⟨n,e,h⟩:=zb5 h; rw [e]; exact h
 | gs sz=>obtain ⟨n,e,h⟩:=zb5 h; rw [e]; exact h
 | row l=>cases h
theorem Vy:∀ {ss:List Sh} {i:Nat} {cs:List V} {k:List V->Option Y},zaB ss i cs k=some r->i+ss.length=cs.length->k (cs.drop i)=some r
 | [],i,cs,k,h,hl=>by
  rw [List.drop_of_length_le (by simp at hl; omega)];exact h
 | s::ss,i,cs,k,h,hl=>by
  obtain ⟨v,e,h⟩:=w4 h;have h:=Vy (W3 h) (by simp at hl; omega);obtain ⟨hi,rfl⟩:=Wam.1 e
  simp_all
theorem J2{k:List V->Option Y}(h:PL s cs k=some r):k cs=some r:=by
 cases s with
 | row ss=>
  obtain ⟨hl,h⟩:=ep h;have:=Vy h (by omega);simpa using this
 | _=>exact h
theorem IR{k:V->Option Y}(h:Uy s cs off k=some r):∃ v,cs[off]?=some v/\k v=some r:=by
 obtain ⟨v,e,h⟩:=w4 h; exact ⟨v,e,W3 h⟩
theorem zdl{k:V->Option Y}(h:zfI s cs off k=some r):∃ v,cs[off]?=some v/\k v.ag=some r:=by
 obtain ⟨v,e,h⟩:=w4 h; exact ⟨v,e,zh5 h⟩
theorem zbX{v:Value}{k:Value->Option Y}(h:ltV v k=some r):k v=some r:=by
 cases v <;> exact h
theorem zga{a b:V}{k:V->Option Y}(h:zdh t a b k=some r):k (if t then a else b)=some r:=by
 unfold zdh at h; simp [qh] at h;split at h
 ·cases t <;> exact h
 ·split at h
  ·rename_i e; subst e; cases t <;> exact h
  ·cases h
 ·grind [wU]
theorem zeW{b:Bool}{k:List V->Option Y}(h:ziu b cs k=some r):k cs=some r:=by
 cases b <;> exact h
theorem Oy{Z:St}:∀ {ps:List (Nat × Nat × Src)} {cs:List V} {k:List V->Option Y},Uu Z ps cs k=some r->∃ cs',kF Z ps cs=some cs'/\k cs'=some r
 | [],cs,k,h=>⟨cs,rfl,h⟩
 | (off,n,x)::ps,cs,k,h=>by
  unfold Uu at h;split at h
  ·rename_i v hv;obtain ⟨hc,h⟩:=ep h;obtain ⟨cs',e,h⟩:=Oy h
   grind [kF]
  ·cases h
theorem LM{sh:Nat->Sh}{Z:St}:∀ {ps:List (Nat × Nat × Src)} {cs:List V} {k:List V->Option Y},Pk sh Z ps cs k=some r->∃ cs',nj Z ps cs=some cs'/\k cs'=some r
 | [],cs,k,h=>⟨cs,rfl,h⟩
 | (off,n,x)::ps,cs,k,h=>by
  unfold Pk at h;split at h
  ·rename_i us hx;have h:=J2 h;obtain ⟨hc,h⟩:=ep h;obtain ⟨cs',e,h⟩:=LM h
   grind [V.cells,V.plain,V.aN,nj]
  ·split at h
   ·rename_i v hv;obtain ⟨hc,h⟩:=ep h;obtain ⟨cs',e,h⟩:=LM h
    grind [nj]
   ·cases h
theorem zgV{op:BinOp}{x y:Value}{k:Value->Option Y}(h:zgY op x y k=some r):∃ z,g8 op x y=some z/\k z=some r:=by
 unfold zgY at h
 grind [g8,ep]
theorem Lq{Z:St}{x:Option Src}{dflt most:Nat}{k:Nat->Option Y}(h:Pg Z x dflt most k=some r):∃ n,pp Z x dflt most=some n/\k n=some r:=by
 unfold Pg at h;split at h
 ·exact ⟨_,rfl,h⟩
 ·obtain ⟨kd,n,e,h⟩:=rJ h;obtain ⟨hc,h⟩:=ep h;exact ⟨_,by simp [pp,e,V.int?,hc],h⟩
theorem yN{Z:St}{len:Nat}{lo hi mx:Option Src}{k:Nat->Nat->Nat->Option Y}(h:GC Z len lo hi mx k=some r):∃ l hh m,j1 Z len lo hi mx=some (l,hh,m)/\k l hh m=some r:=by
 obtain ⟨m,e1,h⟩:=Lq h;obtain ⟨hh,e2,h⟩:=Lq h;obtain ⟨l,e3,h⟩:=Lq h;exact ⟨l,hh,m,by simp [j1,e1,e2,e3],h⟩
end
def za(c:CBC)(cb:CB):Prop:=∀ (Y:Type) (f:Nat) (args:List V) (bor:Bor) (k:V->Bor->Option Y) (r:Y),c Y f args bor k=some r->∃ v b,cb f args bor=some (v,b)/\k v b=some r
section
variable {Y:Type} {r:Y} {c:CBC} {cb:CB} {sh:Nat->Sh} {nb L:Nat}
theorem zan{Z:St}{κ:St->Option Y}(h:Zp nb Z dst ah v κ=some r):∃ σ',Z.au nb dst ah v=some σ'/\κ σ'=some r:=by
 cases v with
 | fr sz es=>
  grind [St.aq,St.au,Zp]
 | _=>exact vD h
theorem zdi(b:List B)(id:Nat)(κ:List B->Option Y):WN b id κ=κ (fQ b id):=by
 unfold WN fQ;split
 ·rename_i cs h;cases cs with
  | nil=>simp [ifb,h]
  | cons c cs=>simp [ifb,h]
 ·grind
theorem Gd(Z:St):∀ (srcs:List (Src × Nat)) (b:List B) (κ:List B->Option Y),GF Z srcs b κ=κ (dG Z srcs b)
 | [],b,κ=>rfl
 | s::rest,b,κ=>by
  unfold GF dG;by_cases h:2<=s.2
  ·rw [if_pos h]; simp [h]; exact Gd Z rest b κ
  ·rw [if_neg h]; simp [h];cases gS (s.1.get Z) with
   | none=>exact Gd Z rest b κ
   | some id=>simp [zdi]; exact Gd Z rest _ κ
theorem YJ{i:Nat}{x:B}(hb:b[i]?=some x):b.set i x=b:=by
 apply Wby
 grind
theorem zgu{k:V->Option Y}{r:Y}(h:zej b v k=some r):∃ u,yv b v=some u/\k u=some r:=by
 unfold zej at h
 grind [ep,yv]
theorem NL{b:List B}{r:Y}:∀ {vs:List V} {k:List V->Option Y},UP b vs k=some r->∃ us,vs.mapM (yv b)=some us/\k us=some r
 | [],k,h=>⟨[],rfl,h⟩
 | v::vs,k,h=>by
  obtain ⟨u,e,h⟩:=zgu h;obtain ⟨us,e2,h⟩:=NL h
  simp_all
theorem tz(nb:Nat){r:Y}:∀ (fz:List Nat) (Z:St) (κ:St->Option Y),sV nb fz Z κ=some r->κ (tX nb fz Z)=some r
 | [],Z,κ,h=>h
 | d::fz,Z,κ,h=>by
  unfold sV at h;unfold tX;cases hd:Wca d 100000 with
  | true=>
   rw [hd] at h;simp only at h ⊢;split at h
   ·rename_i cs hb;cases cs with
    | nil=>
     have e:fQ Z.b (nb+d)=Z.b:=by unfold fQ; rw [hb]
     have h:sV nb fz { Z with b:=Z.b.set (nb+d) (.live true []) } κ=some r:=h;rw [YJ hb] at h;rw [e]; exact tz nb fz _ κ h
    | cons c cs=>
     have e:fQ Z.b (nb+d)=Z.b.set (nb+d) (.fz (c::cs)):=by unfold fQ; rw [hb]
     have h:sV nb fz { Z with b:=Z.b.set (nb+d) (.fz (c::cs)) } κ=some r:=h;rw [e]; exact tz nb fz _ κ h
   ·rename_i hb;have e:fQ Z.b (nb+d)=Z.b:=by
     unfold fQ;split
     ·rename_i c cs h2; exact absurd h2 (hb _)
     ·rfl
    rw [e]; exact tz nb fz _ κ h
  | false=>
   rw [hd] at h;simp only at h ⊢;split at h
   ·rename_i cs hb;cases cs with
    | nil=>
     have e:ko Z.b (nb+(d-100000))=Z.b:=by unfold ko; rw [hb]
     have h:sV nb fz { Z with b:=Z.b.set (nb+(d-100000)) (.live false []) } κ=some r:=h;rw [YJ hb] at h;rw [e]; exact tz nb fz _ κ h
    | cons c cs=>
     have h:UP Z.b (c::cs) (λvs=>sV nb fz { Z with b:=Z.b.set (nb+(d-100000)) (.fz vs) } κ)=some r:=h;obtain ⟨vs,hvs,h⟩:=NL h;have e:ko Z.b (nb+(d-100000))=Z.b.set (nb+(d-100000)) (.fz vs):=by unfold ko; rw [hb]; simp only [hvs]
     rw [e]; exact tz nb fz _ κ h
   ·rename_i vs hb;have e:ko Z.b (nb+(d-100000))=Z.b:=by unfold ko; rw [hb]
    rw [e]; exact tz nb fz _ κ h
   ·cases h
theorem TR(hc:za c cb){Z:St}{srcs:List (Src × Nat)}{xs:List Nat}{κ:St->Option Y}(h:PI c nb Z dst ah f args srcs xs κ=some r):∃ σ',nu cb nb Z dst ah f args srcs xs=some σ'/\κ σ'=some r:=by
 unfold PI at h;rw [Gd] at h;simp only at h;split at h
 ·cases h
 ·rename_i bor hb;obtain ⟨v,b,e,h⟩:=hc _ _ _ _ _ _ h;obtain ⟨hl,h⟩:=ep h;split at h
  ·rename_i ht;obtain ⟨σ',e2,h⟩:=zan h;refine ⟨σ',?_,h⟩;simp only [WaG,decide_eq_true_eq] at ht;obtain ⟨t1,t2,t3,t4,t5,t6,t7,t8⟩:=ht;unfold nu
   grind
  ·cases h
theorem zjC{Z:St}{κ:St->Option Y}(hk:ck (λ_ _ _=>none) nb Z dst ah k=ck cb nb Z dst ah k)(h:xP (ck (λ_ _ _=>none) nb Z dst ah k) κ=some r):∃ σ',ck cb nb Z dst ah k=some σ'/\κ σ'=some r:=by
 grind
theorem St.set_same{Z:St}{j:Nat}(h:Z.t[j]?=some v):({ Z with t:=Z.t.set j v }:St)=Z:=by
 have:Z.t.set j v=Z.t:=by
  apply Wby
  grind
 rw [this]
variable {Z:St}
theorem zaO(hc:za c cb){κ:St->Option Y}(h:jr sh c nb Z dst ah k κ=some r):∃ σ',ck cb nb Z dst ah k=some σ'/\κ σ'=some r:=by
 cases k with
 | pick c a b=>
  obtain ⟨t,e,h⟩:=Ox h;exact ⟨_,by simp only [ck,cJ,e,V.bool?]; rfl,by grind [zga]⟩
 | build zero parts=>
  obtain ⟨cs,e,h⟩:=Oy h;have h:=zeW h;exact ⟨_,by simp only [ck,cJ,e]; rfl,h⟩
 | az zero parts=>
  obtain ⟨cs,e,h⟩:=LM h;exact ⟨_,by simp only [ck,cJ,e]; rfl,h⟩
 | box p x=>
  simp [jr] at h;split at h
  ·grind [ck]
  ·rename_i hx;split at h
   ·rename_i v hv;have hk:∀ p,ck cb nb Z dst ah (.box p x)=Z.ao nb dst (.live p v.cells) (λid=>.ptr id 0):=by
     intro p;cases hxx:x.get Z with
     | st cs=>exact absurd hxx (hx cs)
     | _=>rw [hxx] at hv; simp only [ck,hxx,hv]
    cases p with
    | true=>
     obtain ⟨σ',e,h⟩:=vD h;exact ⟨σ',by rw [hk]; exact e,h⟩
    | false=>
     obtain ⟨σ',e,h⟩:=vD (J2 h);exact ⟨σ',by rw [hk]; exact e,h⟩
   ·cases h
 | bo neg x=>
  simp [jr] at h;split at h
  ·rename_i sz es hx;split at h
   ·rename_i t;rcases wU h with ⟨hq,h⟩ | ⟨hq,h⟩
    ·have he:es=[]:=by simpa using hq
     subst he;have hget:∃ v,Z.t[t]?=some v/\Src.get Z (.tmp t)=v/\ziw v=v:=by
      simp only [Src.get,List.getD_eq_getElem?_getD] at hx ⊢;cases ht:Z.t[t]? with
      | none=>rw [ht] at hx; simp [V.ag] at hx
      | some v=>
       rw [ht] at hx;refine ⟨v,rfl,rfl,?_⟩;have hx:v.ag=.sl sz []:=hx
       match v,hx with
       | .gs a es,hx=>
        have:es=[]:=by simp [V.ag] at hx; exact hx.2
        rw [this]; rfl
       | .sl a es,hx=>
        have:es=[]:=by simp [V.ag] at hx; exact hx.2
        rw [this]; rfl
       | .ae [],hx=>rfl
       | .ae (_::_),hx=>rfl
       | .sc _,hx=>rfl
       | .agg _,hx=>rfl
       | .own _ _ _ _,hx=>rfl
       | .ptr _ _,hx=>rfl
       | .fp _ _,hx=>rfl
       | .fn _ _,hx=>rfl
       | .bx _ _,hx=>rfl
       | .fr _ _,hx=>rfl
       | .ub,hx=>rfl
       | .af,hx=>rfl
     obtain ⟨v,g1,g2,g3⟩:=hget;simp only [lt] at h;rw [g2,g3,St.set_same g1] at h;exact ⟨_,by simp only [ck,cJ,hx]; rfl,h⟩
    ·exact ⟨_,by simp only [ck,cJ,hx,hq]; rfl,h⟩
   ·cases h
  ·cases h
 | un op x=>
  grind [zbX,cJ,jr,ck]
 | conv k x=>
  obtain ⟨kd,n,e,h⟩:=rJ h;exact ⟨_,by simp only [ck,cJ,e,V.int?]; rfl,h⟩
 | adc s x y c=>
  simp [jr] at h;split at h
  ·rename_i a b d ha hb hd;obtain ⟨h0,h⟩:=ep h;exact ⟨_,by grind [cJ,ck],h⟩
  ·cases h
 | mm isMax x y=>
  simp only [jr] at h;split at h
  ·rename_i k a k' b ha hb;exact ⟨_,by grind [cJ,ck],h⟩
  ·cases h
 | copy sz d s=>
  simp [jr] at h;split at h
  ·rename_i id off len sz1 hd;obtain ⟨u,e,h⟩:=pL h;split at h
   ·rename_i sz2 es;split at h
    ·rename_i cs hb;obtain ⟨hc,h⟩:=ep h;exact ⟨_,by grind [ck],h⟩
    ·cases h
   ·cases h
  ·cases h
 | buildSlice sz n zero parts=>
  obtain ⟨cs,e,h⟩:=Oy h
  grind [ck]
 | bin op x y=>
  grind [zgV,zbX,cJ,jr,ck]
 | aW neg n x y=>
  grind [zjh,cJ,jr,ck]
 | ofStr x=>
  grind [Z6,jr,ck]
 | toStr x=>
  obtain ⟨u,e,h⟩:=pL h;split at h
  ·grind [cJ,ck,zhD]
  ·cases h
 | bG x=>
  grind [ep,cJ,jr,ck]
 | bk x y=>
  obtain ⟨u,e,h⟩:=pL h;obtain ⟨v,e',h⟩:=pL h;split at h
  ·unfold zdW at h;split at h
   ·rename_i a ha;split at h
    ·rename_i b hb;exact ⟨_,by grind [cJ,ck],h⟩
    ·cases h
   ·cases h
  ·cases h
 | makeSlice sz bytes zero l c=>
  obtain ⟨k1,l',e1,h⟩:=rJ h;obtain ⟨k2,c',e2,h⟩:=rJ h;cases ah with
  | true=>
   obtain ⟨hc,h⟩:=ep h;obtain ⟨σ',e3,h⟩:=vD h;exact ⟨σ',by simp only [ck,e1,e2,V.int?]; grind,h⟩
  | false=>
   obtain ⟨hc,h⟩:=ep h;obtain ⟨σ',e3,h⟩:=vD h;exact ⟨σ',by simp only [ck,e1,e2,V.int?]; grind,h⟩
 | ay n sz x lo hi mx=>
  obtain ⟨l,hh,m,e,h⟩:=yN h;split at h
  ·rename_i id off hx;split at h
   ·rename_i p cs hb;obtain ⟨hl,h⟩:=ep h;refine ⟨_,by simp only [ck,cJ,e,Wab,Wbz,hx,hb,hl,if_true,Option.map_some]; rfl,?_⟩;rcases wU h with ⟨q,h⟩ | ⟨q,h⟩
    ·grind
    ·grind
   ·grind [ep,wU,cJ,ck]
   ·cases h
  ·grind [ep,cJ,ck]
  ·cases h
 | aT sz x lo hi mx=>
  simp [jr] at h;split at h
  ·rename_i sz' es hx;obtain ⟨l,hh,m,e,h⟩:=yN h;obtain ⟨hs,h⟩:=ep h;cases mx with
   | none=>exact ⟨Z.put dst (.sl sz ((es.drop l).take (hh-l))),by grind [cJ,ck],h⟩
   | some s=>
    grind [wU,cJ,ck]
  ·rename_i id off len sz' hx;obtain ⟨l,hh,m,e,h⟩:=yN h;obtain ⟨hs,h2⟩:=ep h;subst hs;cases mx with
   | none=>grind [cJ,ck]
   | some s=>
    grind [wU,cJ,ck]
  ·rename_i id off len cap sz' hx;cases hi with
   | none=>cases h
   | some s0=>
    cases mx with
    | some _=>cases h
    | none=>
     grind [yN,ep,cJ,ck]
  ·cases h
 | aY sz x hi=>
  simp [jr] at h;split at h
  ·rename_i id off len sz' hx;cases hi with
   | none=>cases h
   | some s0=>
    grind [yN,ep,cJ,ck]
  ·cases h
 | aD sz x hi mx=>
  simp [jr] at h;split at h
  ·rename_i sz' es hx;obtain ⟨kd,i,e,h⟩:=rJ h;obtain ⟨kd',i',e',h⟩:=rJ h;obtain ⟨hs,h⟩:=ep h;obtain ⟨hc,h2⟩:=ep h;refine ⟨_,?_,h2⟩;have e2:(hi.get Z).int?=some i:=by rw [e]; rfl
   have e3:(mx.get Z).int?=some i':=by rw [e']; rfl
   simp only [ck,cJ,hx,e2,e3];rw [if_pos ⟨hc.1,hc.2.1,hc.2.2,hs.2,hs.1⟩]; rfl
  ·cases h
 | field agg o n x=>
  grind [IR,cJ,jr,ck]
 | al len sz x i=>
  obtain ⟨k1,j,e1,h⟩:=rJ h;obtain ⟨hj,h⟩:=ep h;split at h
  ·rename_i id off hx;exact ⟨_,by simp [ck,cJ,hx,e1,V.int?,hj],h⟩
  ·rename_i q cs hx;obtain ⟨hl,h⟩:=ep h;exact ⟨_,by simp [ck,cJ,hx,e1,V.int?,hj,hl],h⟩
  ·cases h
 | aj sz x i=>
  obtain ⟨k1,j,e1,h⟩:=rJ h;split at h
  ·rename_i sz' es hx;obtain ⟨hs,h2⟩:=ep h;obtain ⟨hj,cc,e,h3⟩:=zju h2;subst hs;exact ⟨_,by simp [ck,cJ,hx,e1,V.int?,hj,e],h3⟩
  ·rename_i id off len sz' hx;obtain ⟨hs,h2⟩:=ep h;obtain ⟨hj,h3⟩:=ep h2;subst hs;exact ⟨_,by simp [ck,cJ,hx,e1,V.int?,hj],h3⟩
  ·cases h
 | bq n sz x=>
  grind [ep,cJ,jr,ck]
 | aR agg len sz x i=>
  obtain ⟨k1,j,e1,h⟩:=rJ h;obtain ⟨hj,h⟩:=ep h;split at h
  ·rename_i cs hx;cases agg with
   | true=>exact ⟨_,by simp [ck,cJ,hx,e1,V.int?,hj],h⟩
   | false=>
    obtain ⟨v,e,h⟩:=IR h;exact ⟨_,by simp [ck,cJ,hx,e1,V.int?,hj,e],h⟩
  ·cases h
 | load agg n a take=>
  simp [jr] at h;split at h
  ·rename_i id off hx;split at h
   ·rename_i p cs hb;cases agg with
    | true=>
     obtain ⟨hl,h⟩:=ep h;cases p with
     | true=>grind [ck]
     | false=>
      grind [JN,zgi,ck]
    | false=>
     cases take with
     | true=>
      grind [zij,w4,ck]
     | false=>
      grind [zdl,ck]
   ·grind [IR,ep,ck]
   ·cases h
  ·grind [IR,ep,ck]
  ·cases h
 | store n a x=>
  cases dst with
  | some d=>cases h
  | none=>
  simp [jr] at h;split at h
  ·rename_i id off hx;split at h
   ·rename_i cs hb;split at h
    ·rename_i v hv;obtain ⟨hl,h⟩:=ep h;exact ⟨_,by simp [ck,hx,hb,hv,hl],h⟩
    ·cases h
   ·rename_i cs hb;cases hxv:x.get Z <;> simp only [hxv] at h
    case agg us=>
     obtain ⟨hl,h⟩:=ep (J2 h);exact ⟨_,by simp [ck,hx,hb,hxv,hl],h⟩
    case st us=>
     obtain ⟨hl,h⟩:=ep h;exact ⟨_,by simp [ck,hx,hb,hxv,hl],h⟩
    case ae=>cases h
    case bx=>cases h
    case af=>cases h
    all_goals
     obtain ⟨hl,h⟩:=ep h;exact ⟨_,by simp [ck,hx,hb,hxv,hl],h⟩
   ·cases h
  ·cases h
 | append sz bytes s x=>
  simp only [jr] at h;split at h
  ·rename_i sz1 es hs;obtain ⟨u,e,h⟩:=pL h;split at h
   ·rename_i sz2 es2;obtain ⟨⟨h1,h2⟩,h⟩:=ep h;obtain ⟨h3,h⟩:=ep h;cases ah with
    | true=>
     grind [ck]
    | false=>
     refine ⟨_,?_,h⟩
     grind [ck]
   ·cases h
  ·grind [ep,ck,pL]
  ·rename_i id off len sz1 hs;obtain ⟨u,e,h⟩:=pL h;split at h
   ·rename_i sz2 es2;split at h
    ·rename_i cs hb;obtain ⟨⟨h1,h2,h0⟩,h⟩:=ep h;obtain ⟨h3,h⟩:=ep h;obtain ⟨σ',e3,h⟩:=vD h
     grind [ck]
    ·cases h
   ·cases h
  ·rename_i id off len cap sz1 hs;obtain ⟨u,e,h⟩:=pL h;split at h
   ·rename_i sz2 es2;split at h
    ·rename_i cs hb;split at h
     ·obtain ⟨⟨h1,h2,h0⟩,h⟩:=ep h;obtain ⟨h3,h⟩:=ep h;refine ⟨_,?_,h⟩
      grind [ck]
     ·cases h
    ·cases h
   ·cases h
  ·cases h
 | aM sz bytes s x=>
  cases ah with
  | true=>grind [jr]
  | false=>
   simp only [jr] at h;split at h
   ·grind [ep,XB,ck,pL]
   ·rename_i sz1 es hs;obtain ⟨u,e,h⟩:=pL h;split at h
    ·rename_i sz2 es2;obtain ⟨⟨h1,h2⟩,h⟩:=ep h;obtain ⟨h3,h⟩:=ep h;refine ⟨_,?_,h⟩
     grind [XB,ck]
    ·cases h
   ·cases h
 | bj p sz a=>
  simp [jr] at h;split at h
  ·rename_i id off hx;split at h
   ·rename_i cs hb;obtain ⟨v,hv,h⟩:=w4 h;split at h
    ·rename_i sz1 es;split at h
     ·rename_i d;obtain ⟨h1,h⟩:=ep h;obtain ⟨σ',e,h⟩:=vD h
      grind [ck]
     ·cases h
    ·cases h
   ·cases h
  ·cases h
 | aX n a x xs=>
  cases dst with
  | some d=>cases h
  | none=>
  grind [ep,jr,ck]
 | aE n a=>
  grind [ep,NL,jr,ck]
 | bh p sz x=>
  simp only [jr] at h;split at h
  ·rename_i sz1 es hx;split at h
   ·rename_i t d;obtain ⟨h1,h⟩:=ep h;obtain ⟨σ',e,h⟩:=vD h
    grind [ck]
   ·cases h
  ·cases h
 | a8 x=>
  grind [ep,jr,ck]
 | clear sz zero x=>
  simp [jr] at h;split at h
  ·rename_i id off len sz1 hx;split at h
   ·rename_i cs hb;obtain ⟨h1,h⟩:=ep h;exact ⟨_,by grind [ck],h⟩
   ·cases h
  ·cases h
 | aO sz bytes zero s x=>
  simp [jr] at h;split at h
  ·rename_i sz1 es hs;obtain ⟨kd,n,e,h⟩:=rJ h;obtain ⟨h1,h⟩:=ep h;obtain ⟨h2,h⟩:=ep h;cases ah with
   | true=>cases h
   | false=>
    refine ⟨_,?_,h⟩;simp only [ck,hs,e,V.int?];rw [if_pos ⟨h1,h2⟩];rfl
  ·cases h
 | extract x i=>
  grind [zan,jr,ck]
 | call f args xs=>
  grind [TR,jr,ck]
 | aQ f args xs=>
  simp [jr] at h;split at h
  ·grind [TR,ck]
  ·cases h
 | a9 kd ok zero x y=>
  simp [jr] at h;split at h
  ·grind [W3,mAt,ck]
  ·cases h
 | bz kd x y z=>
  simp [jr] at h;split at h
  ·cases h
  ·split at h
   ·rename_i id hx;split at h
    ·rename_i es hes;split at h
     ·rename_i v hv;unfold zbc at h;split at h
      ·rename_i hko;split at h
       ·rename_i q hq;refine ⟨_,?_,h⟩
        grind [ck]
       ·cases h
      ·cases h
     ·cases h
    ·cases h
   ·cases h
 | _=>exact zjC rfl h
theorem UY(hc:za c cb){κ:St->St->Option Y}(h:PO sh c nb Z o κ=some r):∃ σ',dz cb nb Z o=some σ'/\κ Z σ'=some r:=by
 unfold PO at h;split at h
 ·grind [iS,zaO,dz]
 ·rename_i j want hg;split at h
  ·grind [St.set_same,iS,wU,lt,zaO,dz]
  ·grind [iS,dz]
  ·cases h
theorem Re(hc:za c cb):∀ {ops:List COp} {Z:St} {κ:St->Option Y},S8 sh c nb ops Z κ=some r->∃ σ',pQ cb nb ops Z=some σ'/\κ σ'=some r
 | [],Z,κ,h=>⟨Z,rfl,h⟩
 | o::ops,Z,κ,h=>by
  obtain ⟨σ1,e1,h⟩:=UY hc h;obtain ⟨σ2,e2,h⟩:=Re hc h
  grind [pQ]
theorem X2(hc:za c cb):∀ {ops:List (COp × Fl)} {Z:St} {κ:St->Option Y},Z4 sh c nb ops Z κ=some r->∃ σ',vr cb nb ops Z=some σ'/\κ σ'=some r
 | [],Z,κ,h=>⟨Z,rfl,h⟩
 | (o,q)::ops,Z,κ,h=>by
  obtain ⟨σ1,e1,h⟩:=UY hc h;split at h
  ·rename_i hq;obtain ⟨σ2,e2,h⟩:=X2 hc h
   grind [vr]
  ·cases h
theorem zak{body:St->KT Y->Option Y}{bodyN:St->Option (Ex × St)}{norm:St->St}(hb:∀ Z K,body Z K=some r->∃ ex σ',bodyN Z=some (ex,σ')/\K ex σ'=some r):∀ (n:Nat) (Z:St) (K:KT Y),dW body norm n (norm Z) K=some r->∃ ex σ',qx bodyN norm n Z=some (ex,σ')/\K ex σ'=some r
 | 0,Z,K,h=>by cases h
 | n+1,Z,K,h=>by
  obtain ⟨ex,σ1,e,h⟩:=hb _ _ h;cases ex with
  | normal=>
   obtain ⟨ex,σ2,e2,h⟩:=zak hb n σ1 K h
   grind [qx]
  | exit j=>exact ⟨_,_,by simp [qx,e],h⟩
  | ret=>exact ⟨_,_,by simp [qx,e],h⟩
theorem zhn{σ':St}(h:ck (λ_ _ _=>none) nb Z dst ah k=some σ'):ck cb nb Z dst ah k=some σ':=by
 cases k with
 | call f args xs=>
  simp only [ck,nu,Wab,Waa,Prod.exists] at h
  grind
 | aQ f args xs=>
  simp only [ck] at h;split at h
  ·simp only [nu,Wab,Waa,Prod.exists] at h
   grind
  ·cases h
 | _=>exact h
theorem Yu{σ':St}(h:dz (λ_ _ _=>none) nb Z o=some σ'):dz cb nb Z o=some σ':=by
 grind [zhn,dz]
theorem Ur:∀ {ops:List COp} {Z σ':St},pQ (λ_ _ _=>none) nb ops Z=some σ'->pQ cb nb ops Z=some σ'
 | [],Z,σ',h=>h
 | o::ops,Z,σ',h=>by
  simp [pQ,Waa] at h ⊢;obtain ⟨σ1,h1,h2⟩:=h;exact ⟨σ1,Yu h1,Ur h2⟩
theorem zaF:∀ {ops:List (COp × Fl)} {Z σ':St},vr (λ_ _ _=>none) nb ops Z=some σ'->vr cb nb ops Z=some σ'
 | [],Z,σ',h=>h
 | (o,q)::ops,Z,σ',h=>by
  simp [vr] at h ⊢;split at h
  ·rename_i σ1 h1;rw [Yu h1];split at h
   ·rename_i hq;simp [hq];exact zaF h
   ·cases h
  ·cases h
theorem zfk:∀ (cc:CC) (Z:St) (r:Ex × St),run (λ_ _ _=>none) nb L cc Z=some r->run cb nb L cc Z=some r:=by
 intro cc
 induction cc with
 | skip=>intro Z r h; exact h
 | bw ops=>
  intro Z r h;simp [run] at h ⊢;obtain ⟨σ1,h1,h2⟩:=h;exact ⟨σ1,Ur h1,h2⟩
 | bu fz ops=>
  intro Z r h;simp [run] at h ⊢;obtain ⟨σ1,h1,h2⟩:=h;exact ⟨σ1,zaF h1,h2⟩
 | seq a b iha ihb=>
  intro Z r h;simp [run] at h ⊢;split at h
  ·rename_i σ1 h1;rw [iha _ _ h1];exact ihb _ _ h
  ·rename_i hne;obtain ⟨ex,σ1⟩:=r;rw [iha _ _ h];cases ex with
   | normal=>exact absurd h (hne _)
   | exit j=>rfl
   | ret=>rfl
 | fork p s a b ihp iha ihb=>
  intro Z r h;simp [run] at h ⊢;split at h
  ·rename_i σ1 h1;rw [ihp _ _ h1];simp only;split at h
   ·split at h
    ·rename_i hs;obtain ⟨e,_⟩:=SE hs;rw [iha _ _ (e.trans h),ihb _ _ h];rw [e,h] at hs;simp [hs]
    ·cases h
   ·split at h
    ·split at h
     ·rename_i σ2 h2;rw [iha _ _ h2];exact ihb _ _ h
     ·rename_i hne;obtain ⟨ex,σ2⟩:=r;rw [iha _ _ h];cases ex with
      | normal=>exact absurd h (hne _)
      | exit j=>rfl
      | ret=>rfl
    ·exact ihb _ _ h
    ·cases h
  ·rename_i hne;obtain ⟨ex,σ1⟩:=r;rw [ihp _ _ h];cases ex with
   | normal=>exact absurd h (hne _)
   | exit j=>rfl
   | ret=>rfl
 | cond s a b iha ihb=>
  intro Z r h;simp [run] at h ⊢;split at h
  ·split at h
   ·rename_i hs;have e:=Sd hs;rw [iha _ _ (e.trans h),ihb _ _ h];rw [e,h] at hs;simp [hs]
   ·cases h
  ·rename_i hne;split at h
   ·rename_i t ht;cases t with
    | true=>simp at h ⊢; exact iha _ _ h
    | false=>simp at h ⊢; exact ihb _ _ h
   ·cases h
 | block id a ih=>
  intro Z r h;simp [run] at h ⊢;cases ha:run (λ_ _ _=>none) nb L a Z with
  | none=>rw [ha] at h; cases h
  | some q=>rw [ha] at h; rw [ih _ _ ha]; exact h
 | loop kt kb a ih=>
  intro Z r h;simp only [run] at h ⊢;have key:∀ (n:Nat) (Z:St),qx (run (λ_ _ _=>none) nb L a) (f4 nb kt kb) n Z=some r->qx (run cb nb L a) (f4 nb kt kb) n Z=some r:=by
   intro n
   induction n with
   | zero=>intro Z h; cases h
   | succ n ihn=>
    intro Z h;simp [qx] at h ⊢;cases ha:run (λ_ _ _=>none) nb L a (f4 nb kt kb Z) with
    | none=>rw [ha] at h; cases h
    | some q=>
     obtain ⟨ex,σ1⟩:=q;rw [ha] at h;rw [ih _ _ ha];cases ex with
     | normal=>exact ihn _ h
     | exit j=>exact h
     | ret=>exact h
  exact key L Z h
 | mask kt kb=>intro Z r h; exact h
 | exit id=>intro Z r h; exact h
 | ret=>intro Z r h; exact h
theorem zjD(hc:za c cb):∀ (cc:CC) (Z:St) (K:KT Y),cz sh c nb L cc Z K=some r->∃ ex σ',run cb nb L cc Z=some (ex,σ')/\K ex σ'=some r:=by
 intro cc
 induction cc with
 | skip=>intro Z K h; exact ⟨_,_,rfl,h⟩
 | bw ops=>
  intro Z K h;obtain ⟨σ',e,h⟩:=Re hc h
  grind [run]
 | bu fz ops=>
  intro Z K h;obtain ⟨σ',e,h⟩:=X2 hc (tz nb fz Z _ h)
  grind [run]
 | seq a b iha ihb=>
  intro Z K h;obtain ⟨ex,σ1,e,h⟩:=iha _ _ h;cases ex with
  | normal=>
   obtain ⟨ex,σ2,e2,h⟩:=ihb _ _ h
   grind [run]
  | exit j=>exact ⟨_,_,by simp [run,e],h⟩
  | ret=>exact ⟨_,_,by simp [run,e],h⟩
 | fork p s a b ihp iha ihb=>
  intro Z K h;obtain ⟨ex,σ1,e,h⟩:=ihp _ _ h;cases ex with
  | exit j=>exact ⟨_,_,by simp [run,e],h⟩
  | ret=>exact ⟨_,_,by simp [run,e],h⟩
  | normal=>
   simp [dN] at h;split at h
   ·grind [onR,run,zfk,SE]
   ·rename_i hne;obtain ⟨t,et,h⟩:=Ox h;rcases wU h with ⟨rfl,h⟩ | ⟨rfl,h⟩
    ·obtain ⟨ex,σ2,e1,h⟩:=iha _ _ h;cases ex with
     | normal=>
      obtain ⟨ex,σ3,e2,h⟩:=ihb _ _ h;exact ⟨ex,σ3,by simp [run,e,et,V.bool?,e1]; exact e2,h⟩
     | exit j=>exact ⟨_,_,by simp [run,e,et,V.bool?,e1],h⟩
     | ret=>exact ⟨_,_,by simp [run,e,et,V.bool?,e1],h⟩
    ·obtain ⟨ex,σ2,e1,h⟩:=ihb _ _ h;exact ⟨ex,σ2,by simp [run,e,et,V.bool?]; exact e1,h⟩
 | cond s a b iha ihb=>
  intro Z K h;simp [cz] at h;split at h
  ·rename_i hub;split at h
   ·rename_i hsame;unfold onR at h
    grind [run,zfk]
   ·cases h
  ·rename_i hne;obtain ⟨t,e,h⟩:=Ox h;rcases wU h with ⟨rfl,h⟩ | ⟨rfl,h⟩
   ·obtain ⟨ex,σ1,e1,h⟩:=iha _ _ h;exact ⟨ex,σ1,by simp [run,e,V.bool?]; exact e1,h⟩
   ·obtain ⟨ex,σ1,e1,h⟩:=ihb _ _ h;exact ⟨ex,σ1,by simp [run,e,V.bool?]; exact e1,h⟩
 | block id a ih=>
  intro Z K h;obtain ⟨ex,σ1,e,h⟩:=ih _ _ h;cases ex with
  | normal=>exact ⟨_,_,by simp [run,e],h⟩
  | exit j=>
   simp [dk] at h;split at h
   ·rename_i hj;have hj:=Wao hj
    grind [run]
   ·rename_i hj;have:j≠id:=Nat.ne_of_beq_eq_false hj;exact ⟨_,_,by grind [run],h⟩
  | ret=>exact ⟨_,_,by simp [run,e],h⟩
 | loop kt kb a ih=>
  intro Z K h;obtain ⟨ex,σ',e,h⟩:=zak ih L Z K h;exact ⟨ex,σ',by simp [run]; exact e,h⟩
 | mask kt kb=>intro Z K h; exact ⟨_,_,rfl,h⟩
 | exit id=>intro Z K h; exact ⟨_,_,rfl,h⟩
 | ret=>intro Z K h; exact ⟨_,_,rfl,h⟩
theorem Uq{rv:RV}{k:V->Option Y}(h:Gv nb Z rv k=some r):∃ v,gH nb Z rv=some v/\k v=some r:=by
 cases rv with
 | aC t n p=>cases h
 | tmp t=>
  simp only [Gv] at h;split at h
  ·grind [ep,gH]
  ·grind [ep,JN,gH]
  ·grind
 | aH t=>
  grind [gH,Gv]
 | cell t agg n=>
  simp only [Gv] at h;split at h
  ·grind [w4,ep,JN,gH]
  ·cases h
theorem QW{Z:St}:∀ {rs:List RV} {k:List V->Option Y},SA nb Z rs k=some r->∃ vs,rs.mapM (gH nb Z)=some vs/\k vs=some r
 | [],k,h=>⟨[],rfl,h⟩
 | x::rs,k,h=>by
  obtain ⟨v,e,h⟩:=Uq h;obtain ⟨vs,e2,h⟩:=QW h
  simp_all
theorem zbS{k:V->Option Y}(h:MN nb Z rs k=some r):∃ v,results nb Z rs=some v/\k v=some r:=by
 unfold MN at h
 grind [QW,Uq,results]
theorem Gx{b:List B}{ids:List Nat}:∀ {l:List Nat} {k:Bor->Option Y},Me b nb ids l k=some r->∃ bor,zb b nb ids l=some bor/\k bor=some r
 | [],k,h=>⟨[],rfl,h⟩
 | id::l,k,h=>by
  simp only [Me] at h;split at h
  ·rename_i p cs hb;cases p with
   | true=>
    obtain ⟨bor,e,h⟩:=Gx (l:=l) h
    grind [B.isRow,B.lend,B.aa,zb]
   | false=>
    simp only at h;split at h
    ·rename_i hd;obtain ⟨hl,h⟩:=ep h;obtain ⟨bor,e,h⟩:=Gx (l:=l) h
     grind [B.lend,B.aa,zb]
    ·split at h
     ·rename_i m;obtain ⟨hl,h⟩:=ep h;obtain ⟨bor,e,h⟩:=Gx (l:=l) h
      grind [B.isRow,B.lend,B.aa,zb,kP]
     ·cases h
  ·rename_i es hb;obtain ⟨bor,e,h⟩:=Gx (l:=l) h
   grind [B.isRow,B.lend,B.aa,zb]
  ·rename_i n hb;split at h
   ·rename_i hd;obtain ⟨bor,e,h⟩:=Gx (l:=l) h
    grind [B.lend,B.aa,zb]
   ·cases h
  ·cases h
theorem zda{k:V->Bor->Option Y}(h:(match po Z.t.length rs Z with
  | some (Z,rs)=>MN nb Z rs λv=>Me Z.b nb (nZ Z.b nb v) (nZ Z.b nb v) λb=>match oJ (nZ Z.b nb v) with
   | true=>k (rP (fD (nZ Z.b nb v)) v) b
   | false=>none
  | none=>none)=some r):∃ v b,EE nb Z rs=some (v,b)/\k v b=some r:=by
 split at h;rotate_left
 ·cases h
 rename_i σ1 rs1 hu;obtain ⟨v,e1,h⟩:=zbS h;obtain ⟨b,e2,h⟩:=Gx h;split at h
 ·rename_i hd;refine ⟨_,b,?_,h⟩
  grind [EE,KD]
 ·cases h
theorem zcS{pr:CB}{d:Nat}(hc:za c (wR (evF T pr L d)))(hT:T f=some cf){bor:Bor}{k:V->Bor->Option Y}(h:dx sh c L cf args bor k=some r):∃ v b,evF T pr L (d+1) f args bor=some (v,b)/\k v b=some r:=by
 have h:Zu sh c L cf args bor k=some r:=by
  unfold dx at h;split at h
  ·rename_i sz es rest _;cases es with
   | nil=>exact h
   | cons a l=>exact h
  ·exact h
 obtain ⟨ex,σ',e,h⟩:=zjD hc _ _ _ h;cases ex with
 | exit j=>cases h
 | normal=>
  obtain ⟨v,b,e1,h⟩:=zda h
  grind [evF]
 | ret=>
  obtain ⟨v,b,e1,h⟩:=zda h
  grind [evF]
def FOk(T:Nat->Option CF)(L g:Nat)(d:∀ (Y:Type),List V->Bor->(V->Bor->Option Y)->Option Y)(D:Nat):Prop:=∀ n,D<=n->∀ (Y:Type) (args:List V) (bor:Bor) (k:V->Bor->Option Y) (r:Y),d Y args bor k=some r->∃ v b,wR (evF T C4 L n) g args bor=some (v,b)/\k v b=some r
theorem eF:za noC cb:=by
 intro Y f args bor k r h; cases h
theorem dw(hc:za c cb){d:∀ (Y:Type),List V->Bor->(V->Bor->Option Y)->Option Y}(hd:∀ (Y:Type) (args:List V) (bor:Bor) (k:V->Bor->Option Y) (r:Y),d Y args bor k=some r->∃ v b,cb g args bor=some (v,b)/\k v b=some r):za (eL g d c) cb:=by
 intro Y f args bor k r h;unfold eL at h;split at h
 ·simp_all
 ·exact hc _ _ _ _ _ _ h
theorem ziy(hg:frN g=false)(args:List V)(bor:Bor):wR cb g args bor=cb g args bor:=by
 unfold wR; rw [hg]
theorem eM(hT:T g=some cf){d:∀ (Y:Type),List V->Bor->(V->Bor->Option Y)->Option Y}{D:Nat}
  (h:∀ m,D<=m->∃ (sh:Nat->Sh) (c:CBC),za c (wR (evF T C4 L m))/\∀ (Y:Type) (args:List V) (bor:Bor) (k:V->Bor->Option Y) (r:Y),d Y args bor k=some r->dx sh c L cf args bor k=some r) (hg:frN g=false:=by rfl):FOk T L g d (D+1):=by
 intro n hn Y args bor k r hr;obtain ⟨m,rfl⟩:∃ m,n=m+1:=⟨n-1,by omega⟩;obtain ⟨sh,c,hc,hd⟩:=h m (by omega);rw [ziy hg];exact zcS hc hT (hd _ _ _ _ _ hr)
abbrev Dk:=∀ (Y:Type),List V->Bor->(V->Bor->Option Y)->Option Y
variable {X:Dk}
def d0(f:∀ (Y:Type),(V->Bor->Option Y)->Option Y):Dk:=λY a b k=>(λ(_:Nat->Nat)=>match a with
 | []=>(match b with
  | []=>f Y k
  | _::_=>none)
 | _::_=>none) W1
def dA{α:Type}(acc:∀ (Y:Type),V->(α->Option Y)->Option Y)(f:α->Dk):Dk:=λY a b k=>(λ(_:Nat->Nat)=>match a with
 | v::r=>acc Y v (λp=>f p Y r b k)
 | []=>none) W1
def DK(d X:Dk):Prop:=∀ Y args bor k r,d Y args bor k=some r->X Y args bor k=some r
theorem zbu{f:∀ (Y:Type),(V->Bor->Option Y)->Option Y}{a:List V}{b:Bor}{k:V->Bor->Option Y}{r:Y}(e:d0 f Y a b k=some r):a=[]/\b=[]/\f Y k=some r:=by
 cases a with
 | cons v a=>have e:none=some r:=e; cases e
 | nil=>cases b with
  | cons v b=>have e:none=some r:=e; cases e
  | nil=>exact ⟨rfl,rfl,e⟩
theorem fS{f:∀ (Y:Type),(V->Bor->Option Y)->Option Y}(h:∀ Y k,X Y [] [] k=f Y k):DK (d0 f) X:=by
 intro Y a b k r e
 grind [zbu]
def Gr{α:Type}(acc:∀ (Y:Type),V->(α->Option Y)->Option Y)(mk:α->V):Prop:=∀ Y v k r,acc Y v k=some r->∃ p,v=mk p/\k p=some r
theorem dy{α:Type}{acc:∀ (Y:Type),V->(α->Option Y)->Option Y}{mk:α->V}(hi:Gr acc mk){f:α->Dk}(h:∀ p,DK (f p) (λY a b k=>X Y (mk p::a) b k)):DK (dA acc f) X:=by
 intro Y a b k r e;cases a with
 | nil=>have e:none=some r:=e; cases e
 | cons v a=>
  have e:acc Y v (λp=>f p Y a b k)=some r:=e;obtain ⟨p,rfl,e2⟩:=hi _ _ _ _ e;exact h p _ _ _ _ _ e2
theorem zjI{X:Nat->Dk}{c:Nat}(e:∀ (Y:Type) (n:Nat) (k:V->Bor->Option Y),X (n+c) Y [] [] k=k v [])(L:Nat):DK (d0 λ_ k=>chk (c<=L) (k v [])) (X L):=by
 refine λY args bor k r h=>?_;obtain ⟨rfl,rfl,h2⟩:=zbu h;rw [qh] at h2;split at h2
 ·rename_i hc;obtain ⟨n,rfl⟩:∃ n,L=n+c:=⟨L-c,by omega⟩;rw [e]; exact h2
 ·cases h2
abbrev AI(kd:IntKind)(Y:Type)(v:V)(k:Int->Option Y):Option Y:=aI kd v k
abbrev AL(sz:Nat)(Y:Type)(v:V)(k:Ls->Option Y):Option Y:=aL sz v k
abbrev AGs(sz:Nat)(Y:Type)(v:V)(k:Ls->Option Y):Option Y:=aGs sz v k
abbrev AG(Y:Type)(v:V)(k:List V->Option Y):Option Y:=aG v k
theorem gX:Gr (AI kd) (λn=>.sc (.int kd n)):=λ_ _ _ _ h=>rc h
theorem ji:Gr (AL sz) (λn=>.sl sz n):=λ_ _ _ _ h=>H5 h
theorem zf6:Gr (AGs sz) (λn=>.gs sz n):=λ_ _ _ _ h=>zjX h
theorem fT:Gr AG (λn=>.agg n):=λ_ _ _ _ h=>zbk h
theorem DR(kd:IntKind)(n:Int)(k:Int->Option Y):aI kd (.sc (.int kd n)) k=k n:=by show chk (kd=kd) (k n)=k n; rw [qh,if_pos rfl]
theorem zlU(sz:Nat)(l:Ls)(k:Ls->Option Y):aL sz (.sl sz l) k=k l:=by show chk (sz=sz) (k l)=k l; rw [qh,if_pos rfl]
theorem zee(l:List V)(k:List V->Option Y):aG (.agg l) k=k l:=rfl
end
end
section
variable {p:Prop}{cs c:List V}{off sz:Nat}{n:Int}{es:Ls}{k:IntKind}
section
variable {Y:Type}
theorem cM{α:Type}(a:α)(k:α->Option Y):lt a k=k a:=Eq.trans rfl rfl
theorem bQ{inst:Decidable p}(h:p)(k:Option Y):@chk Y p inst k=k:=(qh p k).trans (if_pos h)
theorem I7{inst:Decidable True}(k:Option Y):@chk Y True inst k=k:=(qh True k).trans (if_pos trivial)
theorem ii(a b:Option Y):ifb true a b=a:=rfl
theorem eI(a b:Option Y):ifb false a b=b:=rfl
theorem zcU{inst:Decidable p}(a b:Option Y):ifb (@decide p inst) a b=if p then a else b:=by
 grind [ifb]
theorem cY{inst:Decidable p}(h:p)(a b:Option Y):ifb (@decide p inst) a b=a:=by rw [zcU,if_pos h]
theorem di{inst:Decidable p}(h:¬ p)(a b:Option Y):ifb (@decide p inst) a b=b:=by rw [zcU,if_neg h]
theorem eW{x y:Int}(h:x=y)(a b:Option Y):ifb (x==y) a b=a:=by subst h; simp [ifb]
theorem dT{x y:Int}(h:x≠y)(a b:Option Y):ifb (x==y) a b=b:=by rw [beq_eq_false_iff_ne.2 h]; rfl
theorem dg{kd:IntKind}(h:cs[off]?=some (.sc (.int kd n)))(k:Int->Option Y):cI kd cs off k=k n:=by
 simp [cI,pf,h,aI,I7]
theorem PU{b:Bool}(h:cs[off]?=some (.sc (.bool b)))(k:Bool->Option Y):cB cs off k=k b:=by
 simp [cB,pf,h,aB]
theorem uD(h:cs[off]?=some (.sl sz es))(k:Ls->Option Y):cL sz cs off k=k es:=by
 simp [cL,pf,h,aL,I7]
theorem jZ(h:cs[off]?=some (.sl sz es))(k:Ls->Option Y):cLd sz cs off k=k es:=by
 simp [cLd,pf,h,aLd,I7]
theorem zW{j:Int}(h0:0<=j)(h:es[j.toNat]?=some c)(k:List V->Option Y):idx es j k=k c:=by
 simp [idx,h0,h,I7]
theorem fj{j:Nat}(h:es[j]?=some c)(k:List V->Option Y):idx es (j:Int) k=k c:=
 zW (Int.natCast_nonneg j) (by simpa using h) k
end
theorem lp(h1:-9223372036854775808<=n)(h2:n<=9223372036854775807):Wbf .i64 n=n:=IntWalk.i64_in _ ⟨h1,h2⟩
theorem zkJ(hk:k.signed=false)(h1:0<=n)(h2:n<2 ^ k.bits):Wbf k n=n:=by
 unfold Wbf;simp [hk];exact Int.emod_eq_of_lt h1 h2
theorem RC(h1:0<=n)(h2:n<=18446744073709551615):Wbf .u64 n=n:=zkJ rfl h1 (Int.lt_of_le_of_lt h2 (by decide))
def eQ(k:IntKind)(l:List Int):Ls:=l.map λn=>[.sc (.int k n)]
theorem kL(k:IntKind)(l:List Int):(eQ k l).length=l.length:=by simp [eQ]
theorem zaT(k:IntKind){l:List Int}{i:Nat}(h:i<l.length):(eQ k l)[i]?=some [.sc (.int k l[i])]:=by simp [eQ]
theorem Lp(k:IntKind)(l m:List Int):eQ k l++eQ k m=eQ k (l++m):=by simp [eQ]
theorem HasRow.bL{e:List V}(h:HasRow [.int k] e):∃ n,e=[.sc (.int k n)]/\(Lit.int k n).wf=true:=by
 obtain ⟨h1,h2⟩:=h
 match e,h1 with
 | [v],_=>
  obtain ⟨n,rfl,hn⟩:=(h2 0 v _ rfl rfl).bI;exact ⟨n,rfl,hn⟩
theorem zb1{k:IntKind}:∀ {es:Ls},(∀ e∈es,HasRow [.int k] e)->∃ l:List Int,es=eQ k l/\∀ n∈l,(Lit.int k n).wf=true
 | [],_=>⟨[],rfl,by simp⟩
 | e::es,h=>by
  obtain ⟨n,rfl,hn⟩:=(h e (by simp)).bL;obtain ⟨l,rfl,hl⟩:=zb1 (es:=es) (λx hx=>h x (by simp [hx]));exact ⟨n::l,rfl,by simpa [hn] using hl⟩
def row(k:IntKind)(l:List Int):List V:=l.map λn=>.sc (.int k n)
theorem iQ(k:IntKind)(l:List Int):(row k l).length=l.length:=by simp [row]
theorem TS(k:IntKind):∀ (n:Nat) (l:List Int),n<=l.length->bY 1 n (row k l)=eQ k (l.take n)
 | 0,l,_=>by simp [bY,eQ]
 | n+1,[],h=>by simp at h
 | n+1,x::l,h=>by
  have:=TS k n l (by simpa using h)
  grind [bY,eQ,row]
end
section
variable {cs e:List V}{off sz i:Nat}{es:Ls}{Y:Type}
theorem mc{new:List V}(h:new.length=cs.length):cq cs 0 new=new:=by
 simp [cq,h]
theorem Jd{new:List V}(h:off+new.length<=cs.length):(cq cs off new).length=cs.length:=by
 simp [cq]; omega
theorem Pc{v:V}(h:off<cs.length):cq cs off [v]=cs.set off v:=by
 simp only [cq,List.length_singleton];rw [List.set_eq_take_append_cons_drop,if_pos h];simp
theorem DQ{sz:Nat}:∀ {es:Ls},(∀ e∈es,e.length=sz)->bY sz es.length es.flatten=es
 | [],_=>rfl
 | e::es,h=>by
  have he:=h e (by simp);have:=DQ (es:=es) (λx hx=>h x (by simp [hx]))
  grind [bY]
theorem LV(h:∀ e∈es,e.length=sz):es.flatten.length=es.length*sz:=gY h
theorem SB(hs:0<sz)(h:∀ e∈es,e.length=sz){j:Nat}(hj:j<sz)(he:es[i]?=some e):es.flatten[i*sz+j]?=e[j]?:=by
 rw [GK es h hs];have e1:(i*sz+j) / sz=i:=by rw [Wcb,Nat.mul_add_div hs,Nat.div_eq_of_lt hj,Nat.add_zero]
 have e2:(i*sz+j) % sz=j:=by rw [Wcb,Nat.mul_add_mod,Nat.mod_eq_of_lt hj]
 rw [e1,e2,he]; rfl
theorem OZ{sz:Nat}:∀ {es:Ls},(∀ e∈es,e.length=sz)->∀ (i:Nat),es.flatten.drop (i*sz)=(es.drop i).flatten
 | [],_,i=>by simp
 | e::es,h,0=>by simp
 | e::es,h,i+1=>by
  have he:=h e (by simp);have:=OZ (es:=es) (λx hx=>h x (by simp [hx])) i;have e1:(e++es.flatten).drop sz=es.flatten:=by grind
  rw [WaF,List.drop_succ_cons,<- this,show (i+1)*sz=sz+i*sz by rw [Nat.add_mul]; omega,<- List.drop_drop,e1]
theorem Ot{n:Nat}(h:∀ e∈es,e.length=sz)(hn:n<=sz)(he:es[i]?=some e):(es.flatten.drop (i*sz)).take n=e.take n:=by
 rw [OZ h];obtain ⟨hi,rfl⟩:=Wam.1 he;rw [List.drop_eq_getElem_cons hi,WaF,List.take_append_of_le_length (by grind)]
theorem Dr(hs:0<sz)(h:∀ e∈es,e.length=sz){j:Nat}(hj:j<sz)(he:es[i]?=some e)(v:V):cq es.flatten (i*sz+j) [v]=(es.set i (e.set j v)).flatten:=by
 obtain ⟨hi,rfl⟩:=Wam.1 he;have hlt:i*sz+j<es.flatten.length:=by
  rw [LV h];have:(i+1)*sz<=es.length*sz:=Nat.mul_le_mul_right _ hi
  grind
 rw [Pc hlt];have h':∀ x∈es.set i (es[i].set j v),x.length=sz:=by
  grind
 apply Wby;intro q;rw [List.getElem?_set,GK _ h' hs,GK _ h hs,List.getElem?_set];have hm:=Nat.mod_lt q hs;have hd:=Nat.div_add_mod q sz;rw [Wcb] at hd;by_cases hq:i*sz+j=q
 ·have e1:q / sz=i:=by rw [<- hq,Wcb,Nat.mul_add_div hs,Nat.div_eq_of_lt hj,Nat.add_zero]
  have e2:q % sz=j:=by grind
  rw [if_pos hq,if_pos hlt,if_pos e1.symm,if_pos hi,e2];simp [h _ (List.getElem_mem hi),hj]
 ·rw [if_neg hq];by_cases e1:i=q / sz
  ·have e2:j≠q % sz:=by grind
   rw [if_pos e1,if_pos hi];simp only [Wbz];rw [List.getElem?_set_ne e2,<- e1,List.getElem?_eq_getElem hi];rfl
  ·rw [if_neg e1]
theorem HY(k:IntKind):∀ (l m:List Int),l.length=m.length->j5 (row k l) (row k m)=some (decide (l=m))
 | [],[],_=>rfl
 | x::l,y::m,h=>by
  have:=HY k l m (by simpa using h);simp [row] at this;simp only [row,List.map_cons,j5,if_true,this,Option.map_some];congr 1
  grind
theorem zaz{p:Prop}{inst:Decidable p}(a b:Option Y):ifb (!(@decide p inst)) a b=if p then b else a:=by
 grind [ifb]
theorem ip(x y:Int)(a b:Option Y):ifb (x != y) a b=if x=y then b else a:=by
 grind [ifb]
end
section
variable {α:Type}{i:Nat}
theorem ML{sz:Nat}:∀ {es:Ls},(∀ e∈es,e.length=sz)->∀ (i:Nat),es.flatten.take (i*sz)=(es.take i).flatten
 | [],_,i=>by simp
 | e::es,h,0=>by simp
 | e::es,h,i+1=>by
  have he:=h e (by simp);have:=ML (es:=es) (λx hx=>h x (by simp [hx])) i;rw [WaF,Wcc,WaF,<- this,show (i+1)*sz=sz+i*sz by rw [Nat.add_mul]; omega,<- he,List.take_append,List.take_of_length_le (by omega)];congr 2; omega
def gF{α:Type}(p:α->Bool):List α->Nat->Int
 | [],_=>-1
 | x::l,i=>if p x=true then (i:Int) else gF p l (i+1)
theorem qW{α:Type}(p:α->Bool):∀ (l:List α) (a:Nat),(gF p l a=-1/\∀ x∈l,p x=false)∨∃ (i:Nat),∃ h:i<l.length,gF p l a=((a+i:Nat):Int)/\(∀ x∈l.take i,p x=false)/\p l[i]=true
 | [],a=>.inl ⟨rfl,by simp⟩
 | x::l,a=>by
  by_cases hx:p x=true
  ·grind [gF]
  ·have hx':p x=false:=by simpa using hx
   rcases qW p l (a+1) with ⟨h1,h2⟩ | ⟨i,hi,h1,h2,h3⟩
   ·refine .inl ⟨by simp [gF,hx',h1],?_⟩;intro y hy;rcases List.mem_cons.1 hy with rfl | hy
    ·exact hx'
    ·exact h2 y hy
   ·refine .inr ⟨i+1,by simpa using hi,?_,?_,by simpa using h3⟩
    ·simp only [gF,hx',h1]; simp; omega
    ·intro y hy;simp only [Wcc,List.mem_cons] at hy;rcases hy with rfl | hy
     ·exact hx'
     ·exact h2 y hy
theorem Mb{l:List α}(h:i<l.length)(x:α):(l.set i x).take (i+1)=l.take i++[x]:=by
 rw [List.take_add_one,List.take_set_of_le (Nat.le_refl _)];simp [h]
theorem Hv{l:List α}{k:Nat}(h:i<k)(x:α):(l.set i x).drop k=l.drop k:=List.drop_set_of_lt h
theorem zeN(h:i<=1000000000):Wbf .i64 ((i:Int)+1)=((i+1:Nat):Int):=by
 grind [lp]
end
section
structure Lin where
 c:Int
 t:List (Nat × Int)
 deriving Inhabited
def nn(a:Int):Bool:=match a with
 | .ofNat _=>true
 | .negSucc _=>false
def isZ(a:Int):Bool:=match a with
 | .ofNat n=>Wae n 0
 | .negSucc _=>false
def leI(a b:Int):Bool:=match a,b with
 | .ofNat m,.ofNat n=>WbY m n
 | .negSucc _,.ofNat _=>true
 | .ofNat _,.negSucc _=>false
 | .negSucc m,.negSucc n=>WbY n m
def eqI(a b:Int):Bool:=match a,b with
 | .ofNat m,.ofNat n=>Wae m n
 | .negSucc m,.negSucc n=>Wae m n
 | _,_=>false
def m9(a b:Int):Int:=match leI a b with | true=>a | false=>b
def qE(a b:Int):Int:=match leI a b with | true=>b | false=>a
def XM(s:Nat)(a:Int):List (Nat × Int)->List (Nat × Int)
 | []=>[(s,a)]
 | p::l=>match Wca s p.1 with
  | true=>(s,a)::p::l
  | false=>match Wae s p.1 with
   | true=>match isZ (a+p.2) with
    | true=>l
    | false=>(s,a+p.2)::l
   | false=>p::XM s a l
def PE:List (Nat × Int)->List (Nat × Int)->List (Nat × Int)
 | [],m=>m
 | p::l,m=>XM p.1 p.2 (PE l m)
def PP(n:Int):List (Nat × Int)->List (Nat × Int)
 | []=>[]
 | p::l=>(p.1,n*p.2)::PP n l
def Lin.lit(n:Int):Lin:=⟨n,[]⟩
def Lin.sy(s:Nat):Lin:=⟨0,[(s,1)]⟩
def Lin.add(a b:Lin):Lin:=⟨a.c+b.c,PE a.t b.t⟩
def Lin.mul(n:Int)(a:Lin):Lin:=match isZ n with
 | true=>⟨0,[]⟩
 | false=>⟨n*a.c,PP n a.t⟩
def Lin.neg(a:Lin):Lin:=a.mul (-1)
def Lin.sub(a b:Lin):Lin:=a.add b.neg
def Lin.aw(a:Lin)(n:Int):Lin:=⟨a.c+n,a.t⟩
def zeb:List (Nat × Int)->List (Nat × Int)->Bool
 | [],[]=>true
 | p::l,q::m=>Wae p.1 q.1&&(eqI p.2 q.2&&zeb l m)
 | _,_=>false
def Lin.eq(a b:Lin):Bool:=eqI a.c b.c&&zeb a.t b.t
def Lin.lit?(a:Lin):Option Int:=match a.t with
 | []=>some a.c
 | _=>none
abbrev IV:=List (Int × Int)
def ubT(iv:IV):List (Nat × Int)->Option Int
 | []=>some 0
 | p::l=>match iv[p.1]?,ubT iv l with
  | some q,some r=>some ((match nn p.2 with | true=>p.2*q.2 | false=>p.2*q.1)+r)
  | _,_=>none
def Lin.ub(iv:IV)(e:Lin):Option Int:=(ubT iv e.t).map (e.c+·)
def Lin.lb(iv:IV)(e:Lin):Option Int:=(e.neg.ub iv).map (- ·)
def lkT(s:Nat):List (Nat × Int)->Option Int
 | []=>none
 | p::l=>match Wae s p.1 with
  | true=>some p.2
  | false=>lkT s l
def Wq:List (Nat × Int)->List (Nat × Int)->Option Int
 | [],_=>none
 | p::l,m=>match lkT p.1 m with
  | some b=>match isZ b with
   | true=>Wq l m
   | false=>match isZ (p.2 % b)&&leI 1 (p.2 / b) with
    | true=>some (p.2 / b)
    | false=>Wq l m
  | none=>Wq l m
def leU(iv:IV)(e:Lin):Bool:=match e.ub iv with
 | some n=>leI n 0
 | none=>false
def zem{α:Type}(f:α->Bool):List α->Bool
 | []=>false
 | x::l=>match f x with
  | true=>true
  | false=>zem f l
def leZ(iv:IV)(fs:List Lin):Nat->Lin->Bool
 | 0,e=>leU iv e
 | n+1,e=>match leU iv e with
  | true=>true
  | false=>zem (λf=>match Wq e.t f.t with
   | some m=>match leI 0 m with
    | true=>leZ iv fs n (e.sub (f.mul m))
    | false=>false
   | none=>false) fs
inductive Cnd where
 | le (e:Lin)
 | eq (e:Lin)
 | ne (e:Lin)
 deriving Inhabited
def Cnd.not:Cnd->Cnd
 | .le e=>.le (e.neg.aw 1)
 | .eq e=>.ne e
 | .ne e=>.eq e
inductive A where
 | ex (v:V)
 | int (k:IntKind) (e:Lin)
 | iv (k:IntKind) (lo hi:Int)
 | cmp (c:Cnd)
 | bool
 | str
 | agg (cs:List A)
 | st (cs:List A)
 | ae (vs:List A)
 | ak (q sz:Nat) (n:Lin) (row:List A)
 | ai (q sz:Nat) (lo hi:Int) (row:List A)
 | am (q sz:Nat) (rows:List (List A))
 | fp (cs:List A)
 | ptr (id:Nat) (off:Lin)
 | own (id:Nat) (off len:Lin) (sz:Nat)
 | bx (p:Bool) (cs:List A)
 | any
 deriving Inhabited
inductive BB where
 | gone
 | live (p:Bool) (cs:List A)
 | fz (cs:List A)
 deriving Inhabited
structure SS where
 iv:IV
 fs:List Lin
 t:List A
 b:List BB
 deriving Inhabited
def pO:V->A
 | .sc (.int k n)=>.int k (.lit n)
 | .gs sz []=>.am 1 sz []
 | .sl sz []=>.am 0 sz []
 | v=>.ex v
def UK:V->A
 | .agg cs=>.agg (cs.map pO)
 | v=>pO v
def SS.src(s:SS):Src->A
 | .tmp t=>s.t.getD t (.ex .af)
 | .const v=>UK v
def SS.le(s:SS)(e:Lin):Bool:=leZ s.iv s.fs 3 e
def SS.dec(s:SS)(c:Cnd):Option Bool:=match c with
 | .le e=>match s.le e with
  | true=>some true
  | false=>match s.le (e.neg.aw 1) with
   | true=>some false
   | false=>none
 | .eq e=>match s.le e&&s.le e.neg with
  | true=>some true
  | false=>match s.le (e.aw 1)||s.le (e.neg.aw 1) with
   | true=>some false
   | false=>none
 | .ne e=>match s.le e&&s.le e.neg with
  | true=>some false
  | false=>match s.le (e.aw 1)||s.le (e.neg.aw 1) with
   | true=>some true
   | false=>none
def SS.fact(s:SS)(e:Lin):SS:=match e.t with
 | [(x,a)]=>match isZ (a-1) with
  | true=>match s.iv[x]? with
   | some q=>{ s with iv:=s.iv.set x (q.1,m9 q.2 (-e.c)) }
   | none=>{ s with fs:=e::s.fs }
  | false=>match isZ (a+1) with
   | true=>match s.iv[x]? with
    | some q=>{ s with iv:=s.iv.set x (qE q.1 e.c,q.2) }
    | none=>{ s with fs:=e::s.fs }
   | false=>{ s with fs:=e::s.fs }
 | _=>{ s with fs:=e::s.fs }
def SS.assume(s:SS)(d:Option Bool)(c:Cnd):Option SS:=match d with
 | some true=>some s
 | some false=>none
 | none=>match c with
  | .le e=>some (s.fact e)
  | .eq e=>some ((s.fact e).fact e.neg)
  | .ne e=>match s.le e,s.le e.neg with
   | true,_=>some (s.fact (e.aw 1))
   | _,true=>some (s.fact (e.neg.aw 1))
   | _,_=>some s
def SS.sym(s:SS)(lo hi:Int):SS:={ s with iv:=s.iv++[(lo,hi)] }
def SS.put(s:SS)(d:Option Nat)(a:A):SS:=match d with
 | some d=>{ s with t:=s.t.set d a }
 | none=>s
def A.ag:A->A
 | .ak q sz n row=>match q with | 0=>.ak 0 sz n row | 1=>.ak 0 sz n row | _=>.ex .af
 | .ai q sz lo hi row=>match q with | 0=>.ai 0 sz lo hi row | 1=>.ai 0 sz lo hi row | _=>.ex .af
 | .am q sz rows=>match q with | 0=>.am 0 sz rows | 1=>.am 0 sz rows | _=>.ex .af
 | .ae vs=>match vs with | []=>.ex (.ae []) | _=>.ex .af
 | .bx _ _=>.ex .af
 | .ex v=>.ex v.ag
 | a=>a
def A.tk:A->A
 | .ak q sz n row=>.ak q sz n row
 | .ai q sz lo hi row=>.ai q sz lo hi row
 | .am q sz rows=>.am q sz rows
 | .ex v=>.ex v.tk
 | a=>a.ag
def A.mv:A->A
 | .ae vs=>.ae vs
 | .ex v=>.ex v.mv
 | a=>a.tk
def A.plain:A->Option A
 | .ex v=>match v with | .sc v=>some (.ex (.sc v)) | _=>none
 | .ak q sz n row=>match q with | 0=>some (.ak 0 sz n row) | 1=>some (.ak 0 sz n row) | _=>none
 | .ai q sz lo hi row=>match q with | 0=>some (.ai 0 sz lo hi row) | 1=>some (.ai 0 sz lo hi row) | _=>none
 | .am q sz rows=>match q with | 0=>some (.am 0 sz rows) | 1=>some (.am 0 sz rows) | _=>none
 | .ae _ | .st _ | .bx _ _ | .fp _ | .ptr _ _ | .own _ _ _ _ | .any=>none
 | a=>some a
def A.aN:A->Option A
 | .own id off len sz=>some (.own id off len sz)
 | a=>a.plain
def qI{α Y:Type}(f:α->Option Y):List α->Option (List Y)
 | []=>some []
 | x::l=>match f x,qI f l with
  | some y,some m=>some (y::m)
  | _,_=>none
def A.cells:A->List A
 | .agg cs=>cs
 | a=>[a]
def pP{α:Type}(sz:Nat):Nat->List α->List (List α)
 | 0,_=>[]
 | n+1,cs=>cs.take sz::pP sz n (cs.drop sz)
def ui{α:Type}(cs:List α)(off:Nat)(new:List α):List α:=cs.take off++new++cs.drop (off+new.length)
def A.hard:A->Bool
 | .bx _ _ | .any=>true
 | .ak q _ _ _=>WbY 2 q
 | .ai q _ _ _ _=>WbY 2 q
 | .am q _ _=>WbY 2 q
 | .ex v=>v.isHard
 | _=>false
def A.held:A->Bool
 | .bx _ _ | .any=>true
 | .ak q _ _ _=>WbY 1 q
 | .ai q _ _ _ _=>WbY 1 q
 | .am q _ _=>WbY 1 q
 | .ex v=>v.bf
 | _=>false
def NF(iv:IV):A->Option (IntKind × Int × Int)
 | .int k e=>match e.lb iv,e.ub iv with
  | some l,some h=>some (k,l,h)
  | _,_=>none
 | .iv k l h=>some (k,l,h)
 | .ex (.sc (.int k n))=>some (k,n,n)
 | _=>none
def Aa:A->Bool
 | .cmp _ | .bool | .ex (.sc (.bool _))=>true
 | _=>false
def D9:A->Bool
 | .str | .ex (.sc (.string _))=>true
 | _=>false
def zd8:List Nat->List Nat->Bool
 | [],[]=>true
 | x::l,y::m=>Wae x y&&zd8 l m
 | _,_=>false
def zaw(s:ByteArray):List Nat:=s.data.toList.map UInt8.toNat
def Xh:V->V->Bool
 | .af,.af=>true
 | .ub,.ub=>true
 | .ae [],.ae []=>true
 | .sc (.bool a),.sc (.bool b)=>a==b
 | .sc (.int k a),.sc (.int k' b)=>decide (k=k')&&eqI a b
 | .fn f [],.fn g []=>Wae f g
 | .sc (.string a),.sc (.string b)=>zd8 (zaw a) (zaw b)
 | _,_=>false
def aJ(iv:IV):A->Option (Nat × Nat × Int × Int)
 | .ak q sz n _=>match n.lb iv,n.ub iv with
  | some l,some h=>some (q,sz,l,h)
  | _,_=>none
 | .ai q sz l h _=>some (q,sz,l,h)
 | .am q sz rows=>some (q,sz,(rows.length:Int),(rows.length:Int))
 | _=>none
def FC:A->Option Lin
 | .ak _ _ n _=>some n
 | .am _ _ rows=>some (.lit rows.length)
 | _=>none
def lh:A->List (List A)
 | .ak _ _ _ row=>[row]
 | .ai _ _ _ _ row=>[row]
 | .am _ _ rows=>rows
 | _=>[]
def DS:A->Option IntKind
 | .int k _=>some k
 | .iv k _ _=>some k
 | .ex (.sc (.int k _))=>some k
 | _=>none
abbrev Th:=List (Nat × Lin)
def GI(x:Nat):Th->Option Lin
 | []=>none
 | p::l=>match Wae x p.1 with
  | true=>some p.2
  | false=>GI x l
def sbT(N0:Nat)(th:Th):List (Nat × Int)->Option Lin
 | []=>some (.lit 0)
 | p::l=>match (match Wca p.1 N0 with | true=>some (Lin.sy p.1) | false=>GI p.1 th),sbT N0 th l with
  | some e,some r=>some ((e.mul p.2).add r)
  | _,_=>none
def Lin.sb(N0:Nat)(th:Th)(e:Lin):Option Lin:=(sbT N0 th e.t).map λr=>r.aw e.c
def lY{α Y:Type}(f:α->Y->Bool):List α->List Y->Bool
 | [],[]=>true
 | x::l,y::m=>f x y&&lY f l m
 | _,_=>false
def lm{α:Type}(f:α->Bool):List α->Bool
 | []=>true
 | x::l=>f x&&lm f l
def leA(N0:Nat)(s:SS)(th:Th):Nat->A->A->Bool
 | 0,_,_=>false
 | n+1,a,j=>match j with
  | .any=>true
  | .ex w=>match a with
   | .ex v=>Xh v w
   | _=>false
  | .int k e=>match a with
   | .int k' e'=>decide (k'=k)&&(match e.sb N0 th with | some f=>f.eq e'||(s.le (f.sub e')&&s.le (e'.sub f)) | none=>false)
   | .iv k' l h=>decide (k'=k)&&(eqI l h&&(match e.sb N0 th with | some f=>f.eq (.lit l) | none=>false))
   | .ex (.sc (.int k' m))=>decide (k'=k)&&(match e.sb N0 th with | some f=>f.eq (.lit m) | none=>false)
   | _=>false
  | .iv k lo hi=>match a with
   | .int k' e=>decide (k'=k)&&(s.le ((Lin.lit lo).sub e)&&s.le (e.aw (-hi)))
   | a=>match NF s.iv a with
    | some (k',l,h)=>decide (k'=k)&&(leI lo l&&leI h hi)
    | none=>false
  | .cmp _=>false
  | .bool=>Aa a
  | .str=>D9 a
  | .agg ds=>match a with
   | .agg cs=>lY (leA N0 s th n) cs ds
   | _=>false
  | .st ds=>match a with
   | .st cs=>lY (leA N0 s th n) cs ds
   | _=>false
  | .ae ds=>match a with
   | .ae cs=>lY (leA N0 s th n) cs ds
   | _=>false
  | .ak q sz m row=>match aJ s.iv a,FC a,m.sb N0 th with
   | some (q',sz',_,_),some e,some f=>Wae q' q&&(Wae sz' sz&&(f.eq e&&lm (λr=>lY (leA N0 s th n) r row) (lh a)))
   | _,_,_=>false
  | .ai q sz lo hi row=>match aJ s.iv a with
   | some (q',sz',l,h)=>Wae q' q&&(Wae sz' sz&&(leI lo l&&(leI h hi&&lm (λr=>lY (leA N0 s th n) r row) (lh a))))
   | none=>false
  | .am q sz rows=>match a with
   | .am q' sz' rs=>Wae q' q&&(Wae sz' sz&&lY (lY (leA N0 s th n)) rs rows)
   | _=>false
  | .fp ds=>match a with
   | .fp cs=>WbY ds.length cs.length&&lY (leA N0 s th n) (cs.take ds.length) ds
   | _=>false
  | .ptr id o=>match a with
   | .ptr id' o'=>Wae id' id&&(match o.sb N0 th with | some f=>f.eq o' | none=>false)
   | _=>false
  | .own id o m sz=>match a with
   | .own id' o' m' sz'=>Wae id' id&&(Wae sz' sz&&((match o.sb N0 th with | some f=>f.eq o' | none=>false)&&(match m.sb N0 th with | some f=>f.eq m' | none=>false)))
   | _=>false
  | .bx p ds=>match a with
   | .bx p' cs=>(p'==p)&&lY (leA N0 s th n) cs ds
   | _=>false
def zd0(N0:Nat)(s:SS)(th:Th)(a j:BB):Bool:=match a,j with
 | .gone,.gone=>true
 | .live p cs,.live p' ds=>(p==p')&&lY (leA N0 s th 12) cs ds
 | .fz cs,.fz ds=>lY (leA N0 s th 12) cs ds
 | _,_=>false
def qH:Nat->IV->A->IV->A->A
 | 0,_,_,_,_=>.any
 | n+1,e1,a,e2,b=>match NF e1 a,NF e2 b with
  | some (k,l,h),some (k',l',h')=>match decide (k=k') with
   | true=>match isZ (l-h)&&(eqI l l'&&eqI h h') with
    | true=>.int k (.lit l)
    | false=>.iv k (m9 l l') (qE h h')
   | false=>.any
  | _,_=>match Aa a&&Aa b with
   | true=>match a,b with
    | .ex v,.ex w=>match Xh v w with | true=>.ex v | false=>.bool
    | _,_=>.bool
   | false=>match D9 a&&D9 b with
    | true=>match a,b with
     | .ex v,.ex w=>match Xh v w with | true=>.ex v | false=>.str
     | _,_=>.str
    | false=>match a,b with
     | .ex v,.ex w=>match Xh v w with | true=>.ex v | false=>.any
     | .agg cs,.agg ds=>match Wae cs.length ds.length with
      | true=>.agg (WbZ (λx y=>qH n e1 x e2 y) cs ds)
      | false=>.any
     | .ae cs,.ae ds=>match Wae cs.length ds.length with
      | true=>.ae (WbZ (λx y=>qH n e1 x e2 y) cs ds)
      | false=>.any
     | .bx p cs,.bx p' ds=>match Wae cs.length ds.length&&(p==p') with
      | true=>.bx p (WbZ (λx y=>qH n e1 x e2 y) cs ds)
      | false=>.any
     | .fp cs,.fp ds=>.fp (WbZ (λx y=>qH n e1 x e2 y) cs ds)
     | .am q sz rs,.am q' sz' rs'=>match Wae q q'&&(Wae sz sz'&&Wae rs.length rs'.length) with
      | true=>.am q sz (WbZ (λx y=>WbZ (λx y=>qH n e1 x e2 y) x y) rs rs')
      | false=>match Wae q q'&&Wae sz sz' with
       | true=>.ai q sz (m9 rs.length rs'.length) (qE rs.length rs'.length) (match rs.map (λr=>(e1,r))++rs'.map (λr=>(e2,r)) with
        | []=>[]
        | r::l=>(l.foldl (λ(acc:IV × List A) r=>(e1,WbZ (λx y=>qH n acc.1 x r.1 y) acc.2 r.2)) (r.1,WbZ (λx y=>qH n r.1 x r.1 y) r.2 r.2)).2)
       | false=>.any
     | a,b=>match aJ e1 a,aJ e2 b with
      | some (q,sz,l,h),some (q',sz',l',h')=>match Wae q q'&&Wae sz sz' with
       | true=>.ai q sz (m9 l l') (qE h h') (match (lh a).map (λr=>(e1,r))++(lh b).map (λr=>(e2,r)) with
        | []=>[]
        | r::l=>(l.foldl (λ(acc:IV × List A) r=>(e1,WbZ (λx y=>qH n acc.1 x r.1 y) acc.2 r.2)) (r.1,WbZ (λx y=>qH n r.1 x r.1 y) r.2 r.2)).2)
       | false=>.any
      | _,_=>.any
def Kq(s:SS)(a:A):A:=qH 12 s.iv a s.iv a
def ubF(s:SS)(e:Lin):Option Int:=s.fs.foldl (λacc f=>match Wq e.t f.t with
 | some m=>match (match leI 0 m with | true=>(e.sub (f.mul m)).ub s.iv | false=>none),acc with
  | some h,some h'=>some (m9 h h')
  | some h,none=>some h
  | none,acc=>acc
 | none=>acc) (e.ub s.iv)
def lbF(s:SS)(e:Lin):Option Int:=(ubF s e.neg).map (- ·)
def ZP(s:SS)(a:A):A:=match a with
 | .int k e=>match e.t with
  | _::_::_=>match ubF s e,ubF s e.neg with
   | some h,some l=>.iv k (-l) h
   | _,_=>Kq s a
  | _=>Kq s a
 | a=>Kq s a
def uz(s:SS)(rs:List (List A)):List A:=match rs with
 | []=>[]
 | r::l=>l.foldl (λacc r=>WbZ (λx y=>qH 12 s.iv x s.iv y) acc r) (r.map (Kq s))
def wy(s:SS)(cs:List A):A:=match cs with
 | []=>.any
 | c::l=>l.foldl (λacc x=>qH 12 s.iv acc s.iv x) (Kq s c)
def SS.up(s:SS)(a j:A):Bool:=leA 0 s [] 12 a j
end
section
def SS.int(s:SS)(x:Src):Option (SS × IntKind × Lin):=match x with
 | .const v=>match v with
  | .sc (.int k n)=>some (s,k,.lit n)
  | _=>none
 | .tmp t=>match s.t[t]? with
  | some (.int k e)=>some (s,k,e)
  | some (.iv k lo hi)=>some ({ s.sym lo hi with t:=s.t.set t (.int k (.sy s.iv.length)) },k,.sy s.iv.length)
  | some (.ex (.sc (.int k n)))=>some (s,k,.lit n)
  | _=>none
def SS.name(s:SS)(x:Src):SS:=match x with
 | .const _=>s
 | .tmp t=>match s.t[t]? with
  | some (.iv k lo hi)=>{ s.sym lo hi with t:=s.t.set t (.int k (.sy s.iv.length)) }
  | some (.ai q sz lo hi row)=>match leI lo hi with
   | true=>{ s.sym lo hi with t:=s.t.set t (.ak q sz (.sy s.iv.length) row) }
   | false=>s
  | _=>s
def zif:IntKind->Bool
 | .i64 | .u32=>true
 | _=>false
def SS.nameC(s:SS)(id o:Nat):SS:=match s.b[id]? with
 | some (.live p cs)=>match cs[o]? with
  | some (.iv k lo hi)=>match zif k with
   | true=>{ s.sym lo hi with b:=s.b.set id (.live p (cs.set o (.int k (.sy s.iv.length)))) }
   | false=>s
  | some (.ai q sz lo hi row)=>match leI lo hi with
   | true=>{ s.sym lo hi with b:=s.b.set id (.live p (cs.set o (.ak q sz (.sy s.iv.length) row))) }
   | false=>s
  | _=>s
 | _=>s
def SS.ak(s:SS)(x:Src):Option (SS × A):=match x with
 | .const v=>some (s,UK v)
 | .tmp t=>match s.t[t]? with
  | some (.ai q sz lo hi row)=>match leI lo hi with
   | true=>some ({ s.sym lo hi with t:=s.t.set t (.ak q sz (.sy s.iv.length) row) },.ak q sz (.sy s.iv.length) row)
   | false=>none
  | some a=>some (s,a)
  | none=>none
def inK(s:SS)(k:IntKind)(e:Lin):Bool:=match e.lb s.iv,e.ub s.iv with
 | some l,some h=>leI k.min l&&leI h k.max
 | _,_=>false
def tP(k:IntKind):A:=.iv k k.min k.max
def Jf(s:SS)(k:IntKind)(e:Lin):A:=match inK s k e with
 | true=>.int k e
 | false=>tP k
def UV(n:Int):Int:=Int.ofNat (2 ^ (n.toNat.log2+1))-1
def ivK(k:IntKind)(l h:Int):A:=match leI k.min l&&leI h k.max with
 | true=>.iv k l h
 | false=>tP k
def N9(s:SS)(c:Cnd):A:=match s.dec c with
 | some b=>.ex (.sc (.bool b))
 | none=>.cmp c
def AU(s:SS)(op:BinOp)(k:IntKind)(a b:Lin)(la ha lb hb:Int):Option (SS × A):=match op with
 | .add=>some (s,Jf s k (a.add b))
 | .sub=>some (s,Jf s k (a.sub b))
 | .mul=>match a.lit?,b.lit? with
  | some n,_=>some (s,Jf s k (b.mul n))
  | _,some n=>some (s,Jf s k (a.mul n))
  | _,_=>match nn la&&nn lb with
   | true=>some (s,ivK k 0 (ha*hb))
   | false=>some (s,tP k)
 | .quo=>match leI 1 lb with
  | true=>match nn la with
   | true=>match b.lit? with
    | some c=>match leI ha k.max with
     | true=>
      let q:Lin:=.sy s.iv.length
      let s1:=s.sym 0 (ha / c)
      let fs:=(q.mul c).sub a::(a.sub (q.mul c)).aw (1-c)::s1.fs
      some ({ s1 with fs:=match leI 1 la&&leI 2 c with | true=>(q.sub a).aw 1::fs | false=>fs },.int k q)
     | false=>some (s,tP k)
    | none=>some (s,ivK k 0 ha)
   | false=>some (s,tP k)
  | false=>none
 | .rem=>match leI 1 lb with
  | true=>match nn la with
   | true=>match leI (ha+1) lb with
    | true=>some (s,.int k a)
    | false=>
     let r:Lin:=.sy s.iv.length
     let s1:=s.sym 0 (m9 ha (hb-1))
     some ({ s1 with fs:=(r.sub b).aw 1::s1.fs },.int k r)
   | false=>some (s,.iv k (1-hb) (hb-1))
  | false=>none
 | .and=>match nn la,nn lb with
  | true,true=>some (s,ivK k 0 (m9 ha hb))
  | _,_=>some (s,tP k)
 | .or | .xor=>match nn la&&nn lb with
  | true=>some (s,ivK k 0 (UV (qE ha hb)))
  | false=>some (s,tP k)
 | .andNot=>match nn la&&nn lb with
  | true=>some (s,ivK k 0 ha)
  | false=>some (s,tP k)
 | .eql=>some (s,N9 s (.eq (a.sub b)))
 | .neq=>some (s,N9 s (.ne (a.sub b)))
 | .lss=>some (s,N9 s (.le ((a.sub b).aw 1)))
 | .leq=>some (s,N9 s (.le (a.sub b)))
 | .gtr=>some (s,N9 s (.le ((b.sub a).aw 1)))
 | .geq=>some (s,N9 s (.le (b.sub a)))
 | _=>none
def V9(s:SS)(op:BinOp)(k:IntKind)(a b:Lin)(la ha lb hb:Int):Option (SS × A):=match nn lb with
 | false=>none
 | true=>match op with
  | .shl=>match nn la with
   | true=>some (s,ivK k 0 (ha*2 ^ (min hb.toNat k.bits)))
   | false=>some (s,tP k)
  | .shr=>match nn la with
   | true=>some (s,.iv k 0 (ha.fdiv (2 ^ (min lb.toNat k.bits))))
   | false=>some (s,.iv k la (qE ha 0))
  | _=>none
def zhQ:V->A
 | .sc (.int k n)=>.int k (.lit n)
 | v=>.ex v
def zho(s:SS)(op:BinOp)(x y:Src):Option (SS × A):=match s.int x with
 | some (s1,k,a)=>match s1.int y with
  | some (s2,k',b)=>match a.lit?,b.lit? with
   | some n,some m=>(g8 op (.int k n) (.int k' m)).map λv=>(s2,zhQ (.sc v))
   | _,_=>match lbF s2 a,ubF s2 a,lbF s2 b,ubF s2 b with
    | some la,some ha,some lb,some hb=>match op with
     | .shl=>V9 s2 .shl k a b la ha lb hb
     | .shr=>V9 s2 .shr k a b la ha lb hb
     | op=>match decide (k=k') with
      | true=>AU s2 op k a b la ha lb hb
      | false=>none
    | _,_,_,_=>none
  | none=>none
 | none=>match D9 (s.src x)&&D9 (s.src y) with
  | true=>match op with
   | .eql | .neq | .lss=>some (s,.bool)
   | _=>none
  | false=>none
def Iu(s:SS)(a:A):Option A:=match a with
 | .own id off len sz=>match off.lit?,len.lit? with
  | some o,some n=>match s.b[id]? with
   | some (.live true cs) | some (.fz cs)=>match nn o&&(nn n&&WbY (o.toNat+n.toNat*sz) cs.length) with
    | true=>some (.am 0 sz (pP sz n.toNat (cs.drop o.toNat)))
    | false=>none
   | _=>none
  | _,_=>match s.b[id]? with
   | some (.live true cs) | some (.fz cs)=>match Wae sz 1,len.lb s.iv,off.lb s.iv,(off.add len).ub s.iv with
    | true,some l,some o,some h=>match nn l&&(nn o&&(leI h cs.length&&lm (λc=>s.up c (wy s cs)) cs)) with
     | true=>some (.ak 0 1 len [wy s cs])
     | false=>none
    | _,_,_,_=>none
   | _=>none
 | .ak 1 sz n row=>some (.ak 0 sz n row)
 | .ai 1 sz l h row=>some (.ai 0 sz l h row)
 | .am 1 sz rows=>some (.am 0 sz rows)
 | .ex v=>match v with | .own _ _ _ _ | .gs _ _=>none | v=>some (.ex v)
 | .any=>none
 | a=>some a
def SS.btw(s:SS)(a b c:Lin):Bool:=s.le (a.sub b)&&s.le (b.sub c)
def SS.intO(s:SS)(x:Option Src)(d:Lin):Option (SS × Lin):=match x with
 | none=>some (s,d)
 | some x=>match s.int x with
  | some (s1,_,e)=>some (s1,e)
  | none=>none
def SS.bounds(s:SS)(n:Lin)(lo hi mx:Option Src):Option (SS × Lin × Lin × Lin):=match s.intO mx n with
 | none=>none
 | some (s1,m)=>match s1.intO hi n with
  | none=>none
  | some (s2,h)=>match s2.intO lo (.lit 0) with
   | none=>none
   | some (s3,l)=>match s3.btw (.lit 0) l h&&(s3.le (h.sub m)&&s3.le (m.sub n)) with
    | true=>some (s3,l,h,m)
    | false=>none
def Us(s:SS):List (Nat × Nat × Src)->List A->Option (List A)
 | [],cs=>some cs
 | (off,n,x)::rest,cs=>match (s.src x).plain with
  | some v=>match Wae v.cells.length n&&WbY (off+n) cs.length with
   | true=>Us s rest (ui cs off v.cells)
   | false=>none
  | none=>none
def VJ(s:SS):List (Nat × Nat × Src)->List A->Option (List A)
 | [],cs=>some cs
 | (off,n,x)::rest,cs=>match (s.src x).aN with
  | some v=>match Wae v.cells.length n&&WbY (off+n) cs.length with
   | true=>VJ s rest (ui cs off v.cells)
   | false=>none
  | none=>none
def IA:List A->List A->Bool
 | [],[]=>true
 | x::l,y::m=>(match DS x,DS y with | some k,some k'=>decide (k=k') | _,_=>false)&&IA l m
 | _,_=>false
def Uf(q sz:Nat)(a:A)(l h:Lin):Option A:=match a with
 | .am _ _ rows=>match l.lit?,h.lit? with
  | some l,some h=>some (.am q sz ((rows.drop l.toNat).take (h.toNat-l.toNat)))
  | _,_=>none
 | _=>none
def mf(s:SS):K->Option (SS × A)
 | .pick c a b=>match s.src c with
  | .ex (.sc (.bool t))=>some (s,match t with | true=>(s.src a).ag | false=>(s.src b).ag)
  | c=>match Aa c with
   | true=>
    let x:=(s.src a).ag; let y:=(s.src b).ag; let j:=qH 12 s.iv x s.iv y
    match s.up x j&&s.up y j with
    | true=>some (s,j)
    | false=>none
   | false=>none
 | .build zero parts=>(Us s parts (zero.map pO)).map λcs=>(s,.agg cs)
 | .az zero parts=>(VJ s parts (zero.map pO)).map λcs=>(s,.st cs)
 | .nilCheck x=>match s.src x with
  | .ptr id off=>some (s,.ptr id off)
  | .fp cs=>some (s,.fp cs)
  | _=>none
 | .bin op x y=>zho s op x y
 | .aW neg n x y=>match s.src x,s.src y with
  | .agg a,.agg b=>match Wae a.length n&&(Wae b.length n&&IA a b) with
   | true=>some (s,.bool)
   | false=>none
  | _,_=>none
 | .bH neg x y=>match s.src x,s.src y with
  | .ex (.sc (.bool a)),.ex (.sc (.bool b))=>some (s,.ex (.sc (.bool (match neg with | true=>!(a==b) | false=>(a==b)))))
  | a,b=>match Aa a&&Aa b with
   | true=>some (s,.bool)
   | false=>none
 | .un op x=>match op with
  | .not=>match s.src x with
   | .ex (.sc (.bool b))=>some (s,.ex (.sc (.bool !b)))
   | .cmp c=>some (s,.cmp c.not)
   | .bool=>some (s,.bool)
   | _=>none
  | .neg=>match s.int x with
   | some (s1,k,e)=>some (s1,Jf s1 k e.neg)
   | none=>none
  | .xor=>match DS (s.src x) with
   | some k=>match s.src x with
    | .int k e=>match e.lit? with
     | some n=>(JM .xor (.int k n)).map λv=>(s,zhQ (.sc v))
     | none=>some (s,tP k)
    | _=>some (s,tP k)
   | none=>none
  | _=>none
 | .conv k x=>match s.int x with
  | some (s1,_,e)=>match e.lit? with
   | some n=>some (s1,.int k (.lit (k.wrap n)))
   | none=>some (s1,Jf s1 k e)
  | none=>none
 | .toStr x=>match Iu s (s.src x) with
  | some a=>match aJ s.iv a with
   | some (q,sz,_,_)=>match Wae q 0&&(Wae sz 1&&lm (λr=>match r with | [c]=>(match DS c with | some .u8=>true | _=>false) | _=>false) (lh a)) with
    | true=>some (s,.str)
    | false=>none
   | none=>none
  | none=>none
 | .adc sub x y c=>match NF s.iv (s.src x),NF s.iv (s.src y),NF s.iv (s.src c) with
  | some (.u64,l1,h1),some (.u64,l2,h2),some (.u64,l,h)=>match (leI 0 l&&leI h 1)&&((leI 0 l1&&leI h1 18446744073709551615)&&(leI 0 l2&&leI h2 18446744073709551615)) with
   | true=>some (s,.ae [tP .u64,.iv .u64 0 1])
   | false=>none
  | _,_,_=>none
 | .ay n sz x lo hi mx=>match s.bounds (.lit n) lo hi mx with
  | some (s1,l,h,m)=>match s1.src x with
   | .ptr id off=>match off.lit?,s1.b[id]? with
    | some o,some (.live _ cs)=>match nn o&&WbY (o.toNat+n*sz) cs.length with
     | true=>match s1.le ((l.sub m).aw 1) with
      | true=>some (s1,.own id ((l.mul sz).aw o) (h.sub l) sz)
      | false=>match s1.le (m.sub l) with
       | true=>some (s1,.am 1 sz [])
       | false=>none
     | false=>none
    | some o,some (.fz cs)=>match l.lit?,h.lit?,m.lit? with
     | some l,some h,some m=>match nn o&&WbY (o.toNat+n*sz) cs.length with
      | true=>some (s1,match eqI m l with | true=>.am 1 sz [] | false=>.am 0 sz (pP sz (h.toNat-l.toNat) (cs.drop (o.toNat+l.toNat*sz))))
      | false=>none
     | _,_,_=>none
    | _,_=>none
   | .fp cs=>match l.lit?,h.lit? with
    | some l,some h=>match WbY (n*sz) cs.length with
     | true=>some (s1,.am 0 sz (pP sz (h.toNat-l.toNat) (cs.drop (l.toNat*sz))))
     | false=>none
    | _,_=>none
   | _=>none
  | none=>none
 | .aT sz x lo hi mx=>match s.ak x with
  | some (s0,a0)=>match a0.ag with
   | .own id off len sz'=>match Wae sz sz',mx with
    | true,none=>match s0.bounds len lo hi none with
     | some (s1,l,h,_)=>some (s1,.own id (off.add (l.mul sz)) (h.sub l) sz)
     | none=>none
    | _,_=>none
   | a=>match FC a,aJ s0.iv a with
    | some n,some (q,sz',_,_)=>match Wae q 0&&Wae sz sz' with
     | true=>match s0.bounds n lo hi mx with
      | some (s1,l,h,m)=>
       let r:A:=match Uf 0 sz a l h with | some p=>p | none=>.ak 0 sz (h.sub l) (uz s1 (lh a))
       match mx with
       | none=>match lm (λr'=>lY (leA 0 s1 [] 12) r' (uz s1 (lh a))) (lh a) with
        | true=>some (s1,r)
        | false=>none
       | some _=>match s1.le (m.sub l) with
        | true=>some (s1,.am 2 sz [])
        | false=>match s1.le ((l.sub m).aw 1)&&lm (λr'=>lY (leA 0 s1 [] 12) r' (uz s1 (lh a))) (lh a) with
         | true=>some (s1,r)
         | false=>none
      | none=>none
     | false=>none
    | _,_=>none
  | none=>none
 | .aD sz x hi mx=>match s.ak x with
  | some (s0,a0)=>match FC a0.ag,aJ s0.iv a0.ag,(match s0.int hi with | some (s1,_,h)=>(match s1.int mx with | some (s2,_,m)=>(match s2.le (h.sub m)&&s2.le (m.sub h) with | true=>some (s2,h) | false=>none) | none=>none) | none=>none) with
   | some n,some (q,sz',_,_),some (s1,h)=>match Wae q 0&&(Wae sz sz'&&(s1.btw (.lit 0) h n&&(D0&&lm (λr'=>lY (leA 0 s1 [] 12) r' (uz s1 (lh a0.ag))) (lh a0.ag)))) with
    | true=>some (s1,match Uf 1 sz a0.ag (.lit 0) h with | some p=>p | none=>.ak 1 sz h (uz s1 (lh a0.ag)))
    | false=>none
   | _,_,_=>none
  | none=>none
 | .fieldAddr o x=>match s.src x with
  | .ptr id off=>some (s,.ptr id (off.aw o))
  | .fp cs=>match WbY o cs.length with
   | true=>some (s,.fp (cs.drop o))
   | false=>none
  | _=>none
 | .field agg o n x=>match s.src x with
  | .agg cs=>match agg with
   | true=>some (s,.agg ((cs.drop o).take n))
   | false=>(cs[o]?).map λa=>(s,a)
  | _=>none
 | .al len sz x i=>match s.int i with
  | some (s1,_,j)=>match s1.btw (.lit 0) j (.lit (len-1)) with
   | true=>match s1.src x with
    | .ptr id off=>some (s1,.ptr id (off.add (j.mul sz)))
    | .fp cs=>match WbY (len*sz) cs.length,j.lit? with
     | true,some j=>some (s1,.fp (cs.drop (j.toNat*sz)))
     | true,none=>let r:=uz s1 (pP sz len cs)
      match lm (λr'=>lY (leA 0 s1 [] 12) r' r) (pP sz len cs) with
      | true=>some (s1,.fp r)
      | false=>none
     | _,_=>none
    | _=>none
   | false=>none
  | none=>none
 | .aj sz x i=>match s.ak x with
  | some (s0,a0)=>match s0.int i with
   | some (s1,_,j)=>match a0.ag with
    | .own id off len sz'=>match Wae sz sz'&&(s1.le j.neg&&s1.le ((j.sub len).aw 1)) with
     | true=>some (s1,.ptr id (off.add (j.mul sz)))
     | false=>none
    | a=>match FC a,aJ s1.iv a with
     | some n,some (q,sz',_,_)=>match Wae q 0&&(Wae sz sz'&&(s1.le j.neg&&s1.le ((j.sub n).aw 1))) with
      | true=>match a,j.lit? with
       | .am _ _ rows,some m=>match rows[m.toNat]? with
        | some r=>match WbY r.length sz with
         | true=>some (s1,.fp r)
         | false=>none
        | none=>none
       | a,_=>let r:=uz s1 (lh a)
        match WbY r.length sz&&lm (λr'=>lY (leA 0 s1 [] 12) r' r) (lh a) with
        | true=>some (s1,.fp r)
        | false=>none
      | false=>none
     | _,_=>none
   | none=>none
  | none=>none
 | .aR agg len sz x i=>match s.int i,s.src x with
  | some (s1,_,j),.agg cs=>match s1.btw (.lit 0) j (.lit (len-1)),j.lit? with
   | true,some m=>match agg with
    | true=>some (s1,.agg ((cs.drop (m.toNat*sz)).take sz))
    | false=>(cs[m.toNat*sz]?).map λa=>(s1,a)
   | true,none=>match agg,Wae sz 1&&WbY len cs.length with
    | false,true=>let h:=wy s1 (cs.take len)
     match lm (λc=>s1.up c h) (cs.take len) with
     | true=>some (s1,h)
     | false=>none
    | _,_=>none
   | _,_=>none
  | _,_=>none
 | .bi x=>match s.ak x with
  | some (s0,a0)=>match a0.ag with
   | .own _ _ len _=>some (s0,.int .i64 len)
   | a=>match FC a,aJ s0.iv a with
    | some n,some (q,_,_,_)=>match Wae q 0 with | true=>some (s0,.int .i64 n) | false=>none
    | _,_=>none
  | none=>none
 | .aJ n=>some (s,.int .i64 (.lit n))
 | .mm isMax x y=>match s.int x with
  | some (s1,k,a)=>match s1.int y with
   | some (s2,k',b)=>match a.lb s2.iv,a.ub s2.iv,b.lb s2.iv,b.ub s2.iv with
    | some la,some ha,some lb,some hb=>
     let r:Lin:=.sy s2.iv.length
     match isMax with
     | true=>let s3:=s2.sym (qE la lb) (qE ha hb); some ({ s3 with fs:=a.sub r::b.sub r::s3.fs },.int k r)
     | false=>let s3:=s2.sym (m9 la lb) (m9 ha hb); some ({ s3 with fs:=r.sub a::r.sub b::s3.fs },.int k r)
    | _,_,_,_=>none
   | none=>none
  | none=>none
 | .pull x i=>match s.src x with
  | .ae vs=>match vs[i]? with
   | some a=>match a.hard with
    | true=>none
    | false=>some (s,a.ag)
   | none=>none
  | _=>none
 | _=>none
def SS.ao(s:SS)(d:Option Nat)(x:BB)(a:Nat->A):Option SS:=match d with
 | some d=>match s.b[d]? with
  | some .gone=>some ({ s with b:=s.b.set d x }.put (some d) (a d))
  | _=>none
 | none=>none
def SS.ac(s:SS)(x:Src):SS:=match x with
 | .tmp t=>match s.t[t]? with
  | some a=>{ s with t:=s.t.set t a.ag }
  | none=>s
 | .const _=>s
def SS.aq(s:SS)(d:Option Nat)(ah:Bool)(sz:Nat)(a:A):Option SS:=match ah with
 | false=>match a with
  | .ak _ sz n row=>some (s.put d (.ak 1 sz n row))
  | .ai _ sz l h row=>some (s.put d (.ai 1 sz l h row))
  | .am _ sz rows=>some (s.put d (.am 1 sz rows))
  | _=>none
 | true=>match a with
  | .am _ _ rows=>s.ao d (.live true rows.flatten) (λid=>.own id (.lit 0) (.lit rows.length) sz)
  | _=>none
def Zt(s:SS)(bytes:Nat)(n:Lin):Bool:=match n.ub s.iv with
 | some h=>leI (h*bytes) cN&&leI h cN
 | none=>false
def ZG(s:SS)(cs:List A)(off:Lin)(new:List A):Option (List A):=match off.lit? with
 | some o=>match nn o&&WbY (o.toNat+new.length) cs.length with
  | true=>some (ui cs o.toNat new)
  | false=>none
 | none=>match new,off.lb s.iv,off.ub s.iv with
  | [v],some lo,some hi=>match nn lo&&leI (hi+1) cs.length with
   | true=>
    let seg:=(cs.drop lo.toNat).take (hi.toNat+1-lo.toNat)
    let seg2:=seg.map (λc=>qH 12 s.iv c s.iv v)
    match lY (s.up) seg seg2&&lm (λj=>s.up v j) seg2 with
    | true=>some (ui cs lo.toNat seg2)
    | false=>none
   | false=>none
  | _,_,_=>none
def SS.ab(s:SS)(id:Nat)(x:BB):SS:={ s with b:=s.b.set id x }
def SS.au(s:SS)(d:Option Nat)(ah:Bool)(a:A):Option SS:=match a with
 | .ak q sz n row=>match q with
  | 0=>some (s.put d (.ak 0 sz n row))
  | 1=>match ah with | true=>none | false=>some (s.put d (.ak 1 sz n row))
  | _=>s.aq d ah sz (.ak 2 sz n row)
 | .ai q sz l h row=>match q with
  | 0=>some (s.put d (.ai 0 sz l h row))
  | 1=>match ah with | true=>none | false=>some (s.put d (.ai 1 sz l h row))
  | _=>s.aq d ah sz (.ai 2 sz l h row)
 | .am q sz rows=>match q with
  | 0=>some (s.put d (.am 0 sz rows))
  | 1=>match ah with | true=>none | false=>some (s.put d (.am 1 sz rows))
  | _=>s.aq d ah sz (.am 2 sz rows)
 | .bx p cs=>s.ao d (.live p cs) (λid=>.ptr id (.lit 0))
 | .ex v=>match v with
  | .gs _ _ | .fr _ _ | .bx _ _=>none
  | v=>some (s.put d (.ex v))
 | .any=>none
 | a=>some (s.put d a)
def ER(s:SS)(x:Src × Nat):Option A:=match WbY 2 x.2 with
 | true=>none
 | false=>match Iu s (s.src x.1) with
  | some (.agg cs)=>some (.agg (match Wae (x.2 % 2) 1 with | true=>cs.map A.ag | false=>cs))
  | some (.fp cs)=>none
  | some (.ptr _ _)=>none
  | some a=>a.plain
  | none=>none
def zb3:A->Bool
 | .ae _ | .any=>false
 | .ex v=>Kt v
 | _=>true
def zii:A->Bool
 | .ex _ | .any=>true
 | _=>false
def JK:A->Option Nat
 | .own id _ _ _=>some id
 | _=>none
def CZ(s:SS):List (Src × Nat)->List BB->Option (List BB)
 | [],b=>some b
 | x::rest,b=>match JK (s.src x.1) with
  | some id=>match b[id]? with
   | some (.live true (c::cs))=>CZ s rest (b.set id (.fz (c::cs)))
   | some (.live true [])=>CZ s rest b
   | some (.fz cs)=>CZ s rest b
   | _=>none
  | none=>CZ s rest b
abbrev ACB:=Nat->List A->Option A
def Kj:A->Bool
 | .ptr _ _ | .own _ _ _ _ | .fp _ | .ae _ | .st _ | .any=>false
 | .ex v=>match v with | .sc _=>true | _=>false
 | _=>true
def zfH:A->Bool
 | .ae vs=>vs.all Kj
 | a=>Kj a
def SS.nameL(s:SS)(agg:Bool)(x:A):SS:=match agg with
 | true=>s
 | false=>match x with
  | .ptr id off=>match off.lit? with
   | some o=>s.nameC id o.toNat
   | none=>s
  | _=>s
def mI(cb:ACB)(s:SS)(d:Option Nat)(ah:Bool)(k:K):Option SS:=match k with
 | .move x take=>match ah with
  | true=>none
  | false=>match take with
   | true=>some (((s.name x).ac x).put d ((s.name x).src x).mv)
   | false=>some ((s.name x).put d ((s.name x).src x).ag)
 | .alloc p cs=>s.ao d (.live p (cs.map pO)) (λid=>.ptr id (.lit 0))
 | .box p x=>match s.src x with
  | .st cs=>match p with
   | true=>none
   | false=>s.ao d (.live false cs) (λid=>.ptr id (.lit 0))
  | x=>match x.plain with
  | some v=>s.ao d (.live p v.cells) (λid=>.ptr id (.lit 0))
  | none=>none
 | .buildSlice sz n zero parts=>match Us s parts (Wad n (zero.map pO)).flatten with
  | some cs=>match Wae n 0&&ah with
   | true=>some (s.put d (.am 2 sz []))
   | false=>s.aq d ah sz (.am 2 sz (pP sz n cs))
  | none=>none
 | .ofStr x=>match ah,s.src x with
  | false,.ex (.sc (.string str))=>some (s.put d (.am 0 1 (str.data.toList.map λb=>[.int .u8 (.lit b.toNat)])))
  | _,_=>none
 | .load agg n a take=>
  let s:=s.nameL agg (s.src a)
  match s.src a with
  | .ptr id off=>match s.b[id]? with
   | some (.live p cs)=>match agg with
    | true=>match off.lit? with
     | some o=>match nn o&&WbY (o.toNat+n) cs.length with
      | true=>match p with
       | true=>some (s.put d (.agg ((cs.drop o.toNat).take n)))
       | false=>match take with
        | true=>none
        | false=>(qI A.plain ((cs.drop o.toNat).take n)).map λvs=>s.put d (.agg vs)
      | false=>none
     | none=>none
    | false=>match off.lit? with
     | some o=>match nn o,cs[o.toNat]? with
      | true,some v=>match take with
       | true=>match p with
        | true=>none
        | false=>some ((s.ab id (.live p (cs.set o.toNat v.ag))).put d v.tk)
       | false=>some (s.put d v.ag)
      | _,_=>none
     | none=>match off.lb s.iv,off.ub s.iv with
      | some lo,some hi=>match nn lo&&(leI (hi+1) cs.length&&!take) with
       | true=>
        let seg:=(cs.drop lo.toNat).take (hi.toNat+1-lo.toNat)
        let h:=wy s seg
        match lm (λc=>s.up c h) seg with
        | true=>some (s.put d h.ag)
        | false=>none
       | false=>none
      | _,_=>none
   | some (.fz cs)=>match off.lit? with
    | some o=>match agg with
     | true=>match nn o&&WbY (o.toNat+n) cs.length with
      | true=>some (s.put d (.agg ((cs.drop o.toNat).take n)))
      | false=>none
     | false=>match nn o,cs[o.toNat]? with
      | true,some v=>some (s.put d v)
      | _,_=>none
    | none=>match agg,off.lb s.iv,off.ub s.iv with
     | false,some lo,some hi=>match nn lo&&leI (hi+1) cs.length with
      | true=>
       let seg:=(cs.drop lo.toNat).take (hi.toNat+1-lo.toNat)
       let h:=wy s seg
       match lm (λc=>s.up c h) seg with
       | true=>some (s.put d h)
       | false=>none
      | false=>none
     | _,_,_=>none
   | _=>none
  | .fp cs=>match agg with
   | true=>match WbY n cs.length with
    | true=>some (s.put d (.agg (cs.take n)))
    | false=>none
   | false=>match cs with
    | v::_=>some (s.put d v)
    | []=>none
  | _=>none
 | .store n a x=>match d with
  | some _=>none
  | none=>match s.src a with
   | .ptr id off=>match s.b[id]? with
    | some (.live true cs)=>match (s.src x).plain with
     | some v=>match Wae v.cells.length n with
      | true=>(ZG s cs off v.cells).map λcs'=>s.ab id (.live true cs')
      | false=>none
     | none=>none
    | some (.live false cs)=>match off.lit? with
     | some o=>match nn o with
      | true=>match s.src x with
       | .agg us=>match Wae us.length n&&WbY (o.toNat+n) cs.length with
        | true=>some (s.ab id (.live false (ui cs o.toNat us)))
        | false=>none
       | .st us=>match Wae us.length n&&WbY (o.toNat+n) cs.length with
        | true=>some (s.ab id (.live false (ui cs o.toNat us)))
        | false=>none
       | .ae _ | .bx _ _ | .any=>none
       | .ex v=>match v with
        | .sc _=>match Wae n 1&&Wca o.toNat cs.length with
         | true=>some ((s.ac x).ab id (.live false (cs.set o.toNat (.ex v))))
         | false=>none
        | _=>none
       | v=>match Wae n 1&&Wca o.toNat cs.length with
        | true=>some ((s.ac x).ab id (.live false (cs.set o.toNat v)))
        | false=>none
      | false=>none
     | none=>none
    | _=>none
   | _=>none
 | .makeSlice sz bytes zero l c=>match s.int l with
  | some (s1,_,l)=>match s1.int c with
   | some (s2,_,c)=>match s2.btw (.lit 0) l c&&Zt s2 bytes c with
    | true=>match ah with
     | true=>match l.lit?,c.lit? with
      | some l,some c=>s2.ao d (.live true (Wad c.toNat (zero.map pO)).flatten) (λid=>.own id (.lit 0) (.lit l) sz)
      | _,_=>none
     | false=>match l.lit? with
      | some l=>some (s2.put d (.am 1 sz (Wad l.toNat (zero.map pO))))
      | none=>some (s2.put d (.ak 1 sz l (zero.map pO)))
    | false=>none
   | none=>none
  | none=>none
 | .append sz bytes x y=>match s.ak x with
  | some (s0,a)=>match s0.ak y with
   | some (s1,b0)=>match Iu s1 b0 with
    | some b=>match FC a,aJ s1.iv a,FC b,aJ s1.iv b with
     | some n,some (q,sz1,_,_),some m,some (q2,sz2,_,_)=>
      match Wae sz1 sz&&(Wae sz2 sz&&(Wae q2 0&&Zt s1 bytes (n.add m))) with
      | true=>
       let res:Option A:=match lh a,lh b,a,b with
        | [],_,.am _ _ [],b=>some b
        | _,_,.am _ _ rs,.am _ _ rs'=>some (.am 1 sz (rs++rs'))
        | _,_,_,_=>
         let r:=uz s1 (lh a++lh b)
         match lm (λr'=>lY (leA 0 s1 [] 12) r' r) (lh a++lh b) with
         | true=>some (.ak 1 sz (n.add m) r)
         | false=>none
       match res with
       | some r=>match q with
        | 1=>match ah with
         | false=>(s1.ac x).aq d false sz r
         | true=>none
        | 2=>match a with
         | .am _ _ []=>(s1.ac x).aq d ah sz r
         | _=>none
        | _=>none
       | none=>none
      | false=>none
     | _,_,_,_=>none
    | none=>none
   | none=>none
  | none=>none
 | .copy sz x y=>match s.src x,Iu s (s.src y) with
  | .own id off len sz1,some b=>match off.lit?,len.lit?,s.b[id]?,aJ s.iv b with
   | some o,some n,some (.live true cs),some (q,sz2,lo,hi)=>match Wae sz1 sz&&(Wae sz2 sz&&(Wae q 0&&(nn o&&(nn n&&WbY (o.toNat+n.toNat*sz) cs.length)))) with
    | true=>match b with
     | .am _ _ rs=>some ((s.ab id (.live true (ui cs o.toNat (rs.take n.toNat).flatten))).put d (.int .i64 (.lit (m9 n rs.length))))
     | b=>match Wae sz 1,lh b with
      | true,[[c]]=>
       let seg:=(cs.drop o.toNat).take n.toNat
       let seg2:=seg.map (λx=>qH 12 s.iv x s.iv c)
       match lY (s.up) seg seg2&&lm (λj=>s.up c j) seg2 with
       | true=>some ((s.ab id (.live true (ui cs o.toNat seg2))).put d (.iv .i64 0 n))
       | false=>none
      | _,_=>none
    | false=>none
   | _,_,_,_=>none
  | _,_=>none
 | .extract x i=>match x with
  | .const _=>none
  | .tmp t=>match s.t[t]? with
   | some (.ae vs)=>match vs[i]? with
    | some a=>match (match d with | some d=>Wae d t | none=>false) with
     | true=>none
     | false=>match vs.all zb3&&!zii a with
      | true=>match a.held with
       | true=>{ s with t:=s.t.set t (.ae (vs.set i (.ex .af))) }.au d ah a
       | false=>match ah with
        | true=>none
        | false=>some (s.put d a.ag)
      | false=>none
    | none=>none
   | _=>none
 | .call f args xs=>match qI (ER s) args,xs with
  | some vs,[]=>match CZ s args s.b,cb f (vs.map (ZP s)) with
   | some b,some r=>match zfH r&&lY s.up vs (vs.map (ZP s)) with
    | true=>{ s with b:=b }.au d ah r
    | false=>none
   | _,_=>none
  | _,_=>none
 | k=>(mf s k).map λr=>r.1.put d r.2
end
section
def zba:Option Bool->Option Bool
 | some b=>some !b
 | none=>none
def zkb:A:=.ex (.ae [])
def HB(s:SS):Option (Nat × Bool)->Option Bool
 | none=>some true
 | some (j,want)=>match s.t[j]? with
  | some (.ex (.sc (.bool b)))=>some (b==want)
  | some (.ex (.ae []))=>some false
  | _=>none
def UH(s:SS):Option (Nat × Bool)->Option (List SS)
 | none=>some [s]
 | some (j,_)=>match s.t[j]? with
  | some (.ex (.sc (.bool b)))=>some [s]
  | some (.ex (.ae []))=>some [s]
  | some (.cmp c)=>
   let f:=λ(d:Option Bool) (b:Bool) (c:Cnd)=>match s.assume d c with
    | some s1=>[s1.put (some j) (.ex (.sc (.bool b)))]
    | none=>[]
   let d:=s.dec c
   some (f d true c++f (zba d) false c.not)
  | some .bool=>some [s.put (some j) (.ex (.sc (.bool true))),s.put (some j) (.ex (.sc (.bool false)))]
  | _=>none
def Zn(cb:ACB)(s:SS)(o:COp):Option SS:=match HB s o.guard with
 | some true=>mI cb s o.dst o.ah o.k
 | some false=>some (s.put o.dst zkb)
 | none=>none
def Je{α Y:Type}(f:α->Option (List Y)):List α->Option (List Y)
 | []=>some []
 | x::l=>match f x,Je f l with
  | some y,some m=>some (y++m)
  | _,_=>none
def zdI(cb:ACB):List COp->SS->Option (List SS)
 | [],s=>some [s]
 | o::rest,s=>match UH s o.guard with
  | some ss=>Je (λs=>match Zn cb s o with
   | some s'=>zdI cb rest s'
   | none=>none) ss
  | none=>none
def idA:A->Option Nat
 | .ptr id _=>some id
 | .own id _ _ _=>some id
 | _=>none
def Zx:A->Bool
 | .ak 1 _ _ _ | .ak 2 _ _ _ | .ai 1 _ _ _ _ | .ai 2 _ _ _ _ | .am 1 _ _ | .am 2 _ _=>true
 | _=>false
def zcz:A->Bool
 | .fp _ | .ak 0 _ _ _ | .ak 1 _ _ _ | .ai 0 _ _ _ _ | .ai 1 _ _ _ _ | .am 0 _ _ | .am 1 _ _=>true
 | _=>false
def zhZ(s:SS)(o:COp):Option (List Nat):=match HB s o.guard with
 | none=>none
 | some false=>some []
 | some true=>match o.k with
  | .load _ _ a _=>match s.src a with
   | .ptr id _=>some [id]
   | .fp _=>some []
   | _=>none
  | .store _ a _=>match s.src a with
   | .ptr id _=>some [id]
   | _=>none
  | .alloc _ _ | .box _ _=>o.dst.map λd=>[d]
  | .buildSlice .. | .makeSlice .. | .extract ..=>o.dst.map λd=>[d]
  | .move _ _=>some []
  | .append _ _ x y=>match JK (s.src y),Zx (s.src x),zii (s.src y) with
   | none,true,false=>o.dst.map λd=>[d]
   | _,_,_=>none
  | .call _ args []=>match qI (ER s) args with
   | some _=>some (args.filterMap (λx=>JK (s.src x.1))++o.dst.toList)
   | none=>none
  | _=>none
def zer(s:SS)(r id:Nat):Bool:=match s.t[r]? with
 | some a=>(match idA a with | some id'=>Wae id id' | none=>false)
 | none=>false
def za0(s:SS)(K:List Nat)(r:Nat):Bool:=match s.t[r]? with
 | some a=>(match idA a with | some id=>!K.contains id | none=>zcz a)
 | none=>false
def zhP(s:SS)(o:COp)(fl:Fl):Bool:=match zhZ s o with
 | some K=>(match fl.root with | some r=>K.all (zer s r) | none=>true)&&(!fl.nw||(match Ji o with | some d=>K.all (λid=>Wae id d) | none=>false))&&fl.w.all (za0 s K)&&fl.wn.all (λn=>!K.contains n)
 | none=>false
def Od(s:SS):A->Bool
 | .own id _ _ _=>match s.b[id]? with | some (.fz _)=>true | _=>false
 | .ptr _ _ | .any | .ex _ | .st _=>false
 | _=>true
def PA:A->Bool
 | .own _ _ _ _ | .ptr _ _ | .any | .ae _ | .st _ | .bx _ _ | .bool | .str | .cmp _ | .int _ _ | .iv _ _ _=>false
 | .ex v=>Cd v
 | .ak q _ _ _ | .ai q _ _ _ _ | .am q _ _=>WbY q 1
 | _=>true
def PN(s:SS)(d:Option Nat):Bool:=match d with
 | some d=>(match s.t[d]? with
  | some (.ptr _ _) | some .any=>false
  | some (.ex v)=>!wS v
  | some _=>true
  | none=>false)
 | none=>false
def zaC(s:SS)(o:COp)(s':SS):Bool:=match HB s o.guard with
 | some true=>match o.k with
  | .load agg _ _ take=>agg||!take
  | .toStr _ | .ofStr _ | .ay .. | .move ..=>true
  | .buildSlice .. | .makeSlice ..=>!o.ah
  | .append _ _ x _=>!o.ah&&Zx (s.src x)
  | .call _ args xs=>!o.ah&&xs.isEmpty&&args.all (λx=>decide (x.2<2)&&(Od s (s.src x.1)||PA (s.src x.1)))&&PN s' o.dst
  | .extract x i=>!o.ah&&match s.src x with
   | .ae vs=>match vs[i]? with
    | some (.bx _ _) | some .any | some (.ex _)=>false
    | some _=>true
    | none=>false
   | _=>false
  | k=>eN k
 | some false=>true
 | none=>false
def zep(s:SS)(o:COp)(r:Nat):Bool:=hI o.k&&match o.k with
 | .load _ _ (.tmp p) _=>match s.t[p]?,s.t[r]? with
  | some (.ptr id _),some (.ptr id' _)=>Wae id id'
  | some (.fp _),some _=>true
  | _,_=>false
 | _=>false
def zeC(s:SS)(o:COp)(s':SS):Bool:=match HB s o.guard with
 | some false=>true
 | some true=>match o.k,o.dst with
  | .call _ args xs,some d=>!o.ah&&xs.isEmpty&&args.all (λx=>decide (x.2<2)&&PA (s.src x.1))&&PN s' (some d)
  | _,_=>false
 | none=>false
def W0(s:SS)(o:COp)(id:Nat):Bool:=eN o.k||hI o.k||match HB s o.guard with
 | some false=>true
 | some true=>match o.k with
  | .call _ args []=>match qI (ER s) args with
   | some _=>!((args.filterMap (λx=>JK (s.src x.1))++o.dst.toList).contains id)
   | none=>false
  | .alloc _ _=>!(o.dst.toList.contains id)
  | .box _ _=>!(o.dst.toList.contains id)
  | _=>false
 | none=>false
def PF(s:SS)(o:COp):List Nat->Bool
 | []=>true
 | r::w=>(match s.t[r]? with
  | some (.ptr id _)=>W0 s o id
  | some (.fp _)=>true
  | _=>false)&&PF s o w
def flA(s:SS)(o:COp)(fl:Fl)(s':SS):Bool:=
 (match fl.l with
 | true=>zhP s o fl
 | false=>match fl.s with
  | true=>zeC s o s'
  | false=>(!fl.q||zaC s o s')&&(match fl.root with | none=>true | some r=>zep s o r)&&PF s o fl.w) &&
 (!fl.tk||(match o.dst with | some d=>(match s'.t[d]? with | some a=>Zx a | none=>false) | none=>false))
def zdx(cb:ACB):List (COp × Fl)->SS->Option (List SS)
 | [],s=>some [s]
 | o::rest,s=>match UH s o.1.guard with
  | some ss=>Je (λs=>match Zn cb s o.1 with
   | some s'=>match flA s o.1 o.2 s' with
    | true=>zdx cb rest s'
    | false=>none
   | none=>none) ss
  | none=>none
def At(s:SS):List Nat->Option SS
 | []=>some s
 | d::fz=>match Wca d 100000 with
  | true=>match s.b[d]? with
   | some (.live true (c::cs))=>At (s.ab d (.fz (c::cs))) fz
   | some _=>At s fz
   | none=>At s fz
  | false=>match s.b[d-100000]? with
   | some (.live false _)=>none
   | _=>At s fz
structure Gen where
 n:Nat
 s1:SS
 s2:SS
 new:List (Nat × Lin × Lin × Int × Int)
 ls:List Nat
def ze6(N0:Nat)(e:Lin):Bool:=lm (λp=>Wca p.1 N0) e.t
def zlm(e1 e2:Lin):List (Nat × Lin × Lin × Int × Int)->Option Nat
 | []=>none
 | p::l=>match p.2.1.eq e1&&p.2.2.1.eq e2 with
  | true=>some p.1
  | false=>zlm e1 e2 l
def Gen.sym(g:Gen)(N0:Nat)(e1 e2:Lin):Lin × Gen:=match e1.eq e2&&ze6 N0 e1 with
 | true=>(e1,g)
 | false=>match zlm e1 e2 g.new with
  | some x=>(.sy x,g)
  | none=>match e1.lb g.s1.iv,e1.ub g.s1.iv,e2.lb g.s2.iv,e2.ub g.s2.iv with
  | some l,some h,some l',some h'=>(.sy g.n,{ g with n:=g.n+1,new:=(g.n,e1,e2,m9 l l',qE h h')::g.new })
  | _,_,_,_=>(.lit 0,g)
def zhs:A->Option Lin
 | .int _ e=>some e
 | .ex (.sc (.int _ n))=>some (.lit n)
 | _=>none
def zlj(N0:Nat)(g:Gen)(a b:A):A × Gen:=match DS a,DS b,zhs a,zhs b with
 | some k,some k',some e,some f=>match decide (k=k') with
  | true=>let r:=g.sym N0 e f; (.int k r.1,r.2)
  | false=>(.any,g)
 | _,_,_,_=>match a,b with
  | .ptr id o,.ptr id' o'=>match Wae id id' with
   | true=>let r:=g.sym N0 o o'; (.ptr id r.1,r.2)
   | false=>(.any,g)
  | .own id o m sz,.own id' o' m' sz'=>match Wae id id'&&Wae sz sz' with
   | true=>let r:=g.sym N0 o o'; let q:=r.2.sym N0 m m'; (.own id r.1 q.1 sz,q.2)
   | false=>(.any,g)
  | a,b=>match FC a,FC b,qH 12 g.s1.iv a g.s2.iv b with
   | some n,some m,.ai q sz _ _ row=>let r:=g.sym N0 n m; (.ak q sz r.1 row,match Wae r.2.n g.n with | true=>r.2 | false=>{ r.2 with ls:=g.n::r.2.ls })
   | _,_,h=>(h,g)
def zk6(N0:Nat):Gen->List A->List A->List A × Gen
 | g,a::l,b::m=>let r:=zlj N0 g a b; let q:=zk6 N0 r.2 l m; (r.1::q.1,q.2)
 | g,_,_=>([],g)
def zmE(cs:List A):Bool:=WbY ((cs.filter (λa=>match DS a with | some .u8=>false | some _=>true | none=>false)).length) 12
def zlT(N0:Nat):Gen->List A->List A->List A × Gen
 | g,a::l,b::m=>
  let r:=match DS a with | some .u8=>(qH 12 g.s1.iv a g.s2.iv b,g) | _=>zlj N0 g a b
  let q:=zlT N0 r.2 l m; (r.1::q.1,q.2)
 | g,_,_=>([],g)
def zla(N0:Nat):Gen->List BB->List BB->List BB × Gen
 | g,x::l,y::m=>
  let r:BB × Gen:=match x,y with
   | .live p cs,.live _ ds=>match zmE cs with
    | true=>let q:=zlT N0 g cs ds; (.live p q.1,q.2)
    | false=>(.live p (WbZ (λa b=>qH 12 g.s1.iv a g.s2.iv b) cs ds),g)
   | .fz cs,.fz ds=>(.fz (WbZ (λa b=>qH 12 g.s1.iv a g.s2.iv b) cs ds),g)
   | .gone,.gone=>(.gone,g)
   | x,_=>(x,g)
  let q:=zla N0 r.2 l m; (r.1::q.1,q.2)
 | g,_,_=>([],g)
def zja(l:List (Lin × Lin × Lin))(f:Lin × Lin × Lin->Lin × Lin × Lin->Option Lin):List Lin:=l.flatMap λx=>l.filterMap λy=>f x y
def zgt(N0:Nat)(l:List A):List Nat:=(l.filterMap λa=>match (match a with | .int _ e=>some e | a=>FC a) with
 | some e=>match e.t with
  | [(x,_)]=>match Wca x N0 with | true=>some x | false=>none
  | _=>none
 | none=>none).eraseDups
def zhj(n:Int):List Int->Int
 | []=>n
 | x::l=>match leI n x with
  | true=>x
  | false=>zhj n l
def zml(w:Bool)(old new:Int × Int):Int × Int:=match w with
 | false=>new
 | true=>((match leI old.1 new.1 with
  | true=>old.1
  | false=>- zhj (- new.1) [0,128,2147483648,9223372036854775808]),
  (match leI new.2 old.2 with
  | true=>old.2
  | false=>zhj new.2 [0,255,65535,2147483647,4294967295,9223372036854775807,18446744073709551615]))
def zcC(fs:List Lin)(iv:IV):IV:=fs.foldl (λiv f=>match f.t with
 | [(x,a),(y,b)]=>match isZ (a-1)&&isZ (b+1),isZ (a+1)&&isZ (b-1),iv[x]?,iv[y]? with
  | true,_,some p,some q=>(iv.set x (p.1,m9 p.2 (q.2-f.c))).set y (qE q.1 (p.1+f.c),q.2)
  | _,true,some p,some q=>(iv.set y (q.1,m9 q.2 (p.2-f.c))).set x (qE p.1 (q.1+f.c),p.2)
  | _,_,_,_=>iv
 | _=>iv) iv
def rA{α:Type}(n:Nat)(x:α)(l:List α):List α:=Wad n x++l
def zg7:List Lin->List Lin
 | []=>[]
 | f::l=>match l.any f.eq with
  | true=>zg7 l
  | false=>f::zg7 l
def zlO(N0:Nat)(s:SS)(e:Lin):List Nat:=e.t.flatMap λm=>match Wca m.1 N0 with
 | true=>[m.1]
 | false=>s.fs.flatMap λf=>match f.t.any (λq=>Wae q.1 m.1) with
  | true=>f.t.filterMap λq=>match Wca q.1 N0 with | true=>some q.1 | false=>none
  | false=>[]
def gen(N0:Nat)(w:Bool)(s1 s2:SS):SS:=
 let r:=zk6 N0 ⟨N0,s1,s2,[],[]⟩ s1.t s2.t
 let q:=zla N0 r.2 s1.b s2.b
 let new:=q.2.new.reverse
 let gs:=zgt N0 r.1
 let terms:List (Lin × Lin × Lin):=new.map (λp=>(Lin.sy p.1,p.2.1,p.2.2.1))++gs.map (λx=>(Lin.sy x,Lin.sy x,Lin.sy x))
 let fs:=zja terms λx y=>match x.1.eq y.1 with
  | true=>none
  | false=>match s1.le (x.2.1.sub y.2.1)&&s2.le (x.2.2.sub y.2.2) with
   | true=>some (x.1.sub y.1)
   | false=>none
 let gi:=zgt N0 (r.1.filter λa=>match a with | .int _ _=>true | _=>false)
 let fs2:=(new.filter λp=>q.2.ls.contains p.1).flatMap λp=>(gi++zlO N0 s1 p.2.1++zlO N0 s2 p.2.2.1).eraseDups.filterMap λy=>match !(s1.le (p.2.1.sub (.sy y))&&s2.le (p.2.2.1.sub (.sy y)))&&(s1.le ((p.2.1.sub (.sy y)).aw (-1))&&s2.le ((p.2.2.1.sub (.sy y)).aw (-1))) with
  | true=>some (((Lin.sy p.1).sub (.sy y)).aw (-1))
  | false=>none
 let old:=(s1.fs.filter λf=>ze6 N0 f&&s2.le f)
 let iv0:=(WbZ (λp q=>(m9 p.1 q.1,qE p.2 q.2)) (s1.iv.take N0) (s2.iv.take N0))
 let iv1:=new.map λp=>match p.2.1.lb s1.iv,p.2.1.ub s1.iv with
  | some l,some h=>zml w (l,h) (p.2.2.2.1,p.2.2.2.2)
  | _,_=>(p.2.2.2.1,p.2.2.2.2)
 { iv:=zcC fs (zcC fs (iv0++iv1)),fs:=zg7 (fs++(fs2++old)),t:=r.1,b:=q.1 }
def thA(N0:Nat)(th:Th)(a j:A):Th:=
 let add:=λ(th:Th) (e f:Lin)=>match e.t with
  | [(x,_)]=>match Wca x N0||(GI x th).isSome with
   | true=>th
   | false=>(x,f)::th
  | _=>th
 match j with
 | .int _ e=>match zhs a with | some f=>add th e f | none=>th
 | .ak _ _ n _=>match FC a with | some f=>add th n f | none=>th
 | .ptr _ o=>match a with | .ptr _ o'=>add th o o' | _=>th
 | .own _ o m _=>match a with | .own _ o' m' _=>add (add th o o') m m' | _=>th
 | _=>th
def thL(N0:Nat):Th->List A->List A->Th
 | th,a::l,j::m=>thL N0 (thA N0 th a j) l m
 | th,_,_=>th
def thB(N0:Nat):Th->List BB->List BB->Th
 | th,x::l,y::m=>thB N0 (match x,y with | .live _ cs,.live _ ds=>thL N0 th cs ds | .fz cs,.fz ds=>thL N0 th cs ds | _,_=>th) l m
 | th,_,_=>th
def zdV(N0:Nat)(s:SS)(th:Th):Nat->IV->Bool
 | _,[]=>true
 | x,p::l=>(match (match Wca x N0 with | true=>some (Lin.sy x) | false=>GI x th) with
  | some e=>s.le ((Lin.lit p.1).sub e)&&s.le (e.aw (-p.2))
  | none=>false)&&zdV N0 s th (x+1) l
def leS(N0:Nat)(s j:SS):Option Th:=
 let th:=thB N0 (thL N0 [] s.t j.t) s.b j.b
 match WbY N0 j.iv.length&&(lm (λp=>Wca p.1 j.iv.length) th&&lY (leA N0 s th 12) s.t j.t)&&(lY (zd0 N0 s th) s.b j.b&&(zdV N0 s th 0 j.iv&&lm (λf=>match f.sb N0 th with | some e=>s.le e | none=>false) j.fs)) with
 | true=>some th
 | false=>none
def zhB(N0:Nat)(s1 s2:SS):Option SS:=
 let j:=gen N0 false s1 s2
 match leS N0 s1 j,leS N0 s2 j with
 | some _,some _=>some j
 | _,_=>none
def zdm:Ex->Ex->Bool
 | .normal,.normal=>true
 | .ret,.ret=>false
 | .exit a,.exit b=>Wae a b
 | _,_=>false
def OL(N0:Nat)(e:Ex)(s:SS):List (Ex × SS)->List (Ex × SS)
 | []=>[(e,s)]
 | p::l=>match zdm e p.1 with
  | true=>match zhB N0 p.2 s with
   | some j=>(p.1,j)::l
   | none=>p::OL N0 e s l
  | false=>p::OL N0 e s l
def PX(N0:Nat)(l:List (Ex × SS)):List (Ex × SS):=l.foldl (λacc p=>OL N0 p.1 p.2 acc) []
def O8(N0:Nat)(l:List (Ex × SS)):List (Ex × SS):=match WbY l.length 6 with
 | true=>l
 | false=>PX N0 l
def ziN(dead:Nat->Bool):A->Bool
 | .own id _ _ _=>!dead id
 | .any=>false
 | .ex v=>match v with | .own _ _ _ _=>false | _=>true
 | _=>true
def P1(dead:Nat->Bool):A->A
 | .ptr id off=>match dead id with | true=>.ex .af | false=>.ptr id off
 | .own id off len sz=>match dead id with | true=>.ex .af | false=>.own id off len sz
 | .ae vs=>match vs with | []=>.ex (.ae []) | _=>.ex .af
 | .st cs=>match lm (ziN dead) cs with | true=>.st cs | false=>.any
 | .ex v=>.ex (qS dead v)
 | a=>a
def Tt(dead:Nat->Bool):List Bool->List A->List A
 | k::ks,v::vs=>(match k with | true=>P1 dead v | false=>.ex .af)::Tt dead ks vs
 | [],vs=>vs.map (λ_=>.ex .af)
 | _,[]=>[]
def VO(dead:Nat->Bool):List Bool->List BB->List BB
 | k::ks,v::vs=>(match k with | true=>(match v with | .live false cs=>.live false (cs.map (P1 dead)) | x=>x) | false=>.gone)::VO dead ks vs
 | [],vs=>vs.map (λ_=>.gone)
 | _,[]=>[]
def PC(kt kb:List Bool)(s:SS):SS:={ s with t:=Tt (λid=>!(kb.getD id false)) kt s.t,b:=VO (λid=>!(kb.getD id false)) kb s.b }
def wT:List (Ex × SS)->List SS
 | []=>[]
 | p::l=>match p.1 with | .normal=>p.2::wT l | _=>wT l
def yB:List (Ex × SS)->List (Ex × SS)
 | []=>[]
 | p::l=>match p.1 with | .normal=>yB l | _=>p::yB l
def We(N0:Nat)(body:SS->Option (List (Ex × SS)))(norm:SS->SS):Nat->SS->Option (List (Ex × SS))
 | 0,_=>none
 | n+1,s=>match body (norm s) with
  | some outs=>match Je (λs'=>We N0 body norm n s') (wT outs) with
   | some r=>some (yB outs++r)
   | none=>none
  | none=>none
def Lh(s:SS)(th:Th)(x:Nat)(up:Bool):Bool:=match GI x th with
 | some e=>match up with
  | true=>s.le (((Lin.sy x).sub e).aw 1)
  | false=>s.le ((e.sub (Lin.sy x)).aw 1)
 | none=>false
def PQ(N0:Nat)(j:SS)(l:List SS)(x:Nat)(up:Bool):Bool:=WbY N0 x&&(Wca x j.iv.length&&lm (λs=>match leS N0 s j with | some th=>Lh s th x up | none=>false) l)
def Zv(N0:Nat)(j:SS)(l:List SS):Nat->Option (Nat × Bool)
 | 0=>none
 | n+1=>match PQ N0 j l n true with
  | true=>some (n,true)
  | false=>match PQ N0 j l n false with
   | true=>some (n,false)
   | false=>Zv N0 j l n
def zeq(N0:Nat)(body:Nat->SS->Option (List (Ex × SS)))(norm:SS->SS)(s j:SS):Option (List (Ex × SS)):=match leS N0 (norm s) j with
 | some _=>match body j.iv.length j with
  | some outs=>match wT outs with
   | []=>some (yB outs)
   | l=>match Zv N0 j (l.map norm) j.iv.length with
    | some _=>some (yB outs)
    | none=>none
  | none=>none
 | none=>none
def ziM(N0:Nat)(body:Nat->SS->Option (List (Ex × SS)))(norm:SS->SS):Nat->Bool->SS->Option SS
 | 0,_,j=>some j
 | n+1,w,j=>match body j.iv.length j with
  | some outs=>match wT outs with
   | []=>some j
   | l=>match lm (λs=>(leS N0 (norm s) j).isSome) l with
    | true=>some j
    | false=>ziM N0 body norm n true (l.foldl (λj s=>gen N0 w j (norm s)) j)
  | none=>none
def EM:CC->Nat
 | .seq a b=>EM a+EM b
 | .cond _ a b=>EM a+EM b
 | .block _ a=>EM a
 | .loop _ _ a=>EM a+1
 | _=>0
def zeG(s1:SS)(x:Src)(b:Bool):SS:=match x with
 | .tmp t=>s1.put (some t) (.ex (.sc (.bool b)))
 | .const _=>s1
def Z8(s:SS)(x:Src):Option (List (Bool × SS)):=match s.src x with
 | .ex (.sc (.bool b))=>some [(b,s)]
 | .cmp c=>
  let f:=λ(d:Option Bool) (b:Bool) (c:Cnd)=>match s.assume d c with
   | some s1=>[(b,zeG s1 x b)]
   | none=>[]
  let d:=s.dec c
  some (f d true c++f (zba d) false c.not)
 | .bool=>match x with
  | .tmp t=>some [(true,s.put (some t) (.ex (.sc (.bool true)))),(false,s.put (some t) (.ex (.sc (.bool false))))]
  | .const _=>none
 | _=>none
def zeA(id:Nat)(e:Ex):Ex:=match e with
 | .exit j=>(match Wae j id with | true=>.normal | false=>.exit j)
 | e=>e
abbrev MD:=List (Nat × Option SS)
def lkM(i:Nat):MD->Option (Option SS)
 | []=>none
 | p::l=>match Wae i p.1 with
  | true=>some p.2
  | false=>lkM i l
def zl4(N0:Nat)(body:Nat->SS->Option (List (Ex × SS)))(norm:SS->SS)(s:SS):Option SS->Option SS
 | some j=>some j
 | none=>ziM N0 body norm 7 false (gen N0 false (norm s) (norm s))
def xx(cb:ACB)(md:MD):CC->Nat->Nat->SS->Option (List (Ex × SS))
 | .skip,_,N0,s=>some [(.normal,s)]
 | .bw ops,_,N0,s=>(zdI cb ops s).map λl=>O8 N0 (l.map λs=>(.normal,s))
 | .bu fz ops,_,N0,s=>match At s fz with
  | some s=>(zdx cb ops s).map λl=>O8 N0 (l.map λs=>(.normal,s))
  | none=>none
 | .seq a b,i,N0,s=>match xx cb md a i N0 s with
  | some outs=>match Je (λs'=>xx cb md b (i+EM a) N0 s') (wT outs) with
   | some r=>some (yB outs++r)
   | none=>none
  | none=>none
 | .cond c a b,i,N0,s=>match Z8 s c with
  | some l=>(Je (λp=>match p.1 with | true=>xx cb md a i N0 p.2 | false=>xx cb md b (i+EM a) N0 p.2) l).map (O8 N0)
  | none=>none
 | .block id a,i,N0,s=>(xx cb md a i N0 s).map λl=>PX N0 (l.map λp=>(zeA id p.1,p.2))
 | .loop kt kb a,i,N0,s=>match lkM i md with
  | some o=>match zl4 N0 (λN s=>xx cb md a (i+1) N s) (PC kt kb) s o with
   | some j=>(zeq N0 (λN s=>xx cb md a (i+1) N s) (PC kt kb) s j).map (PX N0)
   | none=>none
  | none=>(We N0 (λs=>xx cb md a (i+1) N0 s) (PC kt kb) 100 s).map (PX N0)
 | .mask kt kb,_,N0,s=>some [(.normal,PC kt kb s)]
 | .exit id,_,N0,s=>some [(.exit id,s)]
 | .ret,_,N0,s=>some [(.ret,s)]
 | .fork _ _ _ _,_,_,_=>none
def Nw:A->Bool
 | .own _ _ _ _ | .ptr _ _ | .ex _ | .ae _ | .st _ | .fp _ | .bx _ _ | .any=>false
 | a=>!a.hard
def Rx(s:SS):RV->Option A
 | .tmp t=>match s.t.getD t (.ex .af) with
  | .own id off len sz=>match off.lit?,len.lit?,s.b[id]? with
   | some 0,some n,some (.live true cs)=>match Wca 0 sz&&(nn n&&(WbY (n.toNat*sz) cs.length&&(!(isZ n)||Wae cs.length 0))) with
    | true=>some (.am 2 sz (pP sz n.toNat cs))
    | false=>none
   | _,_,_=>none
  | .ptr id off=>match off.lit?,s.b[id]? with
   | some 0,some (.live p (c::cs))=>match p with
    | true=>some (.bx p (c::cs))
    | false=>(qI A.plain (c::cs)).map (.bx p)
   | _,_=>none
  | .ex v=>match v with | .sc x=>some (.ex (.sc x)) | _=>none
  | a=>match Nw a with | true=>some a | false=>none
 | .aH t=>match s.t.getD t (.ex .af) with
  | .ex v=>match v with | .sc x=>some (.ex (.sc x)) | _=>none
  | a=>match Nw a with | true=>some a | false=>none
 | .cell t agg n=>match s.t.getD t (.ex .af) with
  | .ptr id off=>match off.lit?,s.b[id]? with
   | some 0,some (.live p cs)=>match agg with
    | true=>match Wae cs.length n&&!(Wae n 0) with
     | true=>match p with
      | true=>some (.agg cs)
      | false=>(qI A.plain cs).map .agg
     | false=>none
    | false=>match Wae n 1,cs with
     | true,c::_=>c.plain
     | _,_=>none
   | _,_=>none
  | _=>none
 | .aC _ _ _=>none
def Gu:A->List Nat
 | .own id _ _ _=>[id]
 | .ptr id _=>[id]
 | _=>[]
def PK(s:SS):List RV->List Nat
 | []=>[]
 | r::rest=>(match r.slot with | some t=>Gu (s.t.getD t (.ex .af)) | none=>[])++PK s rest
def VP(s:SS)(rs:List RV):Option A:=match uC rs&&(oJ (PK s rs)&&lm (λr=>r.low s.t.length) rs) with
 | true=>match rs with
  | [r]=>Rx s r
  | rs=>(qI (Rx s) rs).map .ae
 | false=>none
def zaJ(nt:Nat)(args:List A):SS:=⟨[],[],args++Wad (nt-args.length) zkb,Wad nt .gone⟩
def TD(s:SS):Nat->A->A
 | 0,a=>a
 | n+1,a=>match a with
  | .int k e=>match e.t with
   | []=>.int k e
   | _=>match lbF s e,ubF s e with
    | some l,some h=>.iv k l h
    | _,_=>.int k e
  | .ak q sz m row=>match lbF s m,ubF s m with
   | some l,some h=>.ai q sz l h row
   | _,_=>.ak q sz m row
  | .ae vs=>.ae (vs.map (TD s n))
  | .agg vs=>.agg (vs.map (TD s n))
  | a=>a
def ziP:List (SS × A)->Option A
 | []=>none
 | p::l=>some (l.foldl (λacc q=>qH 12 [] acc q.1.iv (TD q.1 3 q.2)) (Kq p.1 (TD p.1 3 p.2)))
structure Inst where
 g:Nat
 args:List A
 res:A
def U3(g:Nat)(args:List A):List Inst->Option A
 | []=>none
 | i::l=>match Wae i.g g&&lY (SS.up ⟨[],[],[],[]⟩) args i.args with
  | true=>some i.res
  | false=>U3 g args l
def zds(T:Nat->Option CF)(md:Nat->MD)(is:List Inst):Nat->ACB
 | 0,g,args=>U3 g args is
 | d+1,g,args=>match U3 g args is with
  | some r=>some r
  | none=>match frN g,T g with
   | false,some c=>match xx (zds T md is d) (md g) c.body 0 0 (zaJ c.ntmps args) with
    | some outs=>match qI (λp:Ex × SS=>match p.1 with | .exit _=>none | _=>(VP p.2 c.res).map λa=>(p.2,a)) outs with
     | some l=>match ziP l with
      | some j=>match lm (λp=>p.1.up p.2 j) l with
       | true=>some j
       | false=>none
      | none=>none
     | none=>none
    | none=>none
   | _,_=>none
end
end Go.Proofs.YtipklgbboecciaaGreat
