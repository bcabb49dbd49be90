/- Part 8 of the proof of ScanNext: an abstract machine over plain values, its soundness, and the functions of the program on plain values. -/
import Derived.Test.YtipklgbboecciaaGreatMScanNext7
namespace Go.Proofs.YtipklgbboecciaaGreat
set_option maxRecDepth 100000
set_option linter.unusedVariables false
set_option linter.unusedSimpArgs false
open Nat renaming beq->Wae,ble->WbY,blt->Wca,mul_comm->Wcb
open List renaming zipWith->WbZ,replicate->Wad,getElem?_eq_some_iff->Wam,ext_getElem?->Wby
open Option renaming bind_eq_some_iff->Waa,bind_eq_bind->Wab,bind_some->Wbz
open IntKind renaming wrap->Wbf
section
variable {t af:Bool}{kd:IntKind}{v:V}{sz off f g:Nat}{cs args:List V}{es:Ls}{b:List B}{s:Sh}{dst:Option Nat}{k:K}{o:COp}{rs:List RV}{T:Nat->Option CF}{cf:CF}
section
variable {Y:Type} {r:Y}
theorem dO{p:Prop}[Decidable p]{k:Option Y}(h:chk p k=some r):p/\k=some r:=by
 grind [nL]
theorem ug{a b:Option Y}(h:ifb t a b=some r):(t=true/\a=some r)∨(t=false/\b=some r):=by
 cases t
 ·exact .inr ⟨rfl,h⟩
 ·exact .inl ⟨rfl,h⟩
theorem tU{k:Int->Option Y}(h:aI kd v k=some r):∃ n,v=.sc (.int kd n)/\k n=some r:=by
 unfold aI at h; grind [nL]
theorem oW{k:Int->Option Y}(h:BN v k=some r):∃ kd n,v=.sc (.int kd n)/\k n=some r:=by
 unfold BN at h; grind
theorem Kk{k:Bool->Option Y}(h:aB v k=some r):∃ b,v=.sc (.bool b)/\k b=some r:=by
 unfold aB at h; grind
theorem WY{k:ByteArray->Option Y}(h:aS v k=some r):∃ s,v=.sc (.string s)/\k s=some r:=by
 unfold aS at h; grind
theorem AV{k:Ls->Option Y}(h:aL sz v k=some r):∃ es,v=.sl sz es/\k es=some r:=by
 unfold aL at h; grind [nL]
theorem X3{k:Ls->Option Y}(h:aLd sz v k=some r):∃ es,v.ag=.sl sz es/\k es=some r:=by
 unfold aLd at h; simp [nL] at h; split at h
 ·split at h
  ·rename_i e; subst e; exact ⟨_,rfl,h⟩
  ·cases h
 ·split at h
  ·rename_i e; subst e; exact ⟨_,rfl,h⟩
  ·cases h
 ·cases h
theorem zbL{k:List V->Option Y}(h:aG v k=some r):∃ cs,v=.agg cs/\k cs=some r:=by
 unfold aG at h; grind
theorem zeH{k:Ls->Option Y}(h:aGs sz v k=some r):∃ es,v=.gs sz es/\k es=some r:=by
 unfold aGs at h; grind [nL]
theorem zgL{id:Nat}{k:Option Y}(h:aM id v k=some r):v=.mp id/\k=some r:=by
 unfold aM at h; grind [nL]
theorem Gj{id:Nat}{k:Option Y}(h:aP id off v k=some r):v=.ptr id off/\k=some r:=by
 unfold aP at h; grind [nL]
theorem uu{k:V->Option Y}(h:mR cs off k=some r):∃ v,cs[off]?=some v/\k v=some r:=by
 grind [mR]
theorem zfx{j:Int}{k:List V->Option Y}(h:idx es j k=some r):0<=j/\∃ c,es[j.toNat]?=some c/\k c=some r:=by
 grind [nL,idx]
theorem zfe{n:Nat}{a b:List V}{k:Bool->Option Y}(h:eqC n a b k=some r):(a.length=n/\b.length=n)/\∃ t,iQ a b=some t/\k t=some r:=by
 grind [nL,eqC]
theorem zdH{k:ByteArray->Option Y}(h:zz es k=some r):∃ l,lT es=some l/\k ⟨l.toArray⟩=some r:=by
 grind [zz]
theorem Fv{k:List V->Option Y}(h:GD cs k=some r):∃ vs,cs.mapM V.plain=some vs/\k vs=some r:=by
 grind [GD]
theorem za2{k:List V->Option Y}(h:Y4 cs k=some r):∃ vs,cs.mapM V.aJ=some vs/\k vs=some r:=by
 grind [Y4]
theorem sW{o:Option St}{κ:St->Option Y}(h:uR o κ=some r):∃ Z,o=some Z/\κ Z=some r:=by
 grind
theorem nq{k:V->Option Y}(h:vZ b v k=some r):∃ u,gN b v=some u/\k u=some r:=by
 grind [vZ]
theorem Yx{k:Ls->Option Y}(h:aGw sz v k=some r):∃ es,v=.gs sz es/\k es=some r:=by
 unfold aGw at h
 grind [dO]
theorem zcr{k:V->Option Y}(h:zc4 s v k=some r):k v=some r:=by
 unfold zc4 at h
 grind [Yx]
theorem SV{k:V->Option Y}(h:asc s v k=some r):k v=some r:=by
 cases s with
 | any=>exact h
 | int kd=>obtain ⟨n,e,h'⟩:=tU h; subst e; exact h'
 | bool=>obtain ⟨n,e,h'⟩:=Kk h; subst e; exact h'
 | str=>obtain ⟨n,e,h'⟩:=WY h; subst e; exact h'
 | sl sz=>obtain ⟨n,e,h'⟩:=AV h; subst e; exact h'
 | gs sz=>obtain ⟨n,e,h'⟩:=Yx h; subst e; exact h'
 | row l=>cases h
theorem zcJ{k:V->Option Y}(h:zgO s v k=some r):k v.ag=some r:=by
 cases s with
 | any=>exact h
 | int kd=>obtain ⟨n,e,h'⟩:=tU h; subst e; exact h'
 | bool=>obtain ⟨n,e,h'⟩:=Kk h; subst e; exact h'
 | str=>obtain ⟨n,e,h'⟩:=WY h; subst e; exact h'
 | sl sz=>obtain ⟨n,e,h⟩:=X3 h; rw [e]; exact h
 | gs sz=>obtain ⟨n,e,h⟩:=X3 h; rw [e]; exact h
 | row l=>cases h
theorem Rx:∀ {ss:List Sh} {i:Nat} {cs:List V} {k:List V->Option Y},WN ss i cs k=some r->i+ss.length=cs.length->k (cs.drop i)=some r
 | [],i,cs,k,h,hl=>by
  rw [List.drop_of_length_le (by simp at hl; omega)];exact h
 | s::ss,i,cs,k,h,hl=>by
  obtain ⟨v,e,h⟩:=uu h;have h:=Rx (SV h) (by simp at hl; omega);obtain ⟨hi,rfl⟩:=Wam.1 e
  simp_all
theorem FK{k:List V->Option Y}(h:LL s cs k=some r):k cs=some r:=by
 cases s with
 | row ss=>
  obtain ⟨hl,h⟩:=dO h;have:=Rx h (by omega);simpa using this
 | _=>exact h
theorem Fe{k:V->Option Y}(h:Qm s cs off k=some r):∃ v,cs[off]?=some v/\k v=some r:=by
 obtain ⟨v,e,h⟩:=uu h; exact ⟨v,e,SV h⟩
theorem Zp{k:V->Option Y}(h:zas s cs off k=some r):∃ v,cs[off]?=some v/\k v.ag=some r:=by
 obtain ⟨v,e,h⟩:=uu h; exact ⟨v,e,zcJ h⟩
theorem Yh{v:Value}{k:Value->Option Y}(h:ltV v k=some r):k v=some r:=by
 cases v <;> exact h
theorem zby{a b:V}{k:V->Option Y}(h:ZS t a b k=some r):k (if t then a else b)=some r:=by
 unfold ZS at h; simp [nL] at h;split at h
 ·cases t <;> exact h
 ·split at h
  ·rename_i e; subst e; cases t <;> exact h
  ·cases h
 ·grind [ug]
theorem zb9{b:Bool}{k:List V->Option Y}(h:zdO b cs k=some r):k cs=some r:=by
 cases b <;> exact h
theorem JJ{Z:St}:∀ {ps:List (Nat × Nat × Src)} {cs:List V} {k:List V->Option Y},QO Z ps cs k=some r->∃ cs',jf Z ps cs=some cs'/\k cs'=some r
 | [],cs,k,h=>⟨cs,rfl,h⟩
 | (off,n,x)::ps,cs,k,h=>by
  unfold QO at h;split at h
  ·rename_i v hv;obtain ⟨hc,h⟩:=dO h;obtain ⟨cs',e,h⟩:=JJ h
   grind [jf]
  ·cases h
theorem Hx{sh:Nat->Sh}{Z:St}:∀ {ps:List (Nat × Nat × Src)} {cs:List V} {k:List V->Option Y},Kd sh Z ps cs k=some r->∃ cs',kZ Z ps cs=some cs'/\k cs'=some r
 | [],cs,k,h=>⟨cs,rfl,h⟩
 | (off,n,x)::ps,cs,k,h=>by
  unfold Kd at h;split at h
  ·rename_i us hx;have h:=FK h;obtain ⟨hc,h⟩:=dO h;obtain ⟨cs',e,h⟩:=Hx h
   grind [V.cells,V.plain,V.aJ,kZ]
  ·split at h
   ·rename_i v hv;obtain ⟨hc,h⟩:=dO h;obtain ⟨cs',e,h⟩:=Hx h
    grind [kZ]
   ·cases h
theorem zck{op:BinOp}{x y:Value}{k:Value->Option Y}(h:zdB op x y k=some r):∃ z,fZ op x y=some z/\k z=some r:=by
 unfold zdB at h
 grind [fZ,dO]
theorem In{Z:St}{x:Option Src}{dflt most:Nat}{k:Nat->Option Y}(h:JR Z x dflt most k=some r):∃ n,m5 Z x dflt most=some n/\k n=some r:=by
 unfold JR at h;split at h
 ·exact ⟨_,rfl,h⟩
 ·obtain ⟨kd,n,e,h⟩:=oW h;obtain ⟨hc,h⟩:=dO h;exact ⟨_,by simp [m5,e,V.int?,hc],h⟩
theorem vK{Z:St}{len:Nat}{lo hi mx:Option Src}{k:Nat->Nat->Nat->Option Y}(h:CN Z len lo hi mx k=some r):∃ l hh m,iK Z len lo hi mx=some (l,hh,m)/\k l hh m=some r:=by
 obtain ⟨m,e1,h⟩:=In h;obtain ⟨hh,e2,h⟩:=In h;obtain ⟨l,e3,h⟩:=In h;exact ⟨l,hh,m,by simp [iK,e1,e2,e3],h⟩
end
def vT(c:CBC)(cb:CB):Prop:=∀ (Y:Type) (f:Nat) (args:List V) (bor:Bor) (k:V->Bor->Option Y) (r:Y),c Y f args bor k=some r->∃ v b,cb f args bor=some (v,b)/\k v b=some r
section
variable {Y:Type} {r:Y} {c:CBC} {cb:CB} {sh:Nat->Sh} {nb L:Nat}
theorem Wj{Z:St}{κ:St->Option Y}(h:Vd nb Z dst af v κ=some r):∃ σ',Z.ar nb dst af v=some σ'/\κ σ'=some r:=by
 cases v with
 | fr sz es=>
  grind [St.ao,St.ar,Vd]
 | _=>exact sW h
theorem ZZ(b:List B)(id:Nat)(κ:List B->Option Y):S7 b id κ=κ (fc b id):=by
 unfold S7 fc;split
 ·rename_i cs h;cases cs with
  | nil=>simp [ifb,h]
  | cons c cs=>simp [ifb,h]
 ·grind
theorem CM(Z:St):∀ (srcs:List (Src × Nat)) (b:List B) (κ:List B->Option Y),CS Z srcs b κ=κ (di Z srcs b)
 | [],b,κ=>rfl
 | s::rest,b,κ=>by
  unfold CS di;by_cases h:2<=s.2
  ·rw [if_pos h]; simp [h]; exact CM Z rest b κ
  ·rw [if_neg h]; simp [h];cases fR (s.1.get Z) with
   | none=>exact CM Z rest b κ
   | some id=>simp [ZZ]; exact CM Z rest _ κ
theorem TD{i:Nat}{x:B}(hb:b[i]?=some x):b.set i x=b:=by
 apply Wby
 grind
theorem zaf{k:V->Option Y}{r:Y}(h:YS b v k=some r):∃ u,vc b v=some u/\k u=some r:=by
 unfold YS at h
 grind [dO,vc]
theorem Le{b:List B}{r:Y}:∀ {vs:List V} {k:List V->Option Y},Q9 b vs k=some r->∃ us,vs.mapM (vc b)=some us/\k us=some r
 | [],k,h=>⟨[],rfl,h⟩
 | v::vs,k,h=>by
  obtain ⟨u,e,h⟩:=zaf h;obtain ⟨us,e2,h⟩:=Le h
  simp_all
theorem qW(nb:Nat){r:Y}:∀ (fz:List Nat) (Z:St) (κ:St->Option Y),pw nb fz Z κ=some r->κ (qJ nb fz Z)=some r
 | [],Z,κ,h=>h
 | d::fz,Z,κ,h=>by
  unfold pw at h;unfold qJ;cases hd:Wca d 100000 with
  | true=>
   rw [hd] at h;simp only at h ⊢;split at h
   ·rename_i cs hb;cases cs with
    | nil=>
     have e:fc Z.b (nb+d)=Z.b:=by unfold fc; rw [hb]
     have h:pw nb fz { Z with b:=Z.b.set (nb+d) (.live true []) } κ=some r:=h;rw [TD hb] at h;rw [e]; exact qW nb fz _ κ h
    | cons c cs=>
     have e:fc Z.b (nb+d)=Z.b.set (nb+d) (.fz (c::cs)):=by unfold fc; rw [hb]
     have h:pw nb fz { Z with b:=Z.b.set (nb+d) (.fz (c::cs)) } κ=some r:=h;rw [e]; exact qW nb fz _ κ h
   ·rename_i hb;have e:fc Z.b (nb+d)=Z.b:=by
     unfold fc;split
     ·rename_i c cs h2; exact absurd h2 (hb _)
     ·rfl
    rw [e]; exact qW nb fz _ κ h
  | false=>
   rw [hd] at h;simp only at h ⊢;split at h
   ·rename_i cs hb;cases cs with
    | nil=>
     have e:jc Z.b (nb+(d-100000))=Z.b:=by unfold jc; rw [hb]
     have h:pw nb fz { Z with b:=Z.b.set (nb+(d-100000)) (.live false []) } κ=some r:=h;rw [TD hb] at h;rw [e]; exact qW nb fz _ κ h
    | cons c cs=>
     have h:Q9 Z.b (c::cs) (λvs=>pw nb fz { Z with b:=Z.b.set (nb+(d-100000)) (.fz vs) } κ)=some r:=h;obtain ⟨vs,hvs,h⟩:=Le h;have e:jc Z.b (nb+(d-100000))=Z.b.set (nb+(d-100000)) (.fz vs):=by unfold jc; rw [hb]; simp only [hvs]
     rw [e]; exact qW nb fz _ κ h
   ·rename_i vs hb;have e:jc Z.b (nb+(d-100000))=Z.b:=by unfold jc; rw [hb]
    rw [e]; exact qW nb fz _ κ h
   ·cases h
theorem PJ(hc:vT c cb){Z:St}{srcs:List (Src × Nat)}{xs:List Nat}{κ:St->Option Y}(h:LK c nb Z dst af f args srcs xs κ=some r):∃ σ',lh cb nb Z dst af f args srcs xs=some σ'/\κ σ'=some r:=by
 unfold LK at h;rw [CM] at h;simp only at h;split at h
 ·cases h
 ·rename_i bor hb;obtain ⟨v,b,e,h⟩:=hc _ _ _ _ _ _ h;obtain ⟨hl,h⟩:=dO h;split at h
  ·rename_i ht;obtain ⟨σ',e2,h⟩:=Wj h;refine ⟨σ',?_,h⟩;simp only [Bool.and_eq_true,decide_eq_true_eq] at ht;obtain ⟨t1,t2,t3,t4,t5,t6,t7,t8⟩:=ht;unfold lh
   grind
  ·cases h
theorem zff{Z:St}{κ:St->Option Y}(hk:bZ (λ_ _ _=>none) nb Z dst af k=bZ cb nb Z dst af k)(h:uR (bZ (λ_ _ _=>none) nb Z dst af k) κ=some r):∃ σ',bZ cb nb Z dst af k=some σ'/\κ σ'=some r:=by
 grind
theorem St.set_same{Z:St}{j:Nat}(h:Z.t[j]?=some v):({ Z with t:=Z.t.set j v }:St)=Z:=by
 have:Z.t.set j v=Z.t:=by
  apply Wby
  grind
 rw [this]
variable {Z:St}
theorem WH(hc:vT c cb){κ:St->Option Y}(h:ik sh c nb Z dst af k κ=some r):∃ σ',bZ cb nb Z dst af k=some σ'/\κ σ'=some r:=by
 cases k with
 | pick c a b=>
  obtain ⟨t,e,h⟩:=Kk h;exact ⟨_,by simp only [bZ,cx,e,V.bool?]; rfl,by grind [zby]⟩
 | build zero parts=>
  obtain ⟨cs,e,h⟩:=JJ h;have h:=zb9 h;exact ⟨_,by simp only [bZ,cx,e]; rfl,h⟩
 | ay zero parts=>
  obtain ⟨cs,e,h⟩:=Hx h;exact ⟨_,by simp only [bZ,cx,e]; rfl,h⟩
 | box p x=>
  simp [ik] at h;split at h
  ·grind [bZ]
  ·rename_i hx;split at h
   ·rename_i v hv;have hk:∀ p,bZ cb nb Z dst af (.box p x)=Z.an nb dst (.live p v.cells) (λid=>.ptr id 0):=by
     intro p;cases hxx:x.get Z with
     | st cs=>exact absurd hxx (hx cs)
     | _=>rw [hxx] at hv; simp only [bZ,hxx,hv]
    cases p with
    | true=>
     obtain ⟨σ',e,h⟩:=sW h;exact ⟨σ',by rw [hk]; exact e,h⟩
    | false=>
     obtain ⟨σ',e,h⟩:=sW (FK h);exact ⟨σ',by rw [hk]; exact e,h⟩
   ·cases h
 | bj neg x=>
  simp [ik] at h;split at h
  ·rename_i sz es hx;split at h
   ·rename_i t;rcases ug h with ⟨hq,h⟩ | ⟨hq,h⟩
    ·have he:es=[]:=by simpa using hq
     subst he;have hget:∃ v,Z.t[t]?=some v/\Src.get Z (.tmp t)=v/\zd0 v=v:=by
      simp only [Src.get,List.getD_eq_getElem?_getD] at hx ⊢;cases ht:Z.t[t]? with
      | none=>rw [ht] at hx; simp [V.ag] at hx
      | some v=>
       rw [ht] at hx;refine ⟨v,rfl,rfl,?_⟩;have hx:v.ag=.sl sz []:=hx
       match v,hx with
       | .gs a es,hx=>
        have:es=[]:=by simp [V.ag] at hx; exact hx.2
        rw [this]; rfl
       | .sl a es,hx=>
        have:es=[]:=by simp [V.ag] at hx; exact hx.2
        rw [this]; rfl
       | .ah [],hx=>rfl
       | .ah (_::_),hx=>rfl
       | .sc _,hx=>rfl
       | .agg _,hx=>rfl
       | .own _ _ _ _,hx=>rfl
       | .ptr _ _,hx=>rfl
       | .fp _ _,hx=>rfl
       | .fn _ _,hx=>rfl
       | .bx _ _,hx=>rfl
       | .fr _ _,hx=>rfl
       | .ub,hx=>rfl
       | .ae,hx=>rfl
     obtain ⟨v,g1,g2,g3⟩:=hget;simp only [lt] at h;rw [g2,g3,St.set_same g1] at h;exact ⟨_,by simp only [bZ,cx,hx]; rfl,h⟩
    ·exact ⟨_,by simp only [bZ,cx,hx,hq]; rfl,h⟩
   ·cases h
  ·cases h
 | un op x=>
  grind [Yh,cx,ik,bZ]
 | conv k x=>
  obtain ⟨kd,n,e,h⟩:=oW h;exact ⟨_,by simp only [bZ,cx,e,V.int?]; rfl,h⟩
 | adc s x y c=>
  simp [ik] at h;split at h
  ·rename_i a b d ha hb hd;obtain ⟨h0,h⟩:=dO h;exact ⟨_,by grind [cx,bZ],h⟩
  ·cases h
 | mm isMax x y=>
  simp only [ik] at h;split at h
  ·rename_i k a k' b ha hb;exact ⟨_,by grind [cx,bZ],h⟩
  ·cases h
 | copy sz d s=>
  simp [ik] at h;split at h
  ·rename_i id off len sz1 hd;obtain ⟨u,e,h⟩:=nq h;split at h
   ·rename_i sz2 es;split at h
    ·rename_i cs hb;obtain ⟨hc,h⟩:=dO h;exact ⟨_,by grind [bZ],h⟩
    ·cases h
   ·cases h
  ·cases h
 | buildSlice sz n zero parts=>
  obtain ⟨cs,e,h⟩:=JJ h
  grind [bZ]
 | bin op x y=>
  grind [zck,Yh,cx,ik,bZ]
 | aY neg n x y=>
  grind [zfe,cx,ik,bZ]
 | ofStr x=>
  grind [WY,ik,bZ]
 | toStr x=>
  obtain ⟨u,e,h⟩:=nq h;split at h
  ·grind [cx,bZ,zdH]
  ·cases h
 | bG x=>
  grind [dO,cx,ik,bZ]
 | bn x y=>
  obtain ⟨u,e,h⟩:=nq h;obtain ⟨v,e',h⟩:=nq h;split at h
  ·unfold zgT at h;split at h
   ·rename_i a ha;split at h
    ·rename_i b hb;exact ⟨_,by grind [cx,bZ],h⟩
    ·cases h
   ·cases h
  ·cases h
 | makeSlice sz bytes zero l c=>
  obtain ⟨k1,l',e1,h⟩:=oW h;obtain ⟨k2,c',e2,h⟩:=oW h;cases af with
  | true=>
   obtain ⟨hc,h⟩:=dO h;obtain ⟨σ',e3,h⟩:=sW h;exact ⟨σ',by simp only [bZ,e1,e2,V.int?]; grind,h⟩
  | false=>
   obtain ⟨hc,h⟩:=dO h;obtain ⟨σ',e3,h⟩:=sW h;exact ⟨σ',by simp only [bZ,e1,e2,V.int?]; grind,h⟩
 | ax n sz x lo hi mx=>
  obtain ⟨l,hh,m,e,h⟩:=vK h;split at h
  ·rename_i id off hx;split at h
   ·rename_i p cs hb;obtain ⟨hl,h⟩:=dO h;refine ⟨_,by simp only [bZ,cx,e,Wab,Wbz,hx,hb,hl,if_true,Option.map_some]; rfl,?_⟩;rcases ug h with ⟨q,h⟩ | ⟨q,h⟩
    ·grind
    ·grind
   ·grind [dO,ug,cx,bZ]
   ·cases h
  ·grind [dO,cx,bZ]
  ·cases h
 | aT sz x lo hi mx=>
  simp [ik] at h;split at h
  ·rename_i sz' es hx;obtain ⟨l,hh,m,e,h⟩:=vK h;obtain ⟨hs,h⟩:=dO h;cases mx with
   | none=>exact ⟨Z.put dst (.sl sz ((es.drop l).take (hh-l))),by grind [cx,bZ],h⟩
   | some s=>
    grind [ug,cx,bZ]
  ·rename_i id off len sz' hx;obtain ⟨l,hh,m,e,h⟩:=vK h;obtain ⟨hs,h2⟩:=dO h;subst hs;cases mx with
   | none=>grind [cx,bZ]
   | some s=>
    grind [ug,cx,bZ]
  ·rename_i id off len cap sz' hx;cases hi with
   | none=>cases h
   | some s0=>
    cases mx with
    | some _=>cases h
    | none=>
     grind [vK,dO,cx,bZ]
  ·cases h
 | aW sz x hi=>
  simp [ik] at h;split at h
  ·rename_i id off len sz' hx;cases hi with
   | none=>cases h
   | some s0=>
    grind [vK,dO,cx,bZ]
  ·cases h
 | aD sz x hi mx=>
  simp [ik] at h;split at h
  ·rename_i sz' es hx;obtain ⟨kd,i,e,h⟩:=oW h;obtain ⟨kd',i',e',h⟩:=oW h;obtain ⟨hs,h⟩:=dO h;obtain ⟨hc,h2⟩:=dO h;refine ⟨_,?_,h2⟩;have e2:(hi.get Z).int?=some i:=by rw [e]; rfl
   have e3:(mx.get Z).int?=some i':=by rw [e']; rfl
   simp only [bZ,cx,hx,e2,e3];rw [if_pos ⟨hc.1,hc.2.1,hc.2.2,hs.2,hs.1⟩]; rfl
  ·cases h
 | field agg o n x=>
  grind [Fe,cx,ik,bZ]
 | al len sz x i=>
  obtain ⟨k1,j,e1,h⟩:=oW h;obtain ⟨hj,h⟩:=dO h;split at h
  ·rename_i id off hx;exact ⟨_,by simp [bZ,cx,hx,e1,V.int?,hj],h⟩
  ·rename_i q cs hx;obtain ⟨hl,h⟩:=dO h;exact ⟨_,by simp [bZ,cx,hx,e1,V.int?,hj,hl],h⟩
  ·cases h
 | aj sz x i=>
  obtain ⟨k1,j,e1,h⟩:=oW h;split at h
  ·rename_i sz' es hx;obtain ⟨hs,h2⟩:=dO h;obtain ⟨hj,cc,e,h3⟩:=zfx h2;subst hs;exact ⟨_,by simp [bZ,cx,hx,e1,V.int?,hj,e],h3⟩
  ·rename_i id off len sz' hx;obtain ⟨hs,h2⟩:=dO h;obtain ⟨hj,h3⟩:=dO h2;subst hs;exact ⟨_,by simp [bZ,cx,hx,e1,V.int?,hj],h3⟩
  ·cases h
 | bv n sz x=>
  grind [dO,cx,ik,bZ]
 | aR agg len sz x i=>
  obtain ⟨k1,j,e1,h⟩:=oW h;obtain ⟨hj,h⟩:=dO h;split at h
  ·rename_i cs hx;cases agg with
   | true=>exact ⟨_,by simp [bZ,cx,hx,e1,V.int?,hj],h⟩
   | false=>
    obtain ⟨v,e,h⟩:=Fe h;exact ⟨_,by simp [bZ,cx,hx,e1,V.int?,hj,e],h⟩
  ·cases h
 | load agg n a take=>
  simp [ik] at h;split at h
  ·rename_i id off hx;split at h
   ·rename_i p cs hb;cases agg with
    | true=>
     obtain ⟨hl,h⟩:=dO h;cases p with
     | true=>grind [bZ]
     | false=>
      grind [Fv,za2,bZ]
    | false=>
     cases take with
     | true=>
      grind [zcr,uu,bZ]
     | false=>
      grind [Zp,bZ]
   ·grind [Fe,dO,bZ]
   ·cases h
  ·grind [Fe,dO,bZ]
  ·cases h
 | store n a x=>
  cases dst with
  | some d=>cases h
  | none=>
  simp [ik] at h;split at h
  ·rename_i id off hx;split at h
   ·rename_i cs hb;split at h
    ·rename_i v hv;obtain ⟨hl,h⟩:=dO h;exact ⟨_,by simp [bZ,hx,hb,hv,hl],h⟩
    ·cases h
   ·rename_i cs hb;cases hxv:x.get Z <;> simp only [hxv] at h
    case agg us=>
     obtain ⟨hl,h⟩:=dO (FK h);exact ⟨_,by simp [bZ,hx,hb,hxv,hl],h⟩
    case st us=>
     obtain ⟨hl,h⟩:=dO h;exact ⟨_,by simp [bZ,hx,hb,hxv,hl],h⟩
    case ah=>cases h
    case bx=>cases h
    case ae=>cases h
    all_goals
     obtain ⟨hl,h⟩:=dO h;exact ⟨_,by simp [bZ,hx,hb,hxv,hl],h⟩
   ·cases h
  ·cases h
 | append sz bytes s x=>
  simp only [ik] at h;split at h
  ·rename_i sz1 es hs;obtain ⟨u,e,h⟩:=nq h;split at h
   ·rename_i sz2 es2;obtain ⟨⟨h1,h2⟩,h⟩:=dO h;obtain ⟨h3,h⟩:=dO h;cases af with
    | true=>
     grind [bZ]
    | false=>
     refine ⟨_,?_,h⟩
     grind [bZ]
   ·cases h
  ·grind [dO,bZ,nq]
  ·rename_i id off len sz1 hs;obtain ⟨u,e,h⟩:=nq h;split at h
   ·rename_i sz2 es2;split at h
    ·rename_i cs hb;obtain ⟨⟨h1,h2,h0⟩,h⟩:=dO h;obtain ⟨h3,h⟩:=dO h;obtain ⟨σ',e3,h⟩:=sW h
     grind [bZ]
    ·cases h
   ·cases h
  ·rename_i id off len cap sz1 hs;obtain ⟨u,e,h⟩:=nq h;split at h
   ·rename_i sz2 es2;split at h
    ·rename_i cs hb;split at h
     ·obtain ⟨⟨h1,h2,h0⟩,h⟩:=dO h;obtain ⟨h3,h⟩:=dO h;refine ⟨_,?_,h⟩
      grind [bZ]
     ·cases h
    ·cases h
   ·cases h
  ·cases h
 | aF sz bytes s x=>
  cases af with
  | true=>grind [ik]
  | false=>
   simp only [ik] at h;split at h
   ·grind [dO,R9,bZ,nq]
   ·rename_i sz1 es hs;obtain ⟨u,e,h⟩:=nq h;split at h
    ·rename_i sz2 es2;obtain ⟨⟨h1,h2⟩,h⟩:=dO h;obtain ⟨h3,h⟩:=dO h;refine ⟨_,?_,h⟩
     grind [R9,bZ]
    ·cases h
   ·cases h
 | bk p sz a=>
  simp [ik] at h;split at h
  ·rename_i id off hx;split at h
   ·rename_i cs hb;obtain ⟨v,hv,h⟩:=uu h;split at h
    ·rename_i sz1 es;split at h
     ·rename_i d;obtain ⟨h1,h⟩:=dO h;obtain ⟨σ',e,h⟩:=sW h
      grind [bZ]
     ·cases h
    ·cases h
   ·cases h
  ·cases h
 | aX n a x xs=>
  cases dst with
  | some d=>cases h
  | none=>
  grind [dO,ik,bZ]
 | aE n a=>
  grind [dO,Le,ik,bZ]
 | bh p sz x=>
  simp only [ik] at h;split at h
  ·rename_i sz1 es hx;split at h
   ·rename_i t d;obtain ⟨h1,h⟩:=dO h;obtain ⟨σ',e,h⟩:=sW h
    grind [bZ]
   ·cases h
  ·cases h
 | a8 x=>
  grind [dO,ik,bZ]
 | clear sz zero x=>
  simp [ik] at h;split at h
  ·rename_i id off len sz1 hx;split at h
   ·rename_i cs hb;obtain ⟨h1,h⟩:=dO h;exact ⟨_,by grind [bZ],h⟩
   ·cases h
  ·cases h
 | aO sz bytes zero s x=>
  simp [ik] at h;split at h
  ·rename_i sz1 es hs;obtain ⟨kd,n,e,h⟩:=oW h;obtain ⟨h1,h⟩:=dO h;obtain ⟨h2,h⟩:=dO h;cases af with
   | true=>cases h
   | false=>
    refine ⟨_,?_,h⟩;simp only [bZ,hs,e,V.int?];rw [if_pos ⟨h1,h2⟩];rfl
  ·cases h
 | extract x i=>
  grind [Wj,ik,bZ]
 | call f args xs=>
  grind [PJ,ik,bZ]
 | aQ f args xs=>
  simp [ik] at h;split at h
  ·grind [PJ,bZ]
  ·cases h
 | bc kd ok zero x y=>
  simp [ik] at h;split at h
  ·grind [SV,mAt,bZ]
  ·cases h
 | bz kd x y z=>
  simp [ik] at h;split at h
  ·cases h
  ·split at h
   ·rename_i id hx;split at h
    ·rename_i es hes;split at h
     ·rename_i v hv;unfold VN at h;split at h
      ·rename_i hko;split at h
       ·rename_i q hq;refine ⟨_,?_,h⟩
        grind [bZ]
       ·cases h
      ·cases h
     ·cases h
    ·cases h
   ·cases h
 | _=>exact zff rfl h
theorem PK(hc:vT c cb){κ:St->St->Option Y}(h:LH sh c nb Z o κ=some r):∃ σ',cV cb nb Z o=some σ'/\κ Z σ'=some r:=by
 unfold LH at h;split at h
 ·grind [gJ,WH,cV]
 ·rename_i j want hg;split at h
  ·grind [St.set_same,gJ,ug,lt,WH,cV]
  ·grind [gJ,cV]
  ·cases h
theorem M8(hc:vT c cb):∀ {ops:List COp} {Z:St} {κ:St->Option Y},Ok sh c nb ops Z κ=some r->∃ σ',ny cb nb ops Z=some σ'/\κ σ'=some r
 | [],Z,κ,h=>⟨Z,rfl,h⟩
 | o::ops,Z,κ,h=>by
  obtain ⟨σ1,e1,h⟩:=PK hc h;obtain ⟨σ2,e2,h⟩:=M8 hc h
  grind [ny]
theorem Uj(hc:vT c cb):∀ {ops:List (COp × Fl)} {Z:St} {κ:St->Option Y},Vt sh c nb ops Z κ=some r->∃ σ',sE cb nb ops Z=some σ'/\κ σ'=some r
 | [],Z,κ,h=>⟨Z,rfl,h⟩
 | (o,q)::ops,Z,κ,h=>by
  obtain ⟨σ1,e1,h⟩:=PK hc h;split at h
  ·rename_i hq;obtain ⟨σ2,e2,h⟩:=Uj hc h
   grind [sE]
  ·cases h
theorem Wy{body:St->KT Y->Option Y}{bodyN:St->Option (Ex × St)}{norm:St->St}(hb:∀ Z K,body Z K=some r->∃ ex σ',bodyN Z=some (ex,σ')/\K ex σ'=some r):∀ (n:Nat) (Z:St) (K:KT Y),dX body norm n (norm Z) K=some r->∃ ex σ',nV bodyN norm n Z=some (ex,σ')/\K ex σ'=some r
 | 0,Z,K,h=>by cases h
 | n+1,Z,K,h=>by
  obtain ⟨ex,σ1,e,h⟩:=hb _ _ h;cases ex with
  | normal=>
   obtain ⟨ex,σ2,e2,h⟩:=Wy hb n σ1 K h
   grind [nV]
  | exit j=>exact ⟨_,_,by simp [nV,e],h⟩
  | ret=>exact ⟨_,_,by simp [nV,e],h⟩
theorem zdC{σ':St}(h:bZ (λ_ _ _=>none) nb Z dst af k=some σ'):bZ cb nb Z dst af k=some σ':=by
 cases k with
 | call f args xs=>
  simp only [bZ,lh,Wab,Waa,Prod.exists] at h
  grind
 | aQ f args xs=>
  simp only [bZ] at h;split at h
  ·simp only [lh,Wab,Waa,Prod.exists] at h
   grind
  ·cases h
 | _=>exact h
theorem T6{σ':St}(h:cV (λ_ _ _=>none) nb Z o=some σ'):cV cb nb Z o=some σ':=by
 grind [zdC,cV]
theorem Pq:∀ {ops:List COp} {Z σ':St},ny (λ_ _ _=>none) nb ops Z=some σ'->ny cb nb ops Z=some σ'
 | [],Z,σ',h=>h
 | o::ops,Z,σ',h=>by
  simp [ny,Waa] at h ⊢;obtain ⟨σ1,h1,h2⟩:=h;exact ⟨σ1,T6 h1,Pq h2⟩
theorem WO:∀ {ops:List (COp × Fl)} {Z σ':St},sE (λ_ _ _=>none) nb ops Z=some σ'->sE cb nb ops Z=some σ'
 | [],Z,σ',h=>h
 | (o,q)::ops,Z,σ',h=>by
  simp [sE] at h ⊢;split at h
  ·rename_i σ1 h1;rw [T6 h1];split at h
   ·rename_i hq;simp [hq];exact WO h
   ·cases h
  ·cases h
theorem zat:∀ (cc:CC) (Z:St) (r:Ex × St),run (λ_ _ _=>none) nb L cc Z=some r->run cb nb L cc Z=some r:=by
 intro cc
 induction cc with
 | skip=>intro Z r h; exact h
 | bw ops=>
  intro Z r h;simp [run] at h ⊢;obtain ⟨σ1,h1,h2⟩:=h;exact ⟨σ1,Pq h1,h2⟩
 | bt fz ops=>
  intro Z r h;simp [run] at h ⊢;obtain ⟨σ1,h1,h2⟩:=h;exact ⟨σ1,WO h1,h2⟩
 | seq a b iha ihb=>
  intro Z r h;simp [run] at h ⊢;split at h
  ·rename_i σ1 h1;rw [iha _ _ h1];exact ihb _ _ h
  ·rename_i hne;obtain ⟨ex,σ1⟩:=r;rw [iha _ _ h];cases ex with
   | normal=>exact absurd h (hne _)
   | exit j=>rfl
   | ret=>rfl
 | fork p s a b ihp iha ihb=>
  intro Z r h;simp [run] at h ⊢;split at h
  ·rename_i σ1 h1;rw [ihp _ _ h1];simp only;split at h
   ·split at h
    ·rename_i hs;obtain ⟨e,_⟩:=NE hs;rw [iha _ _ (e.trans h),ihb _ _ h];rw [e,h] at hs;simp [hs]
    ·cases h
   ·split at h
    ·split at h
     ·rename_i σ2 h2;rw [iha _ _ h2];exact ihb _ _ h
     ·rename_i hne;obtain ⟨ex,σ2⟩:=r;rw [iha _ _ h];cases ex with
      | normal=>exact absurd h (hne _)
      | exit j=>rfl
      | ret=>rfl
    ·exact ihb _ _ h
    ·cases h
  ·rename_i hne;obtain ⟨ex,σ1⟩:=r;rw [ihp _ _ h];cases ex with
   | normal=>exact absurd h (hne _)
   | exit j=>rfl
   | ret=>rfl
 | cond s a b iha ihb=>
  intro Z r h;simp [run] at h ⊢;split at h
  ·split at h
   ·rename_i hs;have e:=Og hs;rw [iha _ _ (e.trans h),ihb _ _ h];rw [e,h] at hs;simp [hs]
   ·cases h
  ·rename_i hne;split at h
   ·rename_i t ht;cases t with
    | true=>simp at h ⊢; exact iha _ _ h
    | false=>simp at h ⊢; exact ihb _ _ h
   ·cases h
 | block id a ih=>
  intro Z r h;simp [run] at h ⊢;cases ha:run (λ_ _ _=>none) nb L a Z with
  | none=>rw [ha] at h; cases h
  | some q=>rw [ha] at h; rw [ih _ _ ha]; exact h
 | loop kt kb a ih=>
  intro Z r h;simp only [run] at h ⊢;have key:∀ (n:Nat) (Z:St),nV (run (λ_ _ _=>none) nb L a) (fF nb kt kb) n Z=some r->nV (run cb nb L a) (fF nb kt kb) n Z=some r:=by
   intro n
   induction n with
   | zero=>intro Z h; cases h
   | succ n ihn=>
    intro Z h;simp [nV] at h ⊢;cases ha:run (λ_ _ _=>none) nb L a (fF nb kt kb Z) with
    | none=>rw [ha] at h; cases h
    | some q=>
     obtain ⟨ex,σ1⟩:=q;rw [ha] at h;rw [ih _ _ ha];cases ex with
     | normal=>exact ihn _ h
     | exit j=>exact h
     | ret=>exact h
  exact key L Z h
 | mask kt kb=>intro Z r h; exact h
 | exit id=>intro Z r h; exact h
 | ret=>intro Z r h; exact h
theorem zeV(hc:vT c cb):∀ (cc:CC) (Z:St) (K:KT Y),cC sh c nb L cc Z K=some r->∃ ex σ',run cb nb L cc Z=some (ex,σ')/\K ex σ'=some r:=by
 intro cc
 induction cc with
 | skip=>intro Z K h; exact ⟨_,_,rfl,h⟩
 | bw ops=>
  intro Z K h;obtain ⟨σ',e,h⟩:=M8 hc h
  grind [run]
 | bt fz ops=>
  intro Z K h;obtain ⟨σ',e,h⟩:=Uj hc (qW nb fz Z _ h)
  grind [run]
 | seq a b iha ihb=>
  intro Z K h;obtain ⟨ex,σ1,e,h⟩:=iha _ _ h;cases ex with
  | normal=>
   obtain ⟨ex,σ2,e2,h⟩:=ihb _ _ h
   grind [run]
  | exit j=>exact ⟨_,_,by simp [run,e],h⟩
  | ret=>exact ⟨_,_,by simp [run,e],h⟩
 | fork p s a b ihp iha ihb=>
  intro Z K h;obtain ⟨ex,σ1,e,h⟩:=ihp _ _ h;cases ex with
  | exit j=>exact ⟨_,_,by simp [run,e],h⟩
  | ret=>exact ⟨_,_,by simp [run,e],h⟩
  | normal=>
   simp [dN] at h;split at h
   ·grind [onR,run,zat,NE]
   ·rename_i hne;obtain ⟨t,et,h⟩:=Kk h;rcases ug h with ⟨rfl,h⟩ | ⟨rfl,h⟩
    ·obtain ⟨ex,σ2,e1,h⟩:=iha _ _ h;cases ex with
     | normal=>
      obtain ⟨ex,σ3,e2,h⟩:=ihb _ _ h;exact ⟨ex,σ3,by simp [run,e,et,V.bool?,e1]; exact e2,h⟩
     | exit j=>exact ⟨_,_,by simp [run,e,et,V.bool?,e1],h⟩
     | ret=>exact ⟨_,_,by simp [run,e,et,V.bool?,e1],h⟩
    ·obtain ⟨ex,σ2,e1,h⟩:=ihb _ _ h;exact ⟨ex,σ2,by simp [run,e,et,V.bool?]; exact e1,h⟩
 | cond s a b iha ihb=>
  intro Z K h;simp [cC] at h;split at h
  ·rename_i hub;split at h
   ·rename_i hsame;unfold onR at h
    grind [run,zat]
   ·cases h
  ·rename_i hne;obtain ⟨t,e,h⟩:=Kk h;rcases ug h with ⟨rfl,h⟩ | ⟨rfl,h⟩
   ·obtain ⟨ex,σ1,e1,h⟩:=iha _ _ h;exact ⟨ex,σ1,by simp [run,e,V.bool?]; exact e1,h⟩
   ·obtain ⟨ex,σ1,e1,h⟩:=ihb _ _ h;exact ⟨ex,σ1,by simp [run,e,V.bool?]; exact e1,h⟩
 | block id a ih=>
  intro Z K h;obtain ⟨ex,σ1,e,h⟩:=ih _ _ h;cases ex with
  | normal=>exact ⟨_,_,by simp [run,e],h⟩
  | exit j=>
   simp [cW] at h;split at h
   ·rename_i hj;have hj:=Nat.eq_of_beq_eq_true hj
    grind [run]
   ·rename_i hj;have:j≠id:=Nat.ne_of_beq_eq_false hj;exact ⟨_,_,by grind [run],h⟩
  | ret=>exact ⟨_,_,by simp [run,e],h⟩
 | loop kt kb a ih=>
  intro Z K h;obtain ⟨ex,σ',e,h⟩:=Wy ih L Z K h;exact ⟨ex,σ',by simp [run]; exact e,h⟩
 | mask kt kb=>intro Z K h; exact ⟨_,_,rfl,h⟩
 | exit id=>intro Z K h; exact ⟨_,_,rfl,h⟩
 | ret=>intro Z K h; exact ⟨_,_,rfl,h⟩
theorem Ql{rv:RV}{k:V->Option Y}(h:CQ nb Z rv k=some r):∃ v,fD nb Z rv=some v/\k v=some r:=by
 cases rv with
 | aC t n p=>cases h
 | tmp t=>
  simp only [CQ] at h;split at h
  ·grind [dO,fD]
  ·grind [dO,Fv,fD]
  ·grind
 | aK t=>
  grind [fD,CQ]
 | cell t agg n=>
  simp only [CQ] at h;split at h
  ·grind [uu,dO,Fv,fD]
  ·cases h
theorem MZ{Z:St}:∀ {rs:List RV} {k:List V->Option Y},Nu nb Z rs k=some r->∃ vs,rs.mapM (fD nb Z)=some vs/\k vs=some r
 | [],k,h=>⟨[],rfl,h⟩
 | x::rs,k,h=>by
  obtain ⟨v,e,h⟩:=Ql h;obtain ⟨vs,e2,h⟩:=MZ h
  simp_all
theorem Xi{k:V->Option Y}(h:It nb Z rs k=some r):∃ v,results nb Z rs=some v/\k v=some r:=by
 unfold It at h
 grind [MZ,Ql,results]
theorem CV{b:List B}{ids:List Nat}:∀ {l:List Nat} {k:Bor->Option Y},HD b nb ids l k=some r->∃ bor,vQ b nb ids l=some bor/\k bor=some r
 | [],k,h=>⟨[],rfl,h⟩
 | id::l,k,h=>by
  simp only [HD] at h;split at h
  ·rename_i p cs hb;cases p with
   | true=>
    obtain ⟨bor,e,h⟩:=CV (l:=l) h
    grind [B.isRow,B.lend,B.aa,vQ]
   | false=>
    simp only at h;split at h
    ·rename_i hd;obtain ⟨hl,h⟩:=dO h;obtain ⟨bor,e,h⟩:=CV (l:=l) h
     grind [B.lend,B.aa,vQ]
    ·split at h
     ·rename_i m;obtain ⟨hl,h⟩:=dO h;obtain ⟨bor,e,h⟩:=CV (l:=l) h
      grind [B.isRow,B.lend,B.aa,vQ,ji]
     ·cases h
  ·rename_i es hb;obtain ⟨bor,e,h⟩:=CV (l:=l) h
   grind [B.isRow,B.lend,B.aa,vQ]
  ·rename_i n hb;split at h
   ·rename_i hd;obtain ⟨bor,e,h⟩:=CV (l:=l) h
    grind [B.lend,B.aa,vQ]
   ·cases h
  ·cases h
theorem YD{k:V->Bor->Option Y}(h:(match ng Z.t.length rs Z with
  | some (Z,rs)=>It nb Z rs λv=>HD Z.b nb (lQ Z.b nb v) (lQ Z.b nb v) λb=>match mu (lQ Z.b nb v) with
   | true=>k (oP (eT (lQ Z.b nb v)) v) b
   | false=>none
  | none=>none)=some r):∃ v b,Bk nb Z rs=some (v,b)/\k v b=some r:=by
 split at h;rotate_left
 ·cases h
 rename_i σ1 rs1 hu;obtain ⟨v,e1,h⟩:=Xi h;obtain ⟨b,e2,h⟩:=CV h;split at h
 ·rename_i hd;refine ⟨_,b,?_,h⟩
  grind [Bk,GT]
 ·cases h
theorem XK{pr:CB}{d:Nat}(hc:vT c (tx (evF T pr L d)))(hT:T f=some cf){bor:Bor}{k:V->Bor->Option Y}(h:dj sh c L cf args bor k=some r):∃ v b,evF T pr L (d+1) f args bor=some (v,b)/\k v b=some r:=by
 have h:Ve sh c L cf args bor k=some r:=by
  unfold dj at h;split at h
  ·rename_i sz es rest _;cases es with
   | nil=>exact h
   | cons a l=>exact h
  ·exact h
 obtain ⟨ex,σ',e,h⟩:=zeV hc _ _ _ h;cases ex with
 | exit j=>cases h
 | normal=>
  obtain ⟨v,b,e1,h⟩:=YD h
  grind [evF]
 | ret=>
  obtain ⟨v,b,e1,h⟩:=YD h
  grind [evF]
def FOk(T:Nat->Option CF)(L g:Nat)(d:∀ (Y:Type),List V->Bor->(V->Bor->Option Y)->Option Y)(D:Nat):Prop:=∀ n,D<=n->∀ (Y:Type) (args:List V) (bor:Bor) (k:V->Bor->Option Y) (r:Y),d Y args bor k=some r->∃ v b,tx (evF T Ab L n) g args bor=some (v,b)/\k v b=some r
theorem ep:vT noC cb:=by
 intro Y f args bor k r h; cases h
theorem cU(hc:vT c cb){d:∀ (Y:Type),List V->Bor->(V->Bor->Option Y)->Option Y}(hd:∀ (Y:Type) (args:List V) (bor:Bor) (k:V->Bor->Option Y) (r:Y),d Y args bor k=some r->∃ v b,cb g args bor=some (v,b)/\k v b=some r):vT (d6 g d c) cb:=by
 intro Y f args bor k r h;unfold d6 at h;split at h
 ·simp_all
 ·exact hc _ _ _ _ _ _ h
theorem zdY(hg:frN g=false)(args:List V)(bor:Bor):tx cb g args bor=cb g args bor:=by
 unfold tx; rw [hg]
theorem eF(hT:T g=some cf){d:∀ (Y:Type),List V->Bor->(V->Bor->Option Y)->Option Y}{D:Nat}
  (h:∀ m,D<=m->∃ (sh:Nat->Sh) (c:CBC),vT c (tx (evF T Ab L m))/\∀ (Y:Type) (args:List V) (bor:Bor) (k:V->Bor->Option Y) (r:Y),d Y args bor k=some r->dj sh c L cf args bor k=some r) (hg:frN g=false:=by rfl):FOk T L g d (D+1):=by
 intro n hn Y args bor k r hr;obtain ⟨m,rfl⟩:∃ m,n=m+1:=⟨n-1,by omega⟩;obtain ⟨sh,c,hc,hd⟩:=h m (by omega);rw [zdY hg];exact XK hc hT (hd _ _ _ _ _ hr)
abbrev Dk:=∀ (Y:Type),List V->Bor->(V->Bor->Option Y)->Option Y
variable {X:Dk}
def d0(f:∀ (Y:Type),(V->Bor->Option Y)->Option Y):Dk:=λY a b k=>(λ(_:Nat->Nat)=>match a with
 | []=>(match b with
  | []=>f Y k
  | _::_=>none)
 | _::_=>none) RX
def dA{α:Type}(acc:∀ (Y:Type),V->(α->Option Y)->Option Y)(f:α->Dk):Dk:=λY a b k=>(λ(_:Nat->Nat)=>match a with
 | v::r=>acc Y v (λp=>f p Y r b k)
 | []=>none) RX
def DK(d X:Dk):Prop:=∀ Y args bor k r,d Y args bor k=some r->X Y args bor k=some r
theorem WZ{f:∀ (Y:Type),(V->Bor->Option Y)->Option Y}{a:List V}{b:Bor}{k:V->Bor->Option Y}{r:Y}(e:d0 f Y a b k=some r):a=[]/\b=[]/\f Y k=some r:=by
 cases a with
 | cons v a=>have e:none=some r:=e; cases e
 | nil=>cases b with
  | cons v b=>have e:none=some r:=e; cases e
  | nil=>exact ⟨rfl,rfl,e⟩
theorem fy{f:∀ (Y:Type),(V->Bor->Option Y)->Option Y}(h:∀ Y k,X Y [] [] k=f Y k):DK (d0 f) X:=by
 intro Y a b k r e
 grind [WZ]
def Cx{α:Type}(acc:∀ (Y:Type),V->(α->Option Y)->Option Y)(mk:α->V):Prop:=∀ Y v k r,acc Y v k=some r->∃ p,v=mk p/\k p=some r
theorem dl{α:Type}{acc:∀ (Y:Type),V->(α->Option Y)->Option Y}{mk:α->V}(hi:Cx acc mk){f:α->Dk}(h:∀ p,DK (f p) (λY a b k=>X Y (mk p::a) b k)):DK (dA acc f) X:=by
 intro Y a b k r e;cases a with
 | nil=>have e:none=some r:=e; cases e
 | cons v a=>
  have e:acc Y v (λp=>f p Y a b k)=some r:=e;obtain ⟨p,rfl,e2⟩:=hi _ _ _ _ e;exact h p _ _ _ _ _ e2
theorem zeA{X:Nat->Dk}{c:Nat}(e:∀ (Y:Type) (n:Nat) (k:V->Bor->Option Y),X (n+c) Y [] [] k=k v [])(L:Nat):DK (d0 λ_ k=>chk (c<=L) (k v [])) (X L):=by
 refine λY args bor k r h=>?_;obtain ⟨rfl,rfl,h2⟩:=WZ h;rw [nL] at h2;split at h2
 ·rename_i hc;obtain ⟨n,rfl⟩:∃ n,L=n+c:=⟨L-c,by omega⟩;rw [e]; exact h2
 ·cases h2
abbrev AI(kd:IntKind)(Y:Type)(v:V)(k:Int->Option Y):Option Y:=aI kd v k
abbrev AL(sz:Nat)(Y:Type)(v:V)(k:Ls->Option Y):Option Y:=aL sz v k
abbrev AGs(sz:Nat)(Y:Type)(v:V)(k:Ls->Option Y):Option Y:=aGs sz v k
abbrev AG(Y:Type)(v:V)(k:List V->Option Y):Option Y:=aG v k
theorem gm:Cx (AI kd) (λn=>.sc (.int kd n)):=λ_ _ _ _ h=>tU h
theorem im:Cx (AL sz) (λn=>.sl sz n):=λ_ _ _ _ h=>AV h
theorem zbm:Cx (AGs sz) (λn=>.gs sz n):=λ_ _ _ _ h=>zeH h
theorem fN:Cx AG (λn=>.agg n):=λ_ _ _ _ h=>zbL h
theorem EX(kd:IntKind)(n:Int)(k:Int->Option Y):aI kd (.sc (.int kd n)) k=k n:=by show chk (kd=kd) (k n)=k n; rw [nL,if_pos rfl]
theorem zhD(sz:Nat)(l:Ls)(k:Ls->Option Y):aL sz (.sl sz l) k=k l:=by show chk (sz=sz) (k l)=k l; rw [nL,if_pos rfl]
theorem ZV(l:List V)(k:List V->Option Y):aG (.agg l) k=k l:=rfl
end
end
section
variable {p:Prop}{cs c:List V}{off sz:Nat}{n:Int}{es:Ls}{k:IntKind}
section
variable {Y:Type}
theorem cH{α:Type}(a:α)(k:α->Option Y):lt a k=k a:=Eq.trans rfl rfl
theorem bT{inst:Decidable p}(h:p)(k:Option Y):@chk Y p inst k=k:=(nL p k).trans (if_pos h)
theorem U1{inst:Decidable True}(k:Option Y):@chk Y True inst k=k:=(nL True k).trans (if_pos trivial)
theorem gY(a b:Option Y):ifb true a b=a:=rfl
theorem eD(a b:Option Y):ifb false a b=b:=rfl
theorem X9{inst:Decidable p}(a b:Option Y):ifb (@decide p inst) a b=if p then a else b:=by
 grind [ifb]
theorem du{inst:Decidable p}(h:p)(a b:Option Y):ifb (@decide p inst) a b=a:=by rw [X9,if_pos h]
theorem dt{inst:Decidable p}(h:¬ p)(a b:Option Y):ifb (@decide p inst) a b=b:=by rw [X9,if_neg h]
theorem fd{x y:Int}(h:x=y)(a b:Option Y):ifb (x==y) a b=a:=by subst h; simp [ifb]
theorem eA{x y:Int}(h:x≠y)(a b:Option Y):ifb (x==y) a b=b:=by rw [beq_eq_false_iff_ne.2 h]; rfl
theorem eQ{kd:IntKind}(h:cs[off]?=some (.sc (.int kd n)))(k:Int->Option Y):cI kd cs off k=k n:=by
 simp [cI,mR,h,aI,U1]
theorem ze9{b:Bool}(h:cs[off]?=some (.sc (.bool b)))(k:Bool->Option Y):cB cs off k=k b:=by
 simp [cB,mR,h,aB]
theorem ro(h:cs[off]?=some (.sl sz es))(k:Ls->Option Y):cL sz cs off k=k es:=by
 simp [cL,mR,h,aL,U1]
theorem j3(h:cs[off]?=some (.sl sz es))(k:Ls->Option Y):cLd sz cs off k=k es:=by
 simp [cLd,mR,h,aLd,U1]
theorem wx{j:Int}(h0:0<=j)(h:es[j.toNat]?=some c)(k:List V->Option Y):idx es j k=k c:=by
 simp [idx,h0,h,U1]
theorem fe{j:Nat}(h:es[j]?=some c)(k:List V->Option Y):idx es (j:Int) k=k c:=
 wx (Int.natCast_nonneg j) (by simpa using h) k
end
theorem kI(h1:-9223372036854775808<=n)(h2:n<=9223372036854775807):Wbf .i64 n=n:=IntWalk.i64_in _ ⟨h1,h2⟩
theorem zgs(hk:k.signed=false)(h1:0<=n)(h2:n<2 ^ k.bits):Wbf k n=n:=by
 unfold Wbf;simp [hk];exact Int.emod_eq_of_lt h1 h2
theorem NT(h1:0<=n)(h2:n<=18446744073709551615):Wbf .u64 n=n:=zgs rfl h1 (Int.lt_of_le_of_lt h2 (by decide))
def eB(k:IntKind)(l:List Int):Ls:=l.map λn=>[.sc (.int k n)]
theorem jj(k:IntKind)(l:List Int):(eB k l).length=l.length:=by simp [eB]
theorem Wh(k:IntKind){l:List Int}{i:Nat}(h:i<l.length):(eB k l)[i]?=some [.sc (.int k l[i])]:=by simp [eB]
theorem C5(k:IntKind)(l m:List Int):eB k l++eB k m=eB k (l++m):=by simp [eB]
theorem HasRow.bL{e:List V}(h:HasRow [.int k] e):∃ n,e=[.sc (.int k n)]/\(Lit.int k n).wf=true:=by
 obtain ⟨h1,h2⟩:=h
 match e,h1 with
 | [v],_=>
  obtain ⟨n,rfl,hn⟩:=(h2 0 v _ rfl rfl).bH;exact ⟨n,rfl,hn⟩
theorem Ya{k:IntKind}:∀ {es:Ls},(∀ e∈es,HasRow [.int k] e)->∃ l:List Int,es=eB k l/\∀ n∈l,(Lit.int k n).wf=true
 | [],_=>⟨[],rfl,by simp⟩
 | e::es,h=>by
  obtain ⟨n,rfl,hn⟩:=(h e (by simp)).bL;obtain ⟨l,rfl,hl⟩:=Ya (es:=es) (λx hx=>h x (by simp [hx]));exact ⟨n::l,rfl,by simpa [hn] using hl⟩
def row(k:IntKind)(l:List Int):List V:=l.map λn=>.sc (.int k n)
theorem fW(k:IntKind)(l:List Int):(row k l).length=l.length:=by simp [row]
theorem HB(k:IntKind):∀ (n:Nat) (l:List Int),n<=l.length->cz 1 n (row k l)=eB k (l.take n)
 | 0,l,_=>by simp [cz,eB]
 | n+1,[],h=>by simp at h
 | n+1,x::l,h=>by
  have:=HB k n l (by simpa using h)
  grind [cz,eB,row]
end
section
variable {cs e:List V}{off sz i:Nat}{es:Ls}{Y:Type}
theorem j8{new:List V}(h:new.length=cs.length):cD cs 0 new=new:=by
 simp [cD,h]
theorem EZ{new:List V}(h:off+new.length<=cs.length):(cD cs off new).length=cs.length:=by
 simp [cD]; omega
theorem JM{v:V}(h:off<cs.length):cD cs off [v]=cs.set off v:=by
 simp only [cD,List.length_singleton];rw [List.set_eq_take_append_cons_drop,if_pos h];simp
theorem AC{sz:Nat}:∀ {es:Ls},(∀ e∈es,e.length=sz)->cz sz es.length es.flatten=es
 | [],_=>rfl
 | e::es,h=>by
  have he:=h e (by simp);have:=AC (es:=es) (λx hx=>h x (by simp [hx]))
  grind [cz]
theorem HV(h:∀ e∈es,e.length=sz):es.flatten.length=es.length*sz:=fX h
theorem On(hs:0<sz)(h:∀ e∈es,e.length=sz){j:Nat}(hj:j<sz)(he:es[i]?=some e):es.flatten[i*sz+j]?=e[j]?:=by
 rw [C6 es h hs];have e1:(i*sz+j) / sz=i:=by rw [Wcb,Nat.mul_add_div hs,Nat.div_eq_of_lt hj,Nat.add_zero]
 have e2:(i*sz+j) % sz=j:=by rw [Wcb,Nat.mul_add_mod,Nat.mod_eq_of_lt hj]
 rw [e1,e2,he]; rfl
theorem TW{sz:Nat}:∀ {es:Ls},(∀ e∈es,e.length=sz)->∀ (i:Nat),es.flatten.drop (i*sz)=(es.drop i).flatten
 | [],_,i=>by simp
 | e::es,h,0=>by simp
 | e::es,h,i+1=>by
  have he:=h e (by simp);have:=TW (es:=es) (λx hx=>h x (by simp [hx])) i;have e1:(e++es.flatten).drop sz=es.flatten:=by grind
  rw [List.flatten_cons,List.drop_succ_cons,<- this,show (i+1)*sz=sz+i*sz by rw [Nat.add_mul]; omega,<- List.drop_drop,e1]
theorem zbg{n:Nat}(h:∀ e∈es,e.length=sz)(hn:n<=sz)(he:es[i]?=some e):(es.flatten.drop (i*sz)).take n=e.take n:=by
 rw [TW h];obtain ⟨hi,rfl⟩:=Wam.1 he;rw [List.drop_eq_getElem_cons hi,List.flatten_cons,List.take_append_of_le_length (by grind)]
theorem WU(hs:0<sz)(h:∀ e∈es,e.length=sz){j:Nat}(hj:j<sz)(he:es[i]?=some e)(v:V):cD es.flatten (i*sz+j) [v]=(es.set i (e.set j v)).flatten:=by
 obtain ⟨hi,rfl⟩:=Wam.1 he;have hlt:i*sz+j<es.flatten.length:=by
  rw [HV h];have:(i+1)*sz<=es.length*sz:=Nat.mul_le_mul_right _ hi
  grind
 rw [JM hlt];have h':∀ x∈es.set i (es[i].set j v),x.length=sz:=by
  grind
 apply Wby;intro q;rw [List.getElem?_set,C6 _ h' hs,C6 _ h hs,List.getElem?_set];have hm:=Nat.mod_lt q hs;have hd:=Nat.div_add_mod q sz;rw [Wcb] at hd;by_cases hq:i*sz+j=q
 ·have e1:q / sz=i:=by rw [<- hq,Wcb,Nat.mul_add_div hs,Nat.div_eq_of_lt hj,Nat.add_zero]
  have e2:q % sz=j:=by grind
  rw [if_pos hq,if_pos hlt,if_pos e1.symm,if_pos hi,e2];simp [h _ (List.getElem_mem hi),hj]
 ·rw [if_neg hq];by_cases e1:i=q / sz
  ·have e2:j≠q % sz:=by grind
   rw [if_pos e1,if_pos hi];simp only [Wbz];rw [List.getElem?_set_ne e2,<- e1,List.getElem?_eq_getElem hi];rfl
  ·rw [if_neg e1]
theorem Dc(k:IntKind):∀ (l m:List Int),l.length=m.length->iQ (row k l) (row k m)=some (decide (l=m))
 | [],[],_=>rfl
 | x::l,y::m,h=>by
  have:=Dc k l m (by simpa using h);simp [row] at this;simp only [row,List.map_cons,iQ,if_true,this,Option.map_some];congr 1
  grind
theorem Ws{p:Prop}{inst:Decidable p}(a b:Option Y):ifb (!(@decide p inst)) a b=if p then b else a:=by
 grind [ifb]
theorem iM(x y:Int)(a b:Option Y):ifb (x != y) a b=if x=y then b else a:=by
 grind [ifb]
end
section
def lH{α:Type}(p:α->Bool):List α->Nat->Int
 | [],_=>-1
 | x::l,i=>if p x=true then (i:Int) else lH p l (i+1)
theorem xc{α:Type}(p:α->Bool):∀ (l:List α) (a:Nat),(lH p l a=-1/\∀ x∈l,p x=false)∨∃ (i:Nat),∃ h:i<l.length,lH p l a=((a+i:Nat):Int)/\(∀ x∈l.take i,p x=false)/\p l[i]=true
 | [],a=>.inl ⟨rfl,by simp⟩
 | x::l,a=>by
  by_cases hx:p x=true
  ·grind [lH]
  ·have hx':p x=false:=by simpa using hx
   rcases xc p l (a+1) with ⟨h1,h2⟩ | ⟨i,hi,h1,h2,h3⟩
   ·refine .inl ⟨by simp [lH,hx',h1],?_⟩;intro y hy;rcases List.mem_cons.1 hy with rfl | hy
    ·exact hx'
    ·exact h2 y hy
   ·refine .inr ⟨i+1,by simpa using hi,?_,?_,by simpa using h3⟩
    ·simp only [lH,hx',h1]; simp; omega
    ·intro y hy;simp only [List.take_succ_cons,List.mem_cons] at hy;rcases hy with rfl | hy
     ·exact hx'
     ·exact h2 y hy
theorem zbe{i:Nat}(h:i<=1000000000):Wbf .i64 ((i:Int)+1)=((i+1:Nat):Int):=by
 grind [kI]
end
section
structure Lin where
 c:Int
 t:List (Nat × Int)
 deriving Inhabited
def nn(a:Int):Bool:=match a with
 | .ofNat _=>true
 | .negSucc _=>false
def isZ(a:Int):Bool:=match a with
 | .ofNat n=>Wae n 0
 | .negSucc _=>false
def leI(a b:Int):Bool:=match a,b with
 | .ofNat m,.ofNat n=>WbY m n
 | .negSucc _,.ofNat _=>true
 | .ofNat _,.negSucc _=>false
 | .negSucc m,.negSucc n=>WbY n m
def eqI(a b:Int):Bool:=match a,b with
 | .ofNat m,.ofNat n=>Wae m n
 | .negSucc m,.negSucc n=>Wae m n
 | _,_=>false
def kU(a b:Int):Int:=match leI a b with | true=>a | false=>b
def n8(a b:Int):Int:=match leI a b with | true=>b | false=>a
def Sq(s:Nat)(a:Int):List (Nat × Int)->List (Nat × Int)
 | []=>[(s,a)]
 | p::l=>match Wca s p.1 with
  | true=>(s,a)::p::l
  | false=>match Wae s p.1 with
   | true=>match isZ (a+p.2) with
    | true=>l
    | false=>(s,a+p.2)::l
   | false=>p::Sq s a l
def Lt:List (Nat × Int)->List (Nat × Int)->List (Nat × Int)
 | [],m=>m
 | p::l,m=>Sq p.1 p.2 (Lt l m)
def LF(n:Int):List (Nat × Int)->List (Nat × Int)
 | []=>[]
 | p::l=>(p.1,n*p.2)::LF n l
def Lin.lit(n:Int):Lin:=⟨n,[]⟩
def Lin.sy(s:Nat):Lin:=⟨0,[(s,1)]⟩
def Lin.add(a b:Lin):Lin:=⟨a.c+b.c,Lt a.t b.t⟩
def Lin.mul(n:Int)(a:Lin):Lin:=match isZ n with
 | true=>⟨0,[]⟩
 | false=>⟨n*a.c,LF n a.t⟩
def Lin.neg(a:Lin):Lin:=a.mul (-1)
def Lin.sub(a b:Lin):Lin:=a.add b.neg
def Lin.au(a:Lin)(n:Int):Lin:=⟨a.c+n,a.t⟩
def Y7:List (Nat × Int)->List (Nat × Int)->Bool
 | [],[]=>true
 | p::l,q::m=>Wae p.1 q.1&&(eqI p.2 q.2&&Y7 l m)
 | _,_=>false
def Lin.eq(a b:Lin):Bool:=eqI a.c b.c&&Y7 a.t b.t
def Lin.lit?(a:Lin):Option Int:=match a.t with
 | []=>some a.c
 | _=>none
abbrev IV:=List (Int × Int)
def ubT(iv:IV):List (Nat × Int)->Option Int
 | []=>some 0
 | p::l=>match iv[p.1]?,ubT iv l with
  | some q,some r=>some ((match nn p.2 with | true=>p.2*q.2 | false=>p.2*q.1)+r)
  | _,_=>none
def Lin.ub(iv:IV)(e:Lin):Option Int:=(ubT iv e.t).map (e.c+·)
def Lin.lb(iv:IV)(e:Lin):Option Int:=(e.neg.ub iv).map (- ·)
def lkT(s:Nat):List (Nat × Int)->Option Int
 | []=>none
 | p::l=>match Wae s p.1 with
  | true=>some p.2
  | false=>lkT s l
def Sy:List (Nat × Int)->List (Nat × Int)->Option Int
 | [],_=>none
 | p::l,m=>match lkT p.1 m with
  | some b=>match isZ b with
   | true=>Sy l m
   | false=>match isZ (p.2 % b)&&leI 1 (p.2 / b) with
    | true=>some (p.2 / b)
    | false=>Sy l m
  | none=>Sy l m
def leU(iv:IV)(e:Lin):Bool:=match e.ub iv with
 | some n=>leI n 0
 | none=>false
def YW{α:Type}(f:α->Bool):List α->Bool
 | []=>false
 | x::l=>match f x with
  | true=>true
  | false=>YW f l
def leZ(iv:IV)(fs:List Lin):Nat->Lin->Bool
 | 0,e=>leU iv e
 | n+1,e=>match leU iv e with
  | true=>true
  | false=>YW (λf=>match Sy e.t f.t with
   | some m=>match leI 0 m with
    | true=>leZ iv fs n (e.sub (f.mul m))
    | false=>false
   | none=>false) fs
inductive Cnd where
 | le (e:Lin)
 | eq (e:Lin)
 | ne (e:Lin)
 deriving Inhabited
def Cnd.not:Cnd->Cnd
 | .le e=>.le (e.neg.au 1)
 | .eq e=>.ne e
 | .ne e=>.eq e
inductive A where
 | ex (v:V)
 | int (k:IntKind) (e:Lin)
 | iv (k:IntKind) (lo hi:Int)
 | cmp (c:Cnd)
 | bool
 | str
 | agg (cs:List A)
 | st (cs:List A)
 | ah (vs:List A)
 | ak (q sz:Nat) (n:Lin) (row:List A)
 | ai (q sz:Nat) (lo hi:Int) (row:List A)
 | am (q sz:Nat) (rows:List (List A))
 | fp (cs:List A)
 | ptr (id:Nat) (off:Lin)
 | own (id:Nat) (off len:Lin) (sz:Nat)
 | bx (p:Bool) (cs:List A)
 | any
 deriving Inhabited
inductive BB where
 | gone
 | live (p:Bool) (cs:List A)
 | fz (cs:List A)
 deriving Inhabited
structure SS where
 iv:IV
 fs:List Lin
 t:List A
 b:List BB
 deriving Inhabited
def nx:V->A
 | .sc (.int k n)=>.int k (.lit n)
 | .gs sz []=>.am 1 sz []
 | .sl sz []=>.am 0 sz []
 | v=>.ex v
def QY:V->A
 | .agg cs=>.agg (cs.map nx)
 | v=>nx v
def SS.src(s:SS):Src->A
 | .tmp t=>s.t.getD t (.ex .ae)
 | .const v=>QY v
def SS.le(s:SS)(e:Lin):Bool:=leZ s.iv s.fs 3 e
def SS.dec(s:SS)(c:Cnd):Option Bool:=match c with
 | .le e=>match s.le e with
  | true=>some true
  | false=>match s.le (e.neg.au 1) with
   | true=>some false
   | false=>none
 | .eq e=>match s.le e&&s.le e.neg with
  | true=>some true
  | false=>match s.le (e.au 1)||s.le (e.neg.au 1) with
   | true=>some false
   | false=>none
 | .ne e=>match s.le e&&s.le e.neg with
  | true=>some false
  | false=>match s.le (e.au 1)||s.le (e.neg.au 1) with
   | true=>some true
   | false=>none
def SS.fact(s:SS)(e:Lin):SS:=match e.t with
 | [(x,a)]=>match isZ (a-1) with
  | true=>match s.iv[x]? with
   | some q=>{ s with iv:=s.iv.set x (q.1,kU q.2 (-e.c)) }
   | none=>{ s with fs:=e::s.fs }
  | false=>match isZ (a+1) with
   | true=>match s.iv[x]? with
    | some q=>{ s with iv:=s.iv.set x (n8 q.1 e.c,q.2) }
    | none=>{ s with fs:=e::s.fs }
   | false=>{ s with fs:=e::s.fs }
 | _=>{ s with fs:=e::s.fs }
def SS.assume(s:SS)(d:Option Bool)(c:Cnd):Option SS:=match d with
 | some true=>some s
 | some false=>none
 | none=>match c with
  | .le e=>some (s.fact e)
  | .eq e=>some ((s.fact e).fact e.neg)
  | .ne e=>match s.le e,s.le e.neg with
   | true,_=>some (s.fact (e.au 1))
   | _,true=>some (s.fact (e.neg.au 1))
   | _,_=>some s
def SS.sym(s:SS)(lo hi:Int):SS:={ s with iv:=s.iv++[(lo,hi)] }
def SS.put(s:SS)(d:Option Nat)(a:A):SS:=match d with
 | some d=>{ s with t:=s.t.set d a }
 | none=>s
def A.ag:A->A
 | .ak q sz n row=>match q with | 0=>.ak 0 sz n row | 1=>.ak 0 sz n row | _=>.ex .ae
 | .ai q sz lo hi row=>match q with | 0=>.ai 0 sz lo hi row | 1=>.ai 0 sz lo hi row | _=>.ex .ae
 | .am q sz rows=>match q with | 0=>.am 0 sz rows | 1=>.am 0 sz rows | _=>.ex .ae
 | .ah vs=>match vs with | []=>.ex (.ah []) | _=>.ex .ae
 | .bx _ _=>.ex .ae
 | .ex v=>.ex v.ag
 | a=>a
def A.tk:A->A
 | .ak q sz n row=>.ak q sz n row
 | .ai q sz lo hi row=>.ai q sz lo hi row
 | .am q sz rows=>.am q sz rows
 | .ex v=>.ex v.tk
 | a=>a.ag
def A.mv:A->A
 | .ah vs=>.ah vs
 | .ex v=>.ex v.mv
 | a=>a.tk
def A.plain:A->Option A
 | .ex v=>match v with | .sc v=>some (.ex (.sc v)) | _=>none
 | .ak q sz n row=>match q with | 0=>some (.ak 0 sz n row) | 1=>some (.ak 0 sz n row) | _=>none
 | .ai q sz lo hi row=>match q with | 0=>some (.ai 0 sz lo hi row) | 1=>some (.ai 0 sz lo hi row) | _=>none
 | .am q sz rows=>match q with | 0=>some (.am 0 sz rows) | 1=>some (.am 0 sz rows) | _=>none
 | .ah _ | .st _ | .bx _ _ | .fp _ | .ptr _ _ | .own _ _ _ _ | .any=>none
 | a=>some a
def A.aJ:A->Option A
 | .own id off len sz=>some (.own id off len sz)
 | a=>a.plain
def nZ{α Y:Type}(f:α->Option Y):List α->Option (List Y)
 | []=>some []
 | x::l=>match f x,nZ f l with
  | some y,some m=>some (y::m)
  | _,_=>none
def A.cells:A->List A
 | .agg cs=>cs
 | a=>[a]
def nr{α:Type}(sz:Nat):Nat->List α->List (List α)
 | 0,_=>[]
 | n+1,cs=>cs.take sz::nr sz n (cs.drop sz)
def q6{α:Type}(cs:List α)(off:Nat)(new:List α):List α:=cs.take off++new++cs.drop (off+new.length)
def A.hard:A->Bool
 | .bx _ _ | .any=>true
 | .ak q _ _ _=>WbY 2 q
 | .ai q _ _ _ _=>WbY 2 q
 | .am q _ _=>WbY 2 q
 | .ex v=>v.isHard
 | _=>false
def A.held:A->Bool
 | .bx _ _ | .any=>true
 | .ak q _ _ _=>WbY 1 q
 | .ai q _ _ _ _=>WbY 1 q
 | .am q _ _=>WbY 1 q
 | .ex v=>v.bg
 | _=>false
def Kq(iv:IV):A->Option (IntKind × Int × Int)
 | .int k e=>match e.lb iv,e.ub iv with
  | some l,some h=>some (k,l,h)
  | _,_=>none
 | .iv k l h=>some (k,l,h)
 | .ex (.sc (.int k n))=>some (k,n,n)
 | _=>none
def xf:A->Bool
 | .cmp _ | .bool | .ex (.sc (.bool _))=>true
 | _=>false
def Ba:A->Bool
 | .str | .ex (.sc (.string _))=>true
 | _=>false
def Zk:List Nat->List Nat->Bool
 | [],[]=>true
 | x::l,y::m=>Wae x y&&Zk l m
 | _,_=>false
def VB(s:ByteArray):List Nat:=s.data.toList.map UInt8.toNat
def So:V->V->Bool
 | .ae,.ae=>true
 | .ub,.ub=>true
 | .ah [],.ah []=>true
 | .sc (.bool a),.sc (.bool b)=>a==b
 | .sc (.int k a),.sc (.int k' b)=>decide (k=k')&&eqI a b
 | .fn f [],.fn g []=>Wae f g
 | .sc (.string a),.sc (.string b)=>Zk (VB a) (VB b)
 | _,_=>false
def aH(iv:IV):A->Option (Nat × Nat × Int × Int)
 | .ak q sz n _=>match n.lb iv,n.ub iv with
  | some l,some h=>some (q,sz,l,h)
  | _,_=>none
 | .ai q sz l h _=>some (q,sz,l,h)
 | .am q sz rows=>some (q,sz,(rows.length:Int),(rows.length:Int))
 | _=>none
def BO:A->Option Lin
 | .ak _ _ n _=>some n
 | .am _ _ rows=>some (.lit rows.length)
 | _=>none
def jH:A->List (List A)
 | .ak _ _ _ row=>[row]
 | .ai _ _ _ _ row=>[row]
 | .am _ _ rows=>rows
 | _=>[]
def AB:A->Option IntKind
 | .int k _=>some k
 | .iv k _ _=>some k
 | .ex (.sc (.int k _))=>some k
 | _=>none
abbrev Th:=List (Nat × Lin)
def CX(x:Nat):Th->Option Lin
 | []=>none
 | p::l=>match Wae x p.1 with
  | true=>some p.2
  | false=>CX x l
def sbT(N0:Nat)(th:Th):List (Nat × Int)->Option Lin
 | []=>some (.lit 0)
 | p::l=>match (match Wca p.1 N0 with | true=>some (Lin.sy p.1) | false=>CX p.1 th),sbT N0 th l with
  | some e,some r=>some ((e.mul p.2).add r)
  | _,_=>none
def Lin.sb(N0:Nat)(th:Th)(e:Lin):Option Lin:=(sbT N0 th e.t).map λr=>r.au e.c
def j4{α Y:Type}(f:α->Y->Bool):List α->List Y->Bool
 | [],[]=>true
 | x::l,y::m=>f x y&&j4 f l m
 | _,_=>false
def jM{α:Type}(f:α->Bool):List α->Bool
 | []=>true
 | x::l=>f x&&jM f l
def leA(N0:Nat)(s:SS)(th:Th):Nat->A->A->Bool
 | 0,_,_=>false
 | n+1,a,j=>match j with
  | .any=>true
  | .ex w=>match a with
   | .ex v=>So v w
   | _=>false
  | .int k e=>match a with
   | .int k' e'=>decide (k'=k)&&(match e.sb N0 th with | some f=>f.eq e'||(s.le (f.sub e')&&s.le (e'.sub f)) | none=>false)
   | .iv k' l h=>decide (k'=k)&&(eqI l h&&(match e.sb N0 th with | some f=>f.eq (.lit l) | none=>false))
   | .ex (.sc (.int k' m))=>decide (k'=k)&&(match e.sb N0 th with | some f=>f.eq (.lit m) | none=>false)
   | _=>false
  | .iv k lo hi=>match a with
   | .int k' e=>decide (k'=k)&&(s.le ((Lin.lit lo).sub e)&&s.le (e.au (-hi)))
   | a=>match Kq s.iv a with
    | some (k',l,h)=>decide (k'=k)&&(leI lo l&&leI h hi)
    | none=>false
  | .cmp _=>false
  | .bool=>xf a
  | .str=>Ba a
  | .agg ds=>match a with
   | .agg cs=>j4 (leA N0 s th n) cs ds
   | _=>false
  | .st ds=>match a with
   | .st cs=>j4 (leA N0 s th n) cs ds
   | _=>false
  | .ah ds=>match a with
   | .ah cs=>j4 (leA N0 s th n) cs ds
   | _=>false
  | .ak q sz m row=>match aH s.iv a,BO a,m.sb N0 th with
   | some (q',sz',_,_),some e,some f=>Wae q' q&&(Wae sz' sz&&(f.eq e&&jM (λr=>j4 (leA N0 s th n) r row) (jH a)))
   | _,_,_=>false
  | .ai q sz lo hi row=>match aH s.iv a with
   | some (q',sz',l,h)=>Wae q' q&&(Wae sz' sz&&(leI lo l&&(leI h hi&&jM (λr=>j4 (leA N0 s th n) r row) (jH a))))
   | none=>false
  | .am q sz rows=>match a with
   | .am q' sz' rs=>Wae q' q&&(Wae sz' sz&&j4 (j4 (leA N0 s th n)) rs rows)
   | _=>false
  | .fp ds=>match a with
   | .fp cs=>WbY ds.length cs.length&&j4 (leA N0 s th n) (cs.take ds.length) ds
   | _=>false
  | .ptr id o=>match a with
   | .ptr id' o'=>Wae id' id&&(match o.sb N0 th with | some f=>f.eq o' | none=>false)
   | _=>false
  | .own id o m sz=>match a with
   | .own id' o' m' sz'=>Wae id' id&&(Wae sz' sz&&((match o.sb N0 th with | some f=>f.eq o' | none=>false)&&(match m.sb N0 th with | some f=>f.eq m' | none=>false)))
   | _=>false
  | .bx p ds=>match a with
   | .bx p' cs=>(p'==p)&&j4 (leA N0 s th n) cs ds
   | _=>false
def Zf(N0:Nat)(s:SS)(th:Th)(a j:BB):Bool:=match a,j with
 | .gone,.gone=>true
 | .live p cs,.live p' ds=>(p==p')&&j4 (leA N0 s th 12) cs ds
 | .fz cs,.fz ds=>j4 (leA N0 s th 12) cs ds
 | _,_=>false
def oc:Nat->IV->A->IV->A->A
 | 0,_,_,_,_=>.any
 | n+1,e1,a,e2,b=>match Kq e1 a,Kq e2 b with
  | some (k,l,h),some (k',l',h')=>match decide (k=k') with
   | true=>match isZ (l-h)&&(eqI l l'&&eqI h h') with
    | true=>.int k (.lit l)
    | false=>.iv k (kU l l') (n8 h h')
   | false=>.any
  | _,_=>match xf a&&xf b with
   | true=>match a,b with
    | .ex v,.ex w=>match So v w with | true=>.ex v | false=>.bool
    | _,_=>.bool
   | false=>match Ba a&&Ba b with
    | true=>match a,b with
     | .ex v,.ex w=>match So v w with | true=>.ex v | false=>.str
     | _,_=>.str
    | false=>match a,b with
     | .ex v,.ex w=>match So v w with | true=>.ex v | false=>.any
     | .agg cs,.agg ds=>match Wae cs.length ds.length with
      | true=>.agg (WbZ (λx y=>oc n e1 x e2 y) cs ds)
      | false=>.any
     | .ah cs,.ah ds=>match Wae cs.length ds.length with
      | true=>.ah (WbZ (λx y=>oc n e1 x e2 y) cs ds)
      | false=>.any
     | .bx p cs,.bx p' ds=>match Wae cs.length ds.length&&(p==p') with
      | true=>.bx p (WbZ (λx y=>oc n e1 x e2 y) cs ds)
      | false=>.any
     | .fp cs,.fp ds=>.fp (WbZ (λx y=>oc n e1 x e2 y) cs ds)
     | .am q sz rs,.am q' sz' rs'=>match Wae q q'&&(Wae sz sz'&&Wae rs.length rs'.length) with
      | true=>.am q sz (WbZ (λx y=>WbZ (λx y=>oc n e1 x e2 y) x y) rs rs')
      | false=>match Wae q q'&&Wae sz sz' with
       | true=>.ai q sz (kU rs.length rs'.length) (n8 rs.length rs'.length) (match rs.map (λr=>(e1,r))++rs'.map (λr=>(e2,r)) with
        | []=>[]
        | r::l=>(l.foldl (λ(acc:IV × List A) r=>(e1,WbZ (λx y=>oc n acc.1 x r.1 y) acc.2 r.2)) (r.1,WbZ (λx y=>oc n r.1 x r.1 y) r.2 r.2)).2)
       | false=>.any
     | a,b=>match aH e1 a,aH e2 b with
      | some (q,sz,l,h),some (q',sz',l',h')=>match Wae q q'&&Wae sz sz' with
       | true=>.ai q sz (kU l l') (n8 h h') (match (jH a).map (λr=>(e1,r))++(jH b).map (λr=>(e2,r)) with
        | []=>[]
        | r::l=>(l.foldl (λ(acc:IV × List A) r=>(e1,WbZ (λx y=>oc n acc.1 x r.1 y) acc.2 r.2)) (r.1,WbZ (λx y=>oc n r.1 x r.1 y) r.2 r.2)).2)
       | false=>.any
      | _,_=>.any
def Gz(s:SS)(a:A):A:=oc 12 s.iv a s.iv a
def ubF(s:SS)(e:Lin):Option Int:=s.fs.foldl (λacc f=>match Sy e.t f.t with
 | some m=>match (match leI 0 m with | true=>(e.sub (f.mul m)).ub s.iv | false=>none),acc with
  | some h,some h'=>some (kU h h')
  | some h,none=>some h
  | none,acc=>acc
 | none=>acc) (e.ub s.iv)
def lbF(s:SS)(e:Lin):Option Int:=(ubF s e.neg).map (- ·)
def Xd(s:SS)(a:A):A:=match a with
 | .int k e=>match e.t with
  | _::_::_=>match ubF s e,ubF s e.neg with
   | some h,some l=>.iv k (-l) h
   | _,_=>Gz s a
  | _=>Gz s a
 | a=>Gz s a
def ru(s:SS)(rs:List (List A)):List A:=match rs with
 | []=>[]
 | r::l=>l.foldl (λacc r=>WbZ (λx y=>oc 12 s.iv x s.iv y) acc r) (r.map (Gz s))
def td(s:SS)(cs:List A):A:=match cs with
 | []=>.any
 | c::l=>l.foldl (λacc x=>oc 12 s.iv acc s.iv x) (Gz s c)
def SS.up(s:SS)(a j:A):Bool:=leA 0 s [] 12 a j
end
section
def SS.int(s:SS)(x:Src):Option (SS × IntKind × Lin):=match x with
 | .const v=>match v with
  | .sc (.int k n)=>some (s,k,.lit n)
  | _=>none
 | .tmp t=>match s.t[t]? with
  | some (.int k e)=>some (s,k,e)
  | some (.iv k lo hi)=>some ({ s.sym lo hi with t:=s.t.set t (.int k (.sy s.iv.length)) },k,.sy s.iv.length)
  | some (.ex (.sc (.int k n)))=>some (s,k,.lit n)
  | _=>none
def SS.name(s:SS)(x:Src):SS:=match x with
 | .const _=>s
 | .tmp t=>match s.t[t]? with
  | some (.iv k lo hi)=>{ s.sym lo hi with t:=s.t.set t (.int k (.sy s.iv.length)) }
  | some (.ai q sz lo hi row)=>match leI lo hi with
   | true=>{ s.sym lo hi with t:=s.t.set t (.ak q sz (.sy s.iv.length) row) }
   | false=>s
  | _=>s
def zdg:IntKind->Bool
 | .i64 | .u32=>true
 | _=>false
def SS.nameC(s:SS)(id o:Nat):SS:=match s.b[id]? with
 | some (.live p cs)=>match cs[o]? with
  | some (.iv k lo hi)=>match zdg k with
   | true=>{ s.sym lo hi with b:=s.b.set id (.live p (cs.set o (.int k (.sy s.iv.length)))) }
   | false=>s
  | some (.ai q sz lo hi row)=>match leI lo hi with
   | true=>{ s.sym lo hi with b:=s.b.set id (.live p (cs.set o (.ak q sz (.sy s.iv.length) row))) }
   | false=>s
  | _=>s
 | _=>s
def SS.ak(s:SS)(x:Src):Option (SS × A):=match x with
 | .const v=>some (s,QY v)
 | .tmp t=>match s.t[t]? with
  | some (.ai q sz lo hi row)=>match leI lo hi with
   | true=>some ({ s.sym lo hi with t:=s.t.set t (.ak q sz (.sy s.iv.length) row) },.ak q sz (.sy s.iv.length) row)
   | false=>none
  | some a=>some (s,a)
  | none=>none
def inK(s:SS)(k:IntKind)(e:Lin):Bool:=match e.lb s.iv,e.ub s.iv with
 | some l,some h=>leI k.min l&&leI h k.max
 | _,_=>false
def qK(k:IntKind):A:=.iv k k.min k.max
def Es(s:SS)(k:IntKind)(e:Lin):A:=match inK s k e with
 | true=>.int k e
 | false=>qK k
def PN(n:Int):Int:=Int.ofNat (2 ^ (n.toNat.log2+1))-1
def ivK(k:IntKind)(l h:Int):A:=match leI k.min l&&leI h k.max with
 | true=>.iv k l h
 | false=>qK k
def J3(s:SS)(c:Cnd):A:=match s.dec c with
 | some b=>.ex (.sc (.bool b))
 | none=>.cmp c
def xD(s:SS)(op:BinOp)(k:IntKind)(a b:Lin)(la ha lb hb:Int):Option (SS × A):=match op with
 | .add=>some (s,Es s k (a.add b))
 | .sub=>some (s,Es s k (a.sub b))
 | .mul=>match a.lit?,b.lit? with
  | some n,_=>some (s,Es s k (b.mul n))
  | _,some n=>some (s,Es s k (a.mul n))
  | _,_=>match nn la&&nn lb with
   | true=>some (s,ivK k 0 (ha*hb))
   | false=>some (s,qK k)
 | .quo=>match leI 1 lb with
  | true=>match nn la with
   | true=>match b.lit? with
    | some c=>match leI ha k.max with
     | true=>
      let q:Lin:=.sy s.iv.length
      let s1:=s.sym 0 (ha / c)
      let fs:=(q.mul c).sub a::(a.sub (q.mul c)).au (1-c)::s1.fs
      some ({ s1 with fs:=match leI 1 la&&leI 2 c with | true=>(q.sub a).au 1::fs | false=>fs },.int k q)
     | false=>some (s,qK k)
    | none=>some (s,ivK k 0 ha)
   | false=>some (s,qK k)
  | false=>none
 | .rem=>match leI 1 lb with
  | true=>match nn la with
   | true=>match leI (ha+1) lb with
    | true=>some (s,.int k a)
    | false=>
     let r:Lin:=.sy s.iv.length
     let s1:=s.sym 0 (kU ha (hb-1))
     some ({ s1 with fs:=(r.sub b).au 1::s1.fs },.int k r)
   | false=>some (s,.iv k (1-hb) (hb-1))
  | false=>none
 | .and=>match nn la,nn lb with
  | true,true=>some (s,ivK k 0 (kU ha hb))
  | _,_=>some (s,qK k)
 | .or | .xor=>match nn la&&nn lb with
  | true=>some (s,ivK k 0 (PN (n8 ha hb)))
  | false=>some (s,qK k)
 | .andNot=>match nn la&&nn lb with
  | true=>some (s,ivK k 0 ha)
  | false=>some (s,qK k)
 | .eql=>some (s,J3 s (.eq (a.sub b)))
 | .neq=>some (s,J3 s (.ne (a.sub b)))
 | .lss=>some (s,J3 s (.le ((a.sub b).au 1)))
 | .leq=>some (s,J3 s (.le (a.sub b)))
 | .gtr=>some (s,J3 s (.le ((b.sub a).au 1)))
 | .geq=>some (s,J3 s (.le (b.sub a)))
 | _=>none
def Qc(s:SS)(op:BinOp)(k:IntKind)(a b:Lin)(la ha lb hb:Int):Option (SS × A):=match nn lb with
 | false=>none
 | true=>match op with
  | .shl=>match nn la with
   | true=>some (s,ivK k 0 (ha*2 ^ (min hb.toNat k.bits)))
   | false=>some (s,qK k)
  | .shr=>match nn la with
   | true=>some (s,.iv k 0 (ha.fdiv (2 ^ (min lb.toNat k.bits))))
   | false=>some (s,.iv k la (n8 ha 0))
  | _=>none
def zdf:V->A
 | .sc (.int k n)=>.int k (.lit n)
 | v=>.ex v
def zcC(s:SS)(op:BinOp)(x y:Src):Option (SS × A):=match s.int x with
 | some (s1,k,a)=>match s1.int y with
  | some (s2,k',b)=>match a.lit?,b.lit? with
   | some n,some m=>(fZ op (.int k n) (.int k' m)).map λv=>(s2,zdf (.sc v))
   | _,_=>match lbF s2 a,ubF s2 a,lbF s2 b,ubF s2 b with
    | some la,some ha,some lb,some hb=>match op with
     | .shl=>Qc s2 .shl k a b la ha lb hb
     | .shr=>Qc s2 .shr k a b la ha lb hb
     | op=>match decide (k=k') with
      | true=>xD s2 op k a b la ha lb hb
      | false=>none
    | _,_,_,_=>none
  | none=>none
 | none=>match Ba (s.src x)&&Ba (s.src y) with
  | true=>match op with
   | .eql | .neq | .lss=>some (s,.bool)
   | _=>none
  | false=>none
def Fj(s:SS)(a:A):Option A:=match a with
 | .own id off len sz=>match off.lit?,len.lit? with
  | some o,some n=>match s.b[id]? with
   | some (.live true cs) | some (.fz cs)=>match nn o&&(nn n&&WbY (o.toNat+n.toNat*sz) cs.length) with
    | true=>some (.am 0 sz (nr sz n.toNat (cs.drop o.toNat)))
    | false=>none
   | _=>none
  | _,_=>match s.b[id]? with
   | some (.live true cs) | some (.fz cs)=>match Wae sz 1,len.lb s.iv,off.lb s.iv,(off.add len).ub s.iv with
    | true,some l,some o,some h=>match nn l&&(nn o&&(leI h cs.length&&jM (λc=>s.up c (td s cs)) cs)) with
     | true=>some (.ak 0 1 len [td s cs])
     | false=>none
    | _,_,_,_=>none
   | _=>none
 | .ak 1 sz n row=>some (.ak 0 sz n row)
 | .ai 1 sz l h row=>some (.ai 0 sz l h row)
 | .am 1 sz rows=>some (.am 0 sz rows)
 | .ex v=>match v with | .own _ _ _ _ | .gs _ _=>none | v=>some (.ex v)
 | .any=>none
 | a=>some a
def SS.btw(s:SS)(a b c:Lin):Bool:=s.le (a.sub b)&&s.le (b.sub c)
def SS.intO(s:SS)(x:Option Src)(d:Lin):Option (SS × Lin):=match x with
 | none=>some (s,d)
 | some x=>match s.int x with
  | some (s1,_,e)=>some (s1,e)
  | none=>none
def SS.bounds(s:SS)(n:Lin)(lo hi mx:Option Src):Option (SS × Lin × Lin × Lin):=match s.intO mx n with
 | none=>none
 | some (s1,m)=>match s1.intO hi n with
  | none=>none
  | some (s2,h)=>match s2.intO lo (.lit 0) with
   | none=>none
   | some (s3,l)=>match s3.btw (.lit 0) l h&&(s3.le (h.sub m)&&s3.le (m.sub n)) with
    | true=>some (s3,l,h,m)
    | false=>none
def RC(s:SS):List (Nat × Nat × Src)->List A->Option (List A)
 | [],cs=>some cs
 | (off,n,x)::rest,cs=>match (s.src x).plain with
  | some v=>match Wae v.cells.length n&&WbY (off+n) cs.length with
   | true=>RC s rest (q6 cs off v.cells)
   | false=>none
  | none=>none
def PL(s:SS):List (Nat × Nat × Src)->List A->Option (List A)
 | [],cs=>some cs
 | (off,n,x)::rest,cs=>match (s.src x).aJ with
  | some v=>match Wae v.cells.length n&&WbY (off+n) cs.length with
   | true=>PL s rest (q6 cs off v.cells)
   | false=>none
  | none=>none
def Fc:List A->List A->Bool
 | [],[]=>true
 | x::l,y::m=>(match AB x,AB y with | some k,some k'=>decide (k=k') | _,_=>false)&&Fc l m
 | _,_=>false
def Qn(q sz:Nat)(a:A)(l h:Lin):Option A:=match a with
 | .am _ _ rows=>match l.lit?,h.lit? with
  | some l,some h=>some (.am q sz ((rows.drop l.toNat).take (h.toNat-l.toNat)))
  | _,_=>none
 | _=>none
def j7(s:SS):K->Option (SS × A)
 | .pick c a b=>match s.src c with
  | .ex (.sc (.bool t))=>some (s,match t with | true=>(s.src a).ag | false=>(s.src b).ag)
  | c=>match xf c with
   | true=>
    let x:=(s.src a).ag; let y:=(s.src b).ag; let j:=oc 12 s.iv x s.iv y
    match s.up x j&&s.up y j with
    | true=>some (s,j)
    | false=>none
   | false=>none
 | .build zero parts=>(RC s parts (zero.map nx)).map λcs=>(s,.agg cs)
 | .ay zero parts=>(PL s parts (zero.map nx)).map λcs=>(s,.st cs)
 | .nilCheck x=>match s.src x with
  | .ptr id off=>some (s,.ptr id off)
  | .fp cs=>some (s,.fp cs)
  | _=>none
 | .bin op x y=>zcC s op x y
 | .aY neg n x y=>match s.src x,s.src y with
  | .agg a,.agg b=>match Wae a.length n&&(Wae b.length n&&Fc a b) with
   | true=>some (s,.bool)
   | false=>none
  | _,_=>none
 | .bI neg x y=>match s.src x,s.src y with
  | .ex (.sc (.bool a)),.ex (.sc (.bool b))=>some (s,.ex (.sc (.bool (match neg with | true=>!(a==b) | false=>(a==b)))))
  | a,b=>match xf a&&xf b with
   | true=>some (s,.bool)
   | false=>none
 | .un op x=>match op with
  | .not=>match s.src x with
   | .ex (.sc (.bool b))=>some (s,.ex (.sc (.bool !b)))
   | .cmp c=>some (s,.cmp c.not)
   | .bool=>some (s,.bool)
   | _=>none
  | .neg=>match s.int x with
   | some (s1,k,e)=>some (s1,Es s1 k e.neg)
   | none=>none
  | .xor=>match AB (s.src x) with
   | some k=>match s.src x with
    | .int k e=>match e.lit? with
     | some n=>(Fo .xor (.int k n)).map λv=>(s,zdf (.sc v))
     | none=>some (s,qK k)
    | _=>some (s,qK k)
   | none=>none
  | _=>none
 | .conv k x=>match s.int x with
  | some (s1,_,e)=>match e.lit? with
   | some n=>some (s1,.int k (.lit (k.wrap n)))
   | none=>some (s1,Es s1 k e)
  | none=>none
 | .toStr x=>match Fj s (s.src x) with
  | some a=>match aH s.iv a with
   | some (q,sz,_,_)=>match Wae q 0&&(Wae sz 1&&jM (λr=>match r with | [c]=>(match AB c with | some .u8=>true | _=>false) | _=>false) (jH a)) with
    | true=>some (s,.str)
    | false=>none
   | none=>none
  | none=>none
 | .adc sub x y c=>match Kq s.iv (s.src x),Kq s.iv (s.src y),Kq s.iv (s.src c) with
  | some (.u64,l1,h1),some (.u64,l2,h2),some (.u64,l,h)=>match (leI 0 l&&leI h 1)&&((leI 0 l1&&leI h1 18446744073709551615)&&(leI 0 l2&&leI h2 18446744073709551615)) with
   | true=>some (s,.ah [qK .u64,.iv .u64 0 1])
   | false=>none
  | _,_,_=>none
 | .ax n sz x lo hi mx=>match s.bounds (.lit n) lo hi mx with
  | some (s1,l,h,m)=>match s1.src x with
   | .ptr id off=>match off.lit?,s1.b[id]? with
    | some o,some (.live _ cs)=>match nn o&&WbY (o.toNat+n*sz) cs.length with
     | true=>match s1.le ((l.sub m).au 1) with
      | true=>some (s1,.own id ((l.mul sz).au o) (h.sub l) sz)
      | false=>match s1.le (m.sub l) with
       | true=>some (s1,.am 1 sz [])
       | false=>none
     | false=>none
    | some o,some (.fz cs)=>match l.lit?,h.lit?,m.lit? with
     | some l,some h,some m=>match nn o&&WbY (o.toNat+n*sz) cs.length with
      | true=>some (s1,match eqI m l with | true=>.am 1 sz [] | false=>.am 0 sz (nr sz (h.toNat-l.toNat) (cs.drop (o.toNat+l.toNat*sz))))
      | false=>none
     | _,_,_=>none
    | _,_=>none
   | .fp cs=>match l.lit?,h.lit? with
    | some l,some h=>match WbY (n*sz) cs.length with
     | true=>some (s1,.am 0 sz (nr sz (h.toNat-l.toNat) (cs.drop (l.toNat*sz))))
     | false=>none
    | _,_=>none
   | _=>none
  | none=>none
 | .aT sz x lo hi mx=>match s.ak x with
  | some (s0,a0)=>match a0.ag with
   | .own id off len sz'=>match Wae sz sz',mx with
    | true,none=>match s0.bounds len lo hi none with
     | some (s1,l,h,_)=>some (s1,.own id (off.add (l.mul sz)) (h.sub l) sz)
     | none=>none
    | _,_=>none
   | a=>match BO a,aH s0.iv a with
    | some n,some (q,sz',_,_)=>match Wae q 0&&Wae sz sz' with
     | true=>match s0.bounds n lo hi mx with
      | some (s1,l,h,m)=>
       let r:A:=match Qn 0 sz a l h with | some p=>p | none=>.ak 0 sz (h.sub l) (ru s1 (jH a))
       match mx with
       | none=>match jM (λr'=>j4 (leA 0 s1 [] 12) r' (ru s1 (jH a))) (jH a) with
        | true=>some (s1,r)
        | false=>none
       | some _=>match s1.le (m.sub l) with
        | true=>some (s1,.am 2 sz [])
        | false=>match s1.le ((l.sub m).au 1)&&jM (λr'=>j4 (leA 0 s1 [] 12) r' (ru s1 (jH a))) (jH a) with
         | true=>some (s1,r)
         | false=>none
      | none=>none
     | false=>none
    | _,_=>none
  | none=>none
 | .aD sz x hi mx=>match s.ak x with
  | some (s0,a0)=>match BO a0.ag,aH s0.iv a0.ag,(match s0.int hi with | some (s1,_,h)=>(match s1.int mx with | some (s2,_,m)=>(match s2.le (h.sub m)&&s2.le (m.sub h) with | true=>some (s2,h) | false=>none) | none=>none) | none=>none) with
   | some n,some (q,sz',_,_),some (s1,h)=>match Wae q 0&&(Wae sz sz'&&(s1.btw (.lit 0) h n&&(AJ&&jM (λr'=>j4 (leA 0 s1 [] 12) r' (ru s1 (jH a0.ag))) (jH a0.ag)))) with
    | true=>some (s1,match Qn 1 sz a0.ag (.lit 0) h with | some p=>p | none=>.ak 1 sz h (ru s1 (jH a0.ag)))
    | false=>none
   | _,_,_=>none
  | none=>none
 | .fieldAddr o x=>match s.src x with
  | .ptr id off=>some (s,.ptr id (off.au o))
  | .fp cs=>match WbY o cs.length with
   | true=>some (s,.fp (cs.drop o))
   | false=>none
  | _=>none
 | .field agg o n x=>match s.src x with
  | .agg cs=>match agg with
   | true=>some (s,.agg ((cs.drop o).take n))
   | false=>(cs[o]?).map λa=>(s,a)
  | _=>none
 | .al len sz x i=>match s.int i with
  | some (s1,_,j)=>match s1.btw (.lit 0) j (.lit (len-1)) with
   | true=>match s1.src x with
    | .ptr id off=>some (s1,.ptr id (off.add (j.mul sz)))
    | .fp cs=>match WbY (len*sz) cs.length,j.lit? with
     | true,some j=>some (s1,.fp (cs.drop (j.toNat*sz)))
     | true,none=>let r:=ru s1 (nr sz len cs)
      match jM (λr'=>j4 (leA 0 s1 [] 12) r' r) (nr sz len cs) with
      | true=>some (s1,.fp r)
      | false=>none
     | _,_=>none
    | _=>none
   | false=>none
  | none=>none
 | .aj sz x i=>match s.ak x with
  | some (s0,a0)=>match s0.int i with
   | some (s1,_,j)=>match a0.ag with
    | .own id off len sz'=>match Wae sz sz'&&(s1.le j.neg&&s1.le ((j.sub len).au 1)) with
     | true=>some (s1,.ptr id (off.add (j.mul sz)))
     | false=>none
    | a=>match BO a,aH s1.iv a with
     | some n,some (q,sz',_,_)=>match Wae q 0&&(Wae sz sz'&&(s1.le j.neg&&s1.le ((j.sub n).au 1))) with
      | true=>match a,j.lit? with
       | .am _ _ rows,some m=>match rows[m.toNat]? with
        | some r=>match WbY r.length sz with
         | true=>some (s1,.fp r)
         | false=>none
        | none=>none
       | a,_=>let r:=ru s1 (jH a)
        match WbY r.length sz&&jM (λr'=>j4 (leA 0 s1 [] 12) r' r) (jH a) with
        | true=>some (s1,.fp r)
        | false=>none
      | false=>none
     | _,_=>none
   | none=>none
  | none=>none
 | .aR agg len sz x i=>match s.int i,s.src x with
  | some (s1,_,j),.agg cs=>match s1.btw (.lit 0) j (.lit (len-1)),j.lit? with
   | true,some m=>match agg with
    | true=>some (s1,.agg ((cs.drop (m.toNat*sz)).take sz))
    | false=>(cs[m.toNat*sz]?).map λa=>(s1,a)
   | true,none=>match agg,Wae sz 1&&WbY len cs.length with
    | false,true=>let h:=td s1 (cs.take len)
     match jM (λc=>s1.up c h) (cs.take len) with
     | true=>some (s1,h)
     | false=>none
    | _,_=>none
   | _,_=>none
  | _,_=>none
 | .bo x=>match s.ak x with
  | some (s0,a0)=>match a0.ag with
   | .own _ _ len _=>some (s0,.int .i64 len)
   | a=>match BO a,aH s0.iv a with
    | some n,some (q,_,_,_)=>match Wae q 0 with | true=>some (s0,.int .i64 n) | false=>none
    | _,_=>none
  | none=>none
 | .aH n=>some (s,.int .i64 (.lit n))
 | .mm isMax x y=>match s.int x with
  | some (s1,k,a)=>match s1.int y with
   | some (s2,k',b)=>match a.lb s2.iv,a.ub s2.iv,b.lb s2.iv,b.ub s2.iv with
    | some la,some ha,some lb,some hb=>
     let r:Lin:=.sy s2.iv.length
     match isMax with
     | true=>let s3:=s2.sym (n8 la lb) (n8 ha hb); some ({ s3 with fs:=a.sub r::b.sub r::s3.fs },.int k r)
     | false=>let s3:=s2.sym (kU la lb) (kU ha hb); some ({ s3 with fs:=r.sub a::r.sub b::s3.fs },.int k r)
    | _,_,_,_=>none
   | none=>none
  | none=>none
 | .pull x i=>match s.src x with
  | .ah vs=>match vs[i]? with
   | some a=>match a.hard with
    | true=>none
    | false=>some (s,a.ag)
   | none=>none
  | _=>none
 | _=>none
def SS.an(s:SS)(d:Option Nat)(x:BB)(a:Nat->A):Option SS:=match d with
 | some d=>match s.b[d]? with
  | some .gone=>some ({ s with b:=s.b.set d x }.put (some d) (a d))
  | _=>none
 | none=>none
def SS.ac(s:SS)(x:Src):SS:=match x with
 | .tmp t=>match s.t[t]? with
  | some a=>{ s with t:=s.t.set t a.ag }
  | none=>s
 | .const _=>s
def SS.ao(s:SS)(d:Option Nat)(af:Bool)(sz:Nat)(a:A):Option SS:=match af with
 | false=>match a with
  | .ak _ sz n row=>some (s.put d (.ak 1 sz n row))
  | .ai _ sz l h row=>some (s.put d (.ai 1 sz l h row))
  | .am _ sz rows=>some (s.put d (.am 1 sz rows))
  | _=>none
 | true=>match a with
  | .am _ _ rows=>s.an d (.live true rows.flatten) (λid=>.own id (.lit 0) (.lit rows.length) sz)
  | _=>none
def U3(s:SS)(bytes:Nat)(n:Lin):Bool:=match n.ub s.iv with
 | some h=>leI (h*bytes) cy&&leI h cy
 | none=>false
def VQ(s:SS)(cs:List A)(off:Lin)(new:List A):Option (List A):=match off.lit? with
 | some o=>match nn o&&WbY (o.toNat+new.length) cs.length with
  | true=>some (q6 cs o.toNat new)
  | false=>none
 | none=>match new,off.lb s.iv,off.ub s.iv with
  | [v],some lo,some hi=>match nn lo&&leI (hi+1) cs.length with
   | true=>
    let seg:=(cs.drop lo.toNat).take (hi.toNat+1-lo.toNat)
    let seg2:=seg.map (λc=>oc 12 s.iv c s.iv v)
    match j4 (s.up) seg seg2&&jM (λj=>s.up v j) seg2 with
    | true=>some (q6 cs lo.toNat seg2)
    | false=>none
   | false=>none
  | _,_,_=>none
def SS.ab(s:SS)(id:Nat)(x:BB):SS:={ s with b:=s.b.set id x }
def SS.ar(s:SS)(d:Option Nat)(af:Bool)(a:A):Option SS:=match a with
 | .ak q sz n row=>match q with
  | 0=>some (s.put d (.ak 0 sz n row))
  | 1=>match af with | true=>none | false=>some (s.put d (.ak 1 sz n row))
  | _=>s.ao d af sz (.ak 2 sz n row)
 | .ai q sz l h row=>match q with
  | 0=>some (s.put d (.ai 0 sz l h row))
  | 1=>match af with | true=>none | false=>some (s.put d (.ai 1 sz l h row))
  | _=>s.ao d af sz (.ai 2 sz l h row)
 | .am q sz rows=>match q with
  | 0=>some (s.put d (.am 0 sz rows))
  | 1=>match af with | true=>none | false=>some (s.put d (.am 1 sz rows))
  | _=>s.ao d af sz (.am 2 sz rows)
 | .bx p cs=>s.an d (.live p cs) (λid=>.ptr id (.lit 0))
 | .ex v=>match v with
  | .gs _ _ | .fr _ _ | .bx _ _=>none
  | v=>some (s.put d (.ex v))
 | .any=>none
 | a=>some (s.put d a)
def BA(s:SS)(x:Src × Nat):Option A:=match WbY 2 x.2 with
 | true=>none
 | false=>match Fj s (s.src x.1) with
  | some (.agg cs)=>some (.agg (match Wae (x.2 % 2) 1 with | true=>cs.map A.ag | false=>cs))
  | some (.fp cs)=>none
  | some (.ptr _ _)=>none
  | some a=>a.plain
  | none=>none
def XQ:A->Bool
 | .ah _ | .any=>false
 | .ex v=>Hk v
 | _=>true
def zcp:A->Bool
 | .ex _ | .any=>true
 | _=>false
def F5:A->Option Nat
 | .own id _ _ _=>some id
 | _=>none
def z7(s:SS):List (Src × Nat)->List BB->Option (List BB)
 | [],b=>some b
 | x::rest,b=>match F5 (s.src x.1) with
  | some id=>match b[id]? with
   | some (.live true (c::cs))=>z7 s rest (b.set id (.fz (c::cs)))
   | some (.live true [])=>z7 s rest b
   | some (.fz cs)=>z7 s rest b
   | _=>none
  | none=>z7 s rest b
abbrev ACB:=Nat->List A->Option A
def Gy:A->Bool
 | .ptr _ _ | .own _ _ _ _ | .fp _ | .ah _ | .st _ | .any=>false
 | .ex v=>match v with | .sc _=>true | _=>false
 | _=>true
def zbG:A->Bool
 | .ah vs=>vs.all Gy
 | a=>Gy a
def SS.nameL(s:SS)(agg:Bool)(x:A):SS:=match agg with
 | true=>s
 | false=>match x with
  | .ptr id off=>match off.lit? with
   | some o=>s.nameC id o.toNat
   | none=>s
  | _=>s
def kH(cb:ACB)(s:SS)(d:Option Nat)(af:Bool)(k:K):Option SS:=match k with
 | .move x take=>match af with
  | true=>none
  | false=>match take with
   | true=>some (((s.name x).ac x).put d ((s.name x).src x).mv)
   | false=>some ((s.name x).put d ((s.name x).src x).ag)
 | .alloc p cs=>s.an d (.live p (cs.map nx)) (λid=>.ptr id (.lit 0))
 | .box p x=>match s.src x with
  | .st cs=>match p with
   | true=>none
   | false=>s.an d (.live false cs) (λid=>.ptr id (.lit 0))
  | x=>match x.plain with
  | some v=>s.an d (.live p v.cells) (λid=>.ptr id (.lit 0))
  | none=>none
 | .buildSlice sz n zero parts=>match RC s parts (Wad n (zero.map nx)).flatten with
  | some cs=>match Wae n 0&&af with
   | true=>some (s.put d (.am 2 sz []))
   | false=>s.ao d af sz (.am 2 sz (nr sz n cs))
  | none=>none
 | .ofStr x=>match af,s.src x with
  | false,.ex (.sc (.string str))=>some (s.put d (.am 0 1 (str.data.toList.map λb=>[.int .u8 (.lit b.toNat)])))
  | _,_=>none
 | .load agg n a take=>
  let s:=s.nameL agg (s.src a)
  match s.src a with
  | .ptr id off=>match s.b[id]? with
   | some (.live p cs)=>match agg with
    | true=>match off.lit? with
     | some o=>match nn o&&WbY (o.toNat+n) cs.length with
      | true=>match p with
       | true=>some (s.put d (.agg ((cs.drop o.toNat).take n)))
       | false=>match take with
        | true=>none
        | false=>(nZ A.plain ((cs.drop o.toNat).take n)).map λvs=>s.put d (.agg vs)
      | false=>none
     | none=>none
    | false=>match off.lit? with
     | some o=>match nn o,cs[o.toNat]? with
      | true,some v=>match take with
       | true=>match p with
        | true=>none
        | false=>some ((s.ab id (.live p (cs.set o.toNat v.ag))).put d v.tk)
       | false=>some (s.put d v.ag)
      | _,_=>none
     | none=>match off.lb s.iv,off.ub s.iv with
      | some lo,some hi=>match nn lo&&(leI (hi+1) cs.length&&!take) with
       | true=>
        let seg:=(cs.drop lo.toNat).take (hi.toNat+1-lo.toNat)
        let h:=td s seg
        match jM (λc=>s.up c h) seg with
        | true=>some (s.put d h.ag)
        | false=>none
       | false=>none
      | _,_=>none
   | some (.fz cs)=>match off.lit? with
    | some o=>match agg with
     | true=>match nn o&&WbY (o.toNat+n) cs.length with
      | true=>some (s.put d (.agg ((cs.drop o.toNat).take n)))
      | false=>none
     | false=>match nn o,cs[o.toNat]? with
      | true,some v=>some (s.put d v)
      | _,_=>none
    | none=>match agg,off.lb s.iv,off.ub s.iv with
     | false,some lo,some hi=>match nn lo&&leI (hi+1) cs.length with
      | true=>
       let seg:=(cs.drop lo.toNat).take (hi.toNat+1-lo.toNat)
       let h:=td s seg
       match jM (λc=>s.up c h) seg with
       | true=>some (s.put d h)
       | false=>none
      | false=>none
     | _,_,_=>none
   | _=>none
  | .fp cs=>match agg with
   | true=>match WbY n cs.length with
    | true=>some (s.put d (.agg (cs.take n)))
    | false=>none
   | false=>match cs with
    | v::_=>some (s.put d v)
    | []=>none
  | _=>none
 | .store n a x=>match d with
  | some _=>none
  | none=>match s.src a with
   | .ptr id off=>match s.b[id]? with
    | some (.live true cs)=>match (s.src x).plain with
     | some v=>match Wae v.cells.length n with
      | true=>(VQ s cs off v.cells).map λcs'=>s.ab id (.live true cs')
      | false=>none
     | none=>none
    | some (.live false cs)=>match off.lit? with
     | some o=>match nn o with
      | true=>match s.src x with
       | .agg us=>match Wae us.length n&&WbY (o.toNat+n) cs.length with
        | true=>some (s.ab id (.live false (q6 cs o.toNat us)))
        | false=>none
       | .st us=>match Wae us.length n&&WbY (o.toNat+n) cs.length with
        | true=>some (s.ab id (.live false (q6 cs o.toNat us)))
        | false=>none
       | .ah _ | .bx _ _ | .any=>none
       | .ex v=>match v with
        | .sc _=>match Wae n 1&&Wca o.toNat cs.length with
         | true=>some ((s.ac x).ab id (.live false (cs.set o.toNat (.ex v))))
         | false=>none
        | _=>none
       | v=>match Wae n 1&&Wca o.toNat cs.length with
        | true=>some ((s.ac x).ab id (.live false (cs.set o.toNat v)))
        | false=>none
      | false=>none
     | none=>none
    | _=>none
   | _=>none
 | .makeSlice sz bytes zero l c=>match s.int l with
  | some (s1,_,l)=>match s1.int c with
   | some (s2,_,c)=>match s2.btw (.lit 0) l c&&U3 s2 bytes c with
    | true=>match af with
     | true=>match l.lit?,c.lit? with
      | some l,some c=>s2.an d (.live true (Wad c.toNat (zero.map nx)).flatten) (λid=>.own id (.lit 0) (.lit l) sz)
      | _,_=>none
     | false=>match l.lit? with
      | some l=>some (s2.put d (.am 1 sz (Wad l.toNat (zero.map nx))))
      | none=>some (s2.put d (.ak 1 sz l (zero.map nx)))
    | false=>none
   | none=>none
  | none=>none
 | .append sz bytes x y=>match s.ak x with
  | some (s0,a)=>match s0.ak y with
   | some (s1,b0)=>match Fj s1 b0 with
    | some b=>match BO a,aH s1.iv a,BO b,aH s1.iv b with
     | some n,some (q,sz1,_,_),some m,some (q2,sz2,_,_)=>
      match Wae sz1 sz&&(Wae sz2 sz&&(Wae q2 0&&U3 s1 bytes (n.add m))) with
      | true=>
       let res:Option A:=match jH a,jH b,a,b with
        | [],_,.am _ _ [],b=>some b
        | _,_,.am _ _ rs,.am _ _ rs'=>some (.am 1 sz (rs++rs'))
        | _,_,_,_=>
         let r:=ru s1 (jH a++jH b)
         match jM (λr'=>j4 (leA 0 s1 [] 12) r' r) (jH a++jH b) with
         | true=>some (.ak 1 sz (n.add m) r)
         | false=>none
       match res with
       | some r=>match q with
        | 1=>match af with
         | false=>(s1.ac x).ao d false sz r
         | true=>none
        | 2=>match a with
         | .am _ _ []=>(s1.ac x).ao d af sz r
         | _=>none
        | _=>none
       | none=>none
      | false=>none
     | _,_,_,_=>none
    | none=>none
   | none=>none
  | none=>none
 | .copy sz x y=>match s.src x,Fj s (s.src y) with
  | .own id off len sz1,some b=>match off.lit?,len.lit?,s.b[id]?,aH s.iv b with
   | some o,some n,some (.live true cs),some (q,sz2,lo,hi)=>match Wae sz1 sz&&(Wae sz2 sz&&(Wae q 0&&(nn o&&(nn n&&WbY (o.toNat+n.toNat*sz) cs.length)))) with
    | true=>match b with
     | .am _ _ rs=>some ((s.ab id (.live true (q6 cs o.toNat (rs.take n.toNat).flatten))).put d (.int .i64 (.lit (kU n rs.length))))
     | b=>match Wae sz 1,jH b with
      | true,[[c]]=>
       let seg:=(cs.drop o.toNat).take n.toNat
       let seg2:=seg.map (λx=>oc 12 s.iv x s.iv c)
       match j4 (s.up) seg seg2&&jM (λj=>s.up c j) seg2 with
       | true=>some ((s.ab id (.live true (q6 cs o.toNat seg2))).put d (.iv .i64 0 n))
       | false=>none
      | _,_=>none
    | false=>none
   | _,_,_,_=>none
  | _,_=>none
 | .extract x i=>match x with
  | .const _=>none
  | .tmp t=>match s.t[t]? with
   | some (.ah vs)=>match vs[i]? with
    | some a=>match (match d with | some d=>Wae d t | none=>false) with
     | true=>none
     | false=>match vs.all XQ&&!zcp a with
      | true=>match a.held with
       | true=>{ s with t:=s.t.set t (.ah (vs.set i (.ex .ae))) }.ar d af a
       | false=>match af with
        | true=>none
        | false=>some (s.put d a.ag)
      | false=>none
    | none=>none
   | _=>none
 | .call f args xs=>match nZ (BA s) args,xs with
  | some vs,[]=>match z7 s args s.b,cb f (vs.map (Xd s)) with
   | some b,some r=>match zbG r&&j4 s.up vs (vs.map (Xd s)) with
    | true=>{ s with b:=b }.ar d af r
    | false=>none
   | _,_=>none
  | _,_=>none
 | k=>(j7 s k).map λr=>r.1.put d r.2
end
section
def VI:Option Bool->Option Bool
 | some b=>some !b
 | none=>none
def zgy:A:=.ex (.ah [])
def C7(s:SS):Option (Nat × Bool)->Option Bool
 | none=>some true
 | some (j,want)=>match s.t[j]? with
  | some (.ex (.sc (.bool b)))=>some (b==want)
  | some (.ex (.ah []))=>some false
  | _=>none
def Q5(s:SS):Option (Nat × Bool)->Option (List SS)
 | none=>some [s]
 | some (j,_)=>match s.t[j]? with
  | some (.ex (.sc (.bool b)))=>some [s]
  | some (.ex (.ah []))=>some [s]
  | some (.cmp c)=>
   let f:=λ(d:Option Bool) (b:Bool) (c:Cnd)=>match s.assume d c with
    | some s1=>[s1.put (some j) (.ex (.sc (.bool b)))]
    | none=>[]
   let d:=s.dec c
   some (f d true c++f (VI d) false c.not)
  | some .bool=>some [s.put (some j) (.ex (.sc (.bool true))),s.put (some j) (.ex (.sc (.bool false)))]
  | _=>none
def Vc(cb:ACB)(s:SS)(o:COp):Option SS:=match C7 s o.guard with
 | some true=>kH cb s o.dst o.af o.k
 | some false=>some (s.put o.dst zgy)
 | none=>none
def EE{α Y:Type}(f:α->Option (List Y)):List α->Option (List Y)
 | []=>some []
 | x::l=>match f x,EE f l with
  | some y,some m=>some (y++m)
  | _,_=>none
def Z8(cb:ACB):List COp->SS->Option (List SS)
 | [],s=>some [s]
 | o::rest,s=>match Q5 s o.guard with
  | some ss=>EE (λs=>match Vc cb s o with
   | some s'=>Z8 cb rest s'
   | none=>none) ss
  | none=>none
def idA:A->Option Nat
 | .ptr id _=>some id
 | .own id _ _ _=>some id
 | _=>none
def U4:A->Bool
 | .ak 1 _ _ _ | .ak 2 _ _ _ | .ai 1 _ _ _ _ | .ai 2 _ _ _ _ | .am 1 _ _ | .am 2 _ _=>true
 | _=>false
def Ym:A->Bool
 | .fp _ | .ak 0 _ _ _ | .ak 1 _ _ _ | .ai 0 _ _ _ _ | .ai 1 _ _ _ _ | .am 0 _ _ | .am 1 _ _=>true
 | _=>false
def zdk(s:SS)(o:COp):Option (List Nat):=match C7 s o.guard with
 | none=>none
 | some false=>some []
 | some true=>match o.k with
  | .load _ _ a _=>match s.src a with
   | .ptr id _=>some [id]
   | .fp _=>some []
   | _=>none
  | .store _ a _=>match s.src a with
   | .ptr id _=>some [id]
   | _=>none
  | .alloc _ _ | .box _ _=>o.dst.map λd=>[d]
  | .buildSlice .. | .makeSlice .. | .extract ..=>o.dst.map λd=>[d]
  | .move _ _=>some []
  | .append _ _ x y=>match F5 (s.src y),U4 (s.src x),zcp (s.src y) with
   | none,true,false=>o.dst.map λd=>[d]
   | _,_,_=>none
  | .call _ args []=>match nZ (BA s) args with
   | some _=>some (args.filterMap (λx=>F5 (s.src x.1))++o.dst.toList)
   | none=>none
  | _=>none
def zac(s:SS)(r id:Nat):Bool:=match s.t[r]? with
 | some a=>(match idA a with | some id'=>Wae id id' | none=>false)
 | none=>false
def WS(s:SS)(K:List Nat)(r:Nat):Bool:=match s.t[r]? with
 | some a=>(match idA a with | some id=>!K.contains id | none=>Ym a)
 | none=>false
def zc7(s:SS)(o:COp)(fl:Fl):Bool:=match zdk s o with
 | some K=>(match fl.root with | some r=>K.all (zac s r) | none=>true)&&(!fl.nw||(match E8 o with | some d=>K.all (λid=>Wae id d) | none=>false))&&fl.w.all (WS s K)&&fl.wn.all (λn=>!K.contains n)
 | none=>false
def JT(s:SS):A->Bool
 | .own id _ _ _=>match s.b[id]? with | some (.fz _)=>true | _=>false
 | .ptr _ _ | .any | .ex _ | .st _=>false
 | _=>true
def Lr:A->Bool
 | .own _ _ _ _ | .ptr _ _ | .any | .ah _ | .st _ | .bx _ _ | .bool | .str | .cmp _ | .int _ _ | .iv _ _ _=>false
 | .ex v=>yk v
 | .ak q _ _ _ | .ai q _ _ _ _ | .am q _ _=>WbY q 1
 | _=>true
def Lv(s:SS)(d:Option Nat):Bool:=match d with
 | some d=>(match s.t[d]? with
  | some (.ptr _ _) | some .any=>false
  | some (.ex v)=>!uk v
  | some _=>true
  | none=>false)
 | none=>false
def Xc(s:SS)(o:COp)(s':SS):Bool:=match C7 s o.guard with
 | some true=>match o.k with
  | .load agg _ _ take=>agg||!take
  | .toStr _ | .ofStr _ | .ax .. | .move ..=>true
  | .buildSlice .. | .makeSlice ..=>!o.af
  | .append _ _ x _=>!o.af&&U4 (s.src x)
  | .call _ args xs=>!o.af&&xs.isEmpty&&args.all (λx=>decide (x.2<2)&&(JT s (s.src x.1)||Lr (s.src x.1)))&&Lv s' o.dst
  | .extract x i=>!o.af&&match s.src x with
   | .ah vs=>match vs[i]? with
    | some (.bx _ _) | some .any | some (.ex _)=>false
    | some _=>true
    | none=>false
   | _=>false
  | k=>dS k
 | some false=>true
 | none=>false
def Zy(s:SS)(o:COp)(r:Nat):Bool:=f7 o.k&&match o.k with
 | .load _ _ (.tmp p) _=>match s.t[p]?,s.t[r]? with
  | some (.ptr id _),some (.ptr id' _)=>Wae id id'
  | some (.fp _),some _=>true
  | _,_=>false
 | _=>false
def ZI(s:SS)(o:COp)(s':SS):Bool:=match C7 s o.guard with
 | some false=>true
 | some true=>match o.k,o.dst with
  | .call _ args xs,some d=>!o.af&&xs.isEmpty&&args.all (λx=>decide (x.2<2)&&Lr (s.src x.1))&&Lv s' (some d)
  | _,_=>false
 | none=>false
def RO(s:SS)(o:COp)(id:Nat):Bool:=dS o.k||f7 o.k||match C7 s o.guard with
 | some false=>true
 | some true=>match o.k with
  | .call _ args []=>match nZ (BA s) args with
   | some _=>!((args.filterMap (λx=>F5 (s.src x.1))++o.dst.toList).contains id)
   | none=>false
  | .alloc _ _=>!(o.dst.toList.contains id)
  | .box _ _=>!(o.dst.toList.contains id)
  | _=>false
 | none=>false
def LQ(s:SS)(o:COp):List Nat->Bool
 | []=>true
 | r::w=>(match s.t[r]? with
  | some (.ptr id _)=>RO s o id
  | some (.fp _)=>true
  | _=>false)&&LQ s o w
def flA(s:SS)(o:COp)(fl:Fl)(s':SS):Bool:=
 (match fl.l with
 | true=>zc7 s o fl
 | false=>match fl.s with
  | true=>ZI s o s'
  | false=>(!fl.q||Xc s o s')&&(match fl.root with | none=>true | some r=>Zy s o r)&&LQ s o fl.w) &&
 (!fl.tk||(match o.dst with | some d=>(match s'.t[d]? with | some a=>U4 a | none=>false) | none=>false))
def Z2(cb:ACB):List (COp × Fl)->SS->Option (List SS)
 | [],s=>some [s]
 | o::rest,s=>match Q5 s o.1.guard with
  | some ss=>EE (λs=>match Vc cb s o.1 with
   | some s'=>match flA s o.1 o.2 s' with
    | true=>Z2 cb rest s'
    | false=>none
   | none=>none) ss
  | none=>none
def xk(s:SS):List Nat->Option SS
 | []=>some s
 | d::fz=>match Wca d 100000 with
  | true=>match s.b[d]? with
   | some (.live true (c::cs))=>xk (s.ab d (.fz (c::cs))) fz
   | some _=>xk s fz
   | none=>xk s fz
  | false=>match s.b[d-100000]? with
   | some (.live false _)=>none
   | _=>xk s fz
structure Gen where
 n:Nat
 s1:SS
 s2:SS
 new:List (Nat × Lin × Lin × Int × Int)
 ls:List Nat
def zbh(N0:Nat)(e:Lin):Bool:=jM (λp=>Wca p.1 N0) e.t
def zhb(e1 e2:Lin):List (Nat × Lin × Lin × Int × Int)->Option Nat
 | []=>none
 | p::l=>match p.2.1.eq e1&&p.2.2.1.eq e2 with
  | true=>some p.1
  | false=>zhb e1 e2 l
def Gen.sym(g:Gen)(N0:Nat)(e1 e2:Lin):Lin × Gen:=match e1.eq e2&&zbh N0 e1 with
 | true=>(e1,g)
 | false=>match zhb e1 e2 g.new with
  | some x=>(.sy x,g)
  | none=>match e1.lb g.s1.iv,e1.ub g.s1.iv,e2.lb g.s2.iv,e2.ub g.s2.iv with
  | some l,some h,some l',some h'=>(.sy g.n,{ g with n:=g.n+1,new:=(g.n,e1,e2,kU l l',n8 h h')::g.new })
  | _,_,_,_=>(.lit 0,g)
def zcX:A->Option Lin
 | .int _ e=>some e
 | .ex (.sc (.int _ n))=>some (.lit n)
 | _=>none
def zgH(N0:Nat)(g:Gen)(a b:A):A × Gen:=match AB a,AB b,zcX a,zcX b with
 | some k,some k',some e,some f=>match decide (k=k') with
  | true=>let r:=g.sym N0 e f; (.int k r.1,r.2)
  | false=>(.any,g)
 | _,_,_,_=>match a,b with
  | .ptr id o,.ptr id' o'=>match Wae id id' with
   | true=>let r:=g.sym N0 o o'; (.ptr id r.1,r.2)
   | false=>(.any,g)
  | .own id o m sz,.own id' o' m' sz'=>match Wae id id'&&Wae sz sz' with
   | true=>let r:=g.sym N0 o o'; let q:=r.2.sym N0 m m'; (.own id r.1 q.1 sz,q.2)
   | false=>(.any,g)
  | a,b=>match BO a,BO b,oc 12 g.s1.iv a g.s2.iv b with
   | some n,some m,.ai q sz _ _ row=>let r:=g.sym N0 n m; (.ak q sz r.1 row,match Wae r.2.n g.n with | true=>r.2 | false=>{ r.2 with ls:=g.n::r.2.ls })
   | _,_,h=>(h,g)
def zf5(N0:Nat):Gen->List A->List A->List A × Gen
 | g,a::l,b::m=>let r:=zgH N0 g a b; let q:=zf5 N0 r.2 l m; (r.1::q.1,q.2)
 | g,_,_=>([],g)
def zhO(cs:List A):Bool:=WbY ((cs.filter (λa=>match AB a with | some .u8=>false | some _=>true | none=>false)).length) 12
def zgp(N0:Nat):Gen->List A->List A->List A × Gen
 | g,a::l,b::m=>
  let r:=match AB a with | some .u8=>(oc 12 g.s1.iv a g.s2.iv b,g) | _=>zgH N0 g a b
  let q:=zgp N0 r.2 l m; (r.1::q.1,q.2)
 | g,_,_=>([],g)
def zfJ(N0:Nat):Gen->List BB->List BB->List BB × Gen
 | g,x::l,y::m=>
  let r:BB × Gen:=match x,y with
   | .live p cs,.live _ ds=>match zhO cs with
    | true=>let q:=zgp N0 g cs ds; (.live p q.1,q.2)
    | false=>(.live p (WbZ (λa b=>oc 12 g.s1.iv a g.s2.iv b) cs ds),g)
   | .fz cs,.fz ds=>(.fz (WbZ (λa b=>oc 12 g.s1.iv a g.s2.iv b) cs ds),g)
   | .gone,.gone=>(.gone,g)
   | x,_=>(x,g)
  let q:=zfJ N0 r.2 l m; (r.1::q.1,q.2)
 | g,_,_=>([],g)
def zft(l:List (Lin × Lin × Lin))(f:Lin × Lin × Lin->Lin × Lin × Lin->Option Lin):List Lin:=l.flatMap λx=>l.filterMap λy=>f x y
def zaK(N0:Nat)(l:List A):List Nat:=(l.filterMap λa=>match (match a with | .int _ e=>some e | a=>BO a) with
 | some e=>match e.t with
  | [(x,_)]=>match Wca x N0 with | true=>some x | false=>none
  | _=>none
 | none=>none).eraseDups
def zcP(n:Int):List Int->Int
 | []=>n
 | x::l=>match leI n x with
  | true=>x
  | false=>zcP n l
def zhs(w:Bool)(old new:Int × Int):Int × Int:=match w with
 | false=>new
 | true=>((match leI old.1 new.1 with
  | true=>old.1
  | false=>- zcP (- new.1) [0,128,2147483648,9223372036854775808]),
  (match leI new.2 old.2 with
  | true=>old.2
  | false=>zcP new.2 [0,255,65535,2147483647,4294967295,9223372036854775807,18446744073709551615]))
def YJ(fs:List Lin)(iv:IV):IV:=fs.foldl (λiv f=>match f.t with
 | [(x,a),(y,b)]=>match isZ (a-1)&&isZ (b+1),isZ (a+1)&&isZ (b-1),iv[x]?,iv[y]? with
  | true,_,some p,some q=>(iv.set x (p.1,kU p.2 (q.2-f.c))).set y (n8 q.1 (p.1+f.c),q.2)
  | _,true,some p,some q=>(iv.set y (q.1,kU q.2 (p.2-f.c))).set x (n8 p.1 (q.1+f.c),p.2)
  | _,_,_,_=>iv
 | _=>iv) iv
def rA{α:Type}(n:Nat)(x:α)(l:List α):List α:=Wad n x++l
def zcw:List Lin->List Lin
 | []=>[]
 | f::l=>match l.any f.eq with
  | true=>zcw l
  | false=>f::zcw l
def zfL(N0:Nat)(s:SS)(e:Lin):List Nat:=e.t.flatMap λm=>match Wca m.1 N0 with
 | true=>[m.1]
 | false=>s.fs.flatMap λf=>match f.t.any (λq=>Wae q.1 m.1) with
  | true=>f.t.filterMap λq=>match Wca q.1 N0 with | true=>some q.1 | false=>none
  | false=>[]
def gen(N0:Nat)(w:Bool)(s1 s2:SS):SS:=
 let r:=zf5 N0 ⟨N0,s1,s2,[],[]⟩ s1.t s2.t
 let q:=zfJ N0 r.2 s1.b s2.b
 let new:=q.2.new.reverse
 let gs:=zaK N0 r.1
 let terms:List (Lin × Lin × Lin):=new.map (λp=>(Lin.sy p.1,p.2.1,p.2.2.1))++gs.map (λx=>(Lin.sy x,Lin.sy x,Lin.sy x))
 let fs:=zft terms λx y=>match x.1.eq y.1 with
  | true=>none
  | false=>match s1.le (x.2.1.sub y.2.1)&&s2.le (x.2.2.sub y.2.2) with
   | true=>some (x.1.sub y.1)
   | false=>none
 let gi:=zaK N0 (r.1.filter λa=>match a with | .int _ _=>true | _=>false)
 let fs2:=(new.filter λp=>q.2.ls.contains p.1).flatMap λp=>(gi++zfL N0 s1 p.2.1++zfL N0 s2 p.2.2.1).eraseDups.filterMap λy=>match !(s1.le (p.2.1.sub (.sy y))&&s2.le (p.2.2.1.sub (.sy y)))&&(s1.le ((p.2.1.sub (.sy y)).au (-1))&&s2.le ((p.2.2.1.sub (.sy y)).au (-1))) with
  | true=>some (((Lin.sy p.1).sub (.sy y)).au (-1))
  | false=>none
 let old:=(s1.fs.filter λf=>zbh N0 f&&s2.le f)
 let iv0:=(WbZ (λp q=>(kU p.1 q.1,n8 p.2 q.2)) (s1.iv.take N0) (s2.iv.take N0))
 let iv1:=new.map λp=>match p.2.1.lb s1.iv,p.2.1.ub s1.iv with
  | some l,some h=>zhs w (l,h) (p.2.2.2.1,p.2.2.2.2)
  | _,_=>(p.2.2.2.1,p.2.2.2.2)
 { iv:=YJ fs (YJ fs (iv0++iv1)),fs:=zcw (fs++(fs2++old)),t:=r.1,b:=q.1 }
def thA(N0:Nat)(th:Th)(a j:A):Th:=
 let add:=λ(th:Th) (e f:Lin)=>match e.t with
  | [(x,_)]=>match Wca x N0||(CX x th).isSome with
   | true=>th
   | false=>(x,f)::th
  | _=>th
 match j with
 | .int _ e=>match zcX a with | some f=>add th e f | none=>th
 | .ak _ _ n _=>match BO a with | some f=>add th n f | none=>th
 | .ptr _ o=>match a with | .ptr _ o'=>add th o o' | _=>th
 | .own _ o m _=>match a with | .own _ o' m' _=>add (add th o o') m m' | _=>th
 | _=>th
def thL(N0:Nat):Th->List A->List A->Th
 | th,a::l,j::m=>thL N0 (thA N0 th a j) l m
 | th,_,_=>th
def thB(N0:Nat):Th->List BB->List BB->Th
 | th,x::l,y::m=>thB N0 (match x,y with | .live _ cs,.live _ ds=>thL N0 th cs ds | .fz cs,.fz ds=>thL N0 th cs ds | _,_=>th) l m
 | th,_,_=>th
def ZT(N0:Nat)(s:SS)(th:Th):Nat->IV->Bool
 | _,[]=>true
 | x,p::l=>(match (match Wca x N0 with | true=>some (Lin.sy x) | false=>CX x th) with
  | some e=>s.le ((Lin.lit p.1).sub e)&&s.le (e.au (-p.2))
  | none=>false)&&ZT N0 s th (x+1) l
def leS(N0:Nat)(s j:SS):Option Th:=
 let th:=thB N0 (thL N0 [] s.t j.t) s.b j.b
 match WbY N0 j.iv.length&&(jM (λp=>Wca p.1 j.iv.length) th&&j4 (leA N0 s th 12) s.t j.t)&&(j4 (Zf N0 s th) s.b j.b&&(ZT N0 s th 0 j.iv&&jM (λf=>match f.sb N0 th with | some e=>s.le e | none=>false) j.fs)) with
 | true=>some th
 | false=>none
def zdp(N0:Nat)(s1 s2:SS):Option SS:=
 let j:=gen N0 false s1 s2
 match leS N0 s1 j,leS N0 s2 j with
 | some _,some _=>some j
 | _,_=>none
def Y2:Ex->Ex->Bool
 | .normal,.normal=>true
 | .ret,.ret=>false
 | .exit a,.exit b=>Wae a b
 | _,_=>false
def KH(N0:Nat)(e:Ex)(s:SS):List (Ex × SS)->List (Ex × SS)
 | []=>[(e,s)]
 | p::l=>match Y2 e p.1 with
  | true=>match zdp N0 p.2 s with
   | some j=>(p.1,j)::l
   | none=>p::KH N0 e s l
  | false=>p::KH N0 e s l
def Lu(N0:Nat)(l:List (Ex × SS)):List (Ex × SS):=l.foldl (λacc p=>KH N0 p.1 p.2 acc) []
def Lj(N0:Nat)(l:List (Ex × SS)):List (Ex × SS):=match WbY l.length 6 with
 | true=>l
 | false=>Lu N0 l
def zdU(dead:Nat->Bool):A->Bool
 | .own id _ _ _=>!dead id
 | .any=>false
 | .ex v=>match v with | .own _ _ _ _=>false | _=>true
 | _=>true
def LR(dead:Nat->Bool):A->A
 | .ptr id off=>match dead id with | true=>.ex .ae | false=>.ptr id off
 | .own id off len sz=>match dead id with | true=>.ex .ae | false=>.own id off len sz
 | .ah vs=>match vs with | []=>.ex (.ah []) | _=>.ex .ae
 | .st cs=>match jM (zdU dead) cs with | true=>.st cs | false=>.any
 | .ex v=>.ex (oh dead v)
 | a=>a
def PX(dead:Nat->Bool):List Bool->List A->List A
 | k::ks,v::vs=>(match k with | true=>LR dead v | false=>.ex .ae)::PX dead ks vs
 | [],vs=>vs.map (λ_=>.ex .ae)
 | _,[]=>[]
def Ps(dead:Nat->Bool):List Bool->List BB->List BB
 | k::ks,v::vs=>(match k with | true=>(match v with | .live false cs=>.live false (cs.map (LR dead)) | x=>x) | false=>.gone)::Ps dead ks vs
 | [],vs=>vs.map (λ_=>.gone)
 | _,[]=>[]
def LJ(kt kb:List Bool)(s:SS):SS:={ s with t:=PX (λid=>!(kb.getD id false)) kt s.t,b:=Ps (λid=>!(kb.getD id false)) kb s.b }
def ur:List (Ex × SS)->List SS
 | []=>[]
 | p::l=>match p.1 with | .normal=>p.2::ur l | _=>ur l
def vF:List (Ex × SS)->List (Ex × SS)
 | []=>[]
 | p::l=>match p.1 with | .normal=>vF l | _=>p::vF l
def QE(N0:Nat)(body:SS->Option (List (Ex × SS)))(norm:SS->SS):Nat->SS->Option (List (Ex × SS))
 | 0,_=>none
 | n+1,s=>match body (norm s) with
  | some outs=>match EE (λs'=>QE N0 body norm n s') (ur outs) with
   | some r=>some (vF outs++r)
   | none=>none
  | none=>none
def G0(s:SS)(th:Th)(x:Nat)(up:Bool):Bool:=match CX x th with
 | some e=>match up with
  | true=>s.le (((Lin.sy x).sub e).au 1)
  | false=>s.le ((e.sub (Lin.sy x)).au 1)
 | none=>false
def Lx(N0:Nat)(j:SS)(l:List SS)(x:Nat)(up:Bool):Bool:=WbY N0 x&&(Wca x j.iv.length&&jM (λs=>match leS N0 s j with | some th=>G0 s th x up | none=>false) l)
def U8(N0:Nat)(j:SS)(l:List SS):Nat->Option (Nat × Bool)
 | 0=>none
 | n+1=>match Lx N0 j l n true with
  | true=>some (n,true)
  | false=>match Lx N0 j l n false with
   | true=>some (n,false)
   | false=>U8 N0 j l n
def Zu(N0:Nat)(body:Nat->SS->Option (List (Ex × SS)))(norm:SS->SS)(s j:SS):Option (List (Ex × SS)):=match leS N0 (norm s) j with
 | some _=>match body j.iv.length j with
  | some outs=>match ur outs with
   | []=>some (vF outs)
   | l=>match U8 N0 j (l.map norm) j.iv.length with
    | some _=>some (vF outs)
    | none=>none
  | none=>none
 | none=>none
def zd7(N0:Nat)(body:Nat->SS->Option (List (Ex × SS)))(norm:SS->SS):Nat->Bool->SS->Option SS
 | 0,_,j=>some j
 | n+1,w,j=>match body j.iv.length j with
  | some outs=>match ur outs with
   | []=>some j
   | l=>match jM (λs=>(leS N0 (norm s) j).isSome) l with
    | true=>some j
    | false=>zd7 N0 body norm n true (l.foldl (λj s=>gen N0 w j (norm s)) j)
  | none=>none
def Bl:CC->Nat
 | .seq a b=>Bl a+Bl b
 | .cond _ a b=>Bl a+Bl b
 | .block _ a=>Bl a
 | .loop _ _ a=>Bl a+1
 | _=>0
def ZC(s1:SS)(x:Src)(b:Bool):SS:=match x with
 | .tmp t=>s1.put (some t) (.ex (.sc (.bool b)))
 | .const _=>s1
def Wd(s:SS)(x:Src):Option (List (Bool × SS)):=match s.src x with
 | .ex (.sc (.bool b))=>some [(b,s)]
 | .cmp c=>
  let f:=λ(d:Option Bool) (b:Bool) (c:Cnd)=>match s.assume d c with
   | some s1=>[(b,ZC s1 x b)]
   | none=>[]
  let d:=s.dec c
  some (f d true c++f (VI d) false c.not)
 | .bool=>match x with
  | .tmp t=>some [(true,s.put (some t) (.ex (.sc (.bool true)))),(false,s.put (some t) (.ex (.sc (.bool false))))]
  | .const _=>none
 | _=>none
def ZF(id:Nat)(e:Ex):Ex:=match e with
 | .exit j=>(match Wae j id with | true=>.normal | false=>.exit j)
 | e=>e
abbrev MD:=List (Nat × Option SS)
def lkM(i:Nat):MD->Option (Option SS)
 | []=>none
 | p::l=>match Wae i p.1 with
  | true=>some p.2
  | false=>lkM i l
def zhj(N0:Nat)(body:Nat->SS->Option (List (Ex × SS)))(norm:SS->SS)(s:SS):Option SS->Option SS
 | some j=>some j
 | none=>zd7 N0 body norm 7 false (gen N0 false (norm s) (norm s))
def uZ(cb:ACB)(md:MD):CC->Nat->Nat->SS->Option (List (Ex × SS))
 | .skip,_,N0,s=>some [(.normal,s)]
 | .bw ops,_,N0,s=>(Z8 cb ops s).map λl=>Lj N0 (l.map λs=>(.normal,s))
 | .bt fz ops,_,N0,s=>match xk s fz with
  | some s=>(Z2 cb ops s).map λl=>Lj N0 (l.map λs=>(.normal,s))
  | none=>none
 | .seq a b,i,N0,s=>match uZ cb md a i N0 s with
  | some outs=>match EE (λs'=>uZ cb md b (i+Bl a) N0 s') (ur outs) with
   | some r=>some (vF outs++r)
   | none=>none
  | none=>none
 | .cond c a b,i,N0,s=>match Wd s c with
  | some l=>(EE (λp=>match p.1 with | true=>uZ cb md a i N0 p.2 | false=>uZ cb md b (i+Bl a) N0 p.2) l).map (Lj N0)
  | none=>none
 | .block id a,i,N0,s=>(uZ cb md a i N0 s).map λl=>Lu N0 (l.map λp=>(ZF id p.1,p.2))
 | .loop kt kb a,i,N0,s=>match lkM i md with
  | some o=>match zhj N0 (λN s=>uZ cb md a (i+1) N s) (LJ kt kb) s o with
   | some j=>(Zu N0 (λN s=>uZ cb md a (i+1) N s) (LJ kt kb) s j).map (Lu N0)
   | none=>none
  | none=>(QE N0 (λs=>uZ cb md a (i+1) N0 s) (LJ kt kb) 100 s).map (Lu N0)
 | .mask kt kb,_,N0,s=>some [(.normal,LJ kt kb s)]
 | .exit id,_,N0,s=>some [(.exit id,s)]
 | .ret,_,N0,s=>some [(.ret,s)]
 | .fork _ _ _ _,_,_,_=>none
def Kr:A->Bool
 | .own _ _ _ _ | .ptr _ _ | .ex _ | .ah _ | .st _ | .fp _ | .bx _ _ | .any=>false
 | a=>!a.hard
def OE(s:SS):RV->Option A
 | .tmp t=>match s.t.getD t (.ex .ae) with
  | .own id off len sz=>match off.lit?,len.lit?,s.b[id]? with
   | some 0,some n,some (.live true cs)=>match Wca 0 sz&&(nn n&&(WbY (n.toNat*sz) cs.length&&(!(isZ n)||Wae cs.length 0))) with
    | true=>some (.am 2 sz (nr sz n.toNat cs))
    | false=>none
   | _,_,_=>none
  | .ptr id off=>match off.lit?,s.b[id]? with
   | some 0,some (.live p (c::cs))=>match p with
    | true=>some (.bx p (c::cs))
    | false=>(nZ A.plain (c::cs)).map (.bx p)
   | _,_=>none
  | .ex v=>match v with | .sc x=>some (.ex (.sc x)) | _=>none
  | a=>match Kr a with | true=>some a | false=>none
 | .aK t=>match s.t.getD t (.ex .ae) with
  | .ex v=>match v with | .sc x=>some (.ex (.sc x)) | _=>none
  | a=>match Kr a with | true=>some a | false=>none
 | .cell t agg n=>match s.t.getD t (.ex .ae) with
  | .ptr id off=>match off.lit?,s.b[id]? with
   | some 0,some (.live p cs)=>match agg with
    | true=>match Wae cs.length n&&!(Wae n 0) with
     | true=>match p with
      | true=>some (.agg cs)
      | false=>(nZ A.plain cs).map .agg
     | false=>none
    | false=>match Wae n 1,cs with
     | true,c::_=>c.plain
     | _,_=>none
   | _,_=>none
  | _=>none
 | .aC _ _ _=>none
def CJ:A->List Nat
 | .own id _ _ _=>[id]
 | .ptr id _=>[id]
 | _=>[]
def LN(s:SS):List RV->List Nat
 | []=>[]
 | r::rest=>(match r.slot with | some t=>CJ (s.t.getD t (.ex .ae)) | none=>[])++LN s rest
def Pn(s:SS)(rs:List RV):Option A:=match rk rs&&(mu (LN s rs)&&jM (λr=>r.low s.t.length) rs) with
 | true=>match rs with
  | [r]=>OE s r
  | rs=>(nZ (OE s) rs).map .ah
 | false=>none
def Vw(nt:Nat)(args:List A):SS:=⟨[],[],args++Wad (nt-args.length) zgy,Wad nt .gone⟩
def Pe(s:SS):Nat->A->A
 | 0,a=>a
 | n+1,a=>match a with
  | .int k e=>match e.t with
   | []=>.int k e
   | _=>match lbF s e,ubF s e with
    | some l,some h=>.iv k l h
    | _,_=>.int k e
  | .ak q sz m row=>match lbF s m,ubF s m with
   | some l,some h=>.ai q sz l h row
   | _,_=>.ak q sz m row
  | .ah vs=>.ah (vs.map (Pe s n))
  | .agg vs=>.agg (vs.map (Pe s n))
  | a=>a
def zfu:List (SS × A)->Option A
 | []=>none
 | p::l=>some (l.foldl (λacc q=>oc 12 [] acc q.1.iv (Pe q.1 3 q.2)) (Gz p.1 (Pe p.1 3 p.2)))
structure Inst where
 g:Nat
 args:List A
 res:A
def PR(g:Nat)(args:List A):List Inst->Option A
 | []=>none
 | i::l=>match Wae i.g g&&j4 (SS.up ⟨[],[],[],[]⟩) args i.args with
  | true=>some i.res
  | false=>PR g args l
def Ze(T:Nat->Option CF)(md:Nat->MD)(is:List Inst):Nat->ACB
 | 0,g,args=>PR g args is
 | d+1,g,args=>match PR g args is with
  | some r=>some r
  | none=>match frN g,T g with
   | false,some c=>match uZ (Ze T md is d) (md g) c.body 0 0 (Vw c.ntmps args) with
    | some outs=>match nZ (λp:Ex × SS=>match p.1 with | .exit _=>none | _=>(Pn p.2 c.res).map λa=>(p.2,a)) outs with
     | some l=>match zfu l with
      | some j=>match jM (λp=>p.1.up p.2 j) l with
       | true=>some j
       | false=>none
      | none=>none
     | none=>none
    | none=>none
   | _,_=>none
end
end Go.Proofs.YtipklgbboecciaaGreat
