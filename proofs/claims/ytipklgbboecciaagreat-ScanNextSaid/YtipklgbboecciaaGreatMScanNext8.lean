/- Part 8 of the proof of ScanNext: an abstract machine over plain values, its soundness, and the functions of the program on plain values. -/
import Derived.Test.YtipklgbboecciaaGreatMScanNext7
namespace Go.Proofs.YtipklgbboecciaaGreat
set_option maxRecDepth 100000
set_option linter.unusedVariables false
set_option linter.unusedSimpArgs false
open Nat renaming beq->Wae,ble->WbY,blt->Wca,mul_comm->Wcb
open List renaming zipWith->WbZ,replicate->Wad,getElem?_eq_some_iff->Wam,ext_getElem?->Wby
open Option renaming bind_eq_some_iff->Waa,bind_eq_bind->Wab,bind_some->Wbz
open IntKind renaming wrap->Wbf
section
variable {t af:Bool}{kd:IntKind}{v:V}{sz off f g:Nat}{cs args:List V}{es:Ls}{b:List B}{s:Sh}{dst:Option Nat}{k:K}{o:COp}{rs:List RV}{T:Nat->Option CF}{cf:CF}
section
variable {Y:Type} {r:Y}
theorem dO{p:Prop}[Decidable p]{k:Option Y}(h:chk p k=some r):p/\k=some r:=by
 grind [nH]
theorem ui{a b:Option Y}(h:ifb t a b=some r):(t=true/\a=some r)∨(t=false/\b=some r):=by
 cases t
 ·exact .inr ⟨rfl,h⟩
 ·exact .inl ⟨rfl,h⟩
theorem tA{k:Int->Option Y}(h:aI kd v k=some r):∃ n,v=.sc (.int kd n)/\k n=some r:=by
 unfold aI at h; grind [nH]
theorem oO{k:Int->Option Y}(h:BA v k=some r):∃ kd n,v=.sc (.int kd n)/\k n=some r:=by
 unfold BA at h; grind
theorem Kp{k:Bool->Option Y}(h:aB v k=some r):∃ b,v=.sc (.bool b)/\k b=some r:=by
 unfold aB at h; grind
theorem VV{k:ByteArray->Option Y}(h:aS v k=some r):∃ s,v=.sc (.string s)/\k s=some r:=by
 unfold aS at h; grind
theorem AO{k:Ls->Option Y}(h:aL sz v k=some r):∃ es,v=.sl sz es/\k es=some r:=by
 unfold aL at h; grind [nH]
theorem Yh{k:Ls->Option Y}(h:aLd sz v k=some r):∃ es,v.ag=.sl sz es/\k es=some r:=by
 unfold aLd at h; simp [nH] at h; split at h
 ·split at h
  ·rename_i e; subst e; exact ⟨_,rfl,h⟩
  ·cases h
 ·split at h
  ·rename_i e; subst e; exact ⟨_,rfl,h⟩
  ·cases h
 ·cases h
theorem zaK{k:List V->Option Y}(h:aG v k=some r):∃ cs,v=.agg cs/\k cs=some r:=by
 unfold aG at h; grind
theorem zeA{k:Ls->Option Y}(h:aGs sz v k=some r):∃ es,v=.gs sz es/\k es=some r:=by
 unfold aGs at h; grind [nH]
theorem zfK{id:Nat}{k:Option Y}(h:aM id v k=some r):v=.mp id/\k=some r:=by
 unfold aM at h; grind [nH]
theorem GP{id:Nat}{k:Option Y}(h:aP id off v k=some r):v=.ptr id off/\k=some r:=by
 unfold aP at h; grind [nH]
theorem uz{k:V->Option Y}(h:mV cs off k=some r):∃ v,cs[off]?=some v/\k v=some r:=by
 grind [mV]
theorem zeW{j:Int}{k:List V->Option Y}(h:idx es j k=some r):0<=j/\∃ c,es[j.toNat]?=some c/\k c=some r:=by
 grind [nH,idx]
theorem zeu{n:Nat}{a b:List V}{k:Bool->Option Y}(h:eqC n a b k=some r):(a.length=n/\b.length=n)/\∃ t,iQ a b=some t/\k t=some r:=by
 grind [nH,eqC]
theorem zdF{k:ByteArray->Option Y}(h:z4 es k=some r):∃ l,lX es=some l/\k ⟨l.toArray⟩=some r:=by
 grind [z4]
theorem Fo{k:List V->Option Y}(h:Hb cs k=some r):∃ vs,cs.mapM V.plain=some vs/\k vs=some r:=by
 grind [Hb]
theorem zbu{k:List V->Option Y}(h:Z6 cs k=some r):∃ vs,cs.mapM V.aJ=some vs/\k vs=some r:=by
 grind [Z6]
theorem tO{o:Option St}{κ:St->Option Y}(h:u7 o κ=some r):∃ Z,o=some Z/\κ Z=some r:=by
 grind
theorem np{k:V->Option Y}(h:vX b v k=some r):∃ u,gO b v=some u/\k u=some r:=by
 grind [vX]
theorem Ye{k:Ls->Option Y}(h:aGw sz v k=some r):∃ es,v=.gs sz es/\k es=some r:=by
 unfold aGw at h
 grind [dO]
theorem zdz{k:V->Option Y}(h:zde s v k=some r):k v=some r:=by
 unfold zde at h
 grind [Ye]
theorem Tp{k:V->Option Y}(h:asc s v k=some r):k v=some r:=by
 cases s with
 | any=>exact h
 | int kd=>obtain ⟨n,e,h'⟩:=tA h; subst e; exact h'
 | bool=>obtain ⟨n,e,h'⟩:=Kp h; subst e; exact h'
 | str=>obtain ⟨n,e,h'⟩:=VV h; subst e; exact h'
 | sl sz=>obtain ⟨n,e,h'⟩:=AO h; subst e; exact h'
 | gs sz=>obtain ⟨n,e,h'⟩:=Ye h; subst e; exact h'
 | row l=>cases h
theorem zdo{k:V->Option Y}(h:zgi s v k=some r):k v.ag=some r:=by
 cases s with
 | any=>exact h
 | int kd=>obtain ⟨n,e,h'⟩:=tA h; subst e; exact h'
 | bool=>obtain ⟨n,e,h'⟩:=Kp h; subst e; exact h'
 | str=>obtain ⟨n,e,h'⟩:=VV h; subst e; exact h'
 | sl sz=>obtain ⟨n,e,h⟩:=Yh h; rw [e]; exact h
 | gs sz=>obtain ⟨n,e,h⟩:=Yh h; rw [e]; exact h
 | row l=>cases h
theorem Q0:∀ {ss:List Sh} {i:Nat} {cs:List V} {k:List V->Option Y},VH ss i cs k=some r->i+ss.length=cs.length->k (cs.drop i)=some r
 | [],i,cs,k,h,hl=>by
  rw [List.drop_of_length_le (by simp at hl; omega)];exact h
 | s::ss,i,cs,k,h,hl=>by
  obtain ⟨v,e,h⟩:=uz h;have h:=Q0 (Tp h) (by simp at hl; omega);obtain ⟨hi,rfl⟩:=Wam.1 e
  simp_all
theorem FQ{k:List V->Option Y}(h:LQ s cs k=some r):k cs=some r:=by
 cases s with
 | row ss=>
  obtain ⟨hl,h⟩:=dO h;have:=Q0 h (by omega);simpa using this
 | _=>exact h
theorem Fi{k:V->Option Y}(h:Qx s cs off k=some r):∃ v,cs[off]?=some v/\k v=some r:=by
 obtain ⟨v,e,h⟩:=uz h; exact ⟨v,e,Tp h⟩
theorem Zj{k:V->Option Y}(h:zbC s cs off k=some r):∃ v,cs[off]?=some v/\k v.ag=some r:=by
 obtain ⟨v,e,h⟩:=uz h; exact ⟨v,e,zdo h⟩
theorem Yo{v:Value}{k:Value->Option Y}(h:ltV v k=some r):k v=some r:=by
 cases v <;> exact h
theorem zbt{a b:V}{k:V->Option Y}(h:Zn t a b k=some r):k (if t then a else b)=some r:=by
 unfold Zn at h; simp [nH] at h;split at h
 ·cases t <;> exact h
 ·split at h
  ·rename_i e; subst e; cases t <;> exact h
  ·cases h
 ·grind [ui]
theorem zb3{b:Bool}{k:List V->Option Y}(h:zdX b cs k=some r):k cs=some r:=by
 cases b <;> exact h
theorem K6{Z:St}:∀ {ps:List (Nat × Nat × Src)} {cs:List V} {k:List V->Option Y},PY Z ps cs k=some r->∃ cs',jh Z ps cs=some cs'/\k cs'=some r
 | [],cs,k,h=>⟨cs,rfl,h⟩
 | (off,n,x)::ps,cs,k,h=>by
  unfold PY at h;split at h
  ·rename_i v hv;obtain ⟨hc,h⟩:=dO h;obtain ⟨cs',e,h⟩:=K6 h
   grind [jh]
  ·cases h
theorem H4{sh:Nat->Sh}{Z:St}:∀ {ps:List (Nat × Nat × Src)} {cs:List V} {k:List V->Option Y},Ko sh Z ps cs k=some r->∃ cs',kW Z ps cs=some cs'/\k cs'=some r
 | [],cs,k,h=>⟨cs,rfl,h⟩
 | (off,n,x)::ps,cs,k,h=>by
  unfold Ko at h;split at h
  ·rename_i us hx;have h:=FQ h;obtain ⟨hc,h⟩:=dO h;obtain ⟨cs',e,h⟩:=H4 h
   grind [V.cells,V.plain,V.aJ,kW]
  ·split at h
   ·rename_i v hv;obtain ⟨hc,h⟩:=dO h;obtain ⟨cs',e,h⟩:=H4 h
    grind [kW]
   ·cases h
theorem zco{op:BinOp}{x y:Value}{k:Value->Option Y}(h:zcP op x y k=some r):∃ z,fZ op x y=some z/\k z=some r:=by
 unfold zcP at h
 grind [fZ,dO]
theorem Hz{Z:St}{x:Option Src}{dflt most:Nat}{k:Nat->Option Y}(h:K9 Z x dflt most k=some r):∃ n,ng Z x dflt most=some n/\k n=some r:=by
 unfold K9 at h;split at h
 ·exact ⟨_,rfl,h⟩
 ·obtain ⟨kd,n,e,h⟩:=oO h;obtain ⟨hc,h⟩:=dO h;exact ⟨_,by simp [ng,e,V.int?,hc],h⟩
theorem vM{Z:St}{len:Nat}{lo hi mx:Option Src}{k:Nat->Nat->Nat->Option Y}(h:CU Z len lo hi mx k=some r):∃ l hh m,iM Z len lo hi mx=some (l,hh,m)/\k l hh m=some r:=by
 obtain ⟨m,e1,h⟩:=Hz h;obtain ⟨hh,e2,h⟩:=Hz h;obtain ⟨l,e3,h⟩:=Hz h;exact ⟨l,hh,m,by simp [iM,e1,e2,e3],h⟩
end
def vV(c:CBC)(cb:CB):Prop:=∀ (Y:Type) (f:Nat) (args:List V) (bor:Bor) (k:V->Bor->Option Y) (r:Y),c Y f args bor k=some r->∃ v b,cb f args bor=some (v,b)/\k v b=some r
section
variable {Y:Type} {r:Y} {c:CBC} {cb:CB} {sh:Nat->Sh} {nb L:Nat}
theorem Vt{Z:St}{κ:St->Option Y}(h:U4 nb Z dst af v κ=some r):∃ σ',Z.ar nb dst af v=some σ'/\κ σ'=some r:=by
 cases v with
 | fr sz es=>
  grind [St.ao,St.ar,U4]
 | _=>exact tO h
theorem ZG(b:List B)(id:Nat)(κ:List B->Option Y):RL b id κ=κ (fc b id):=by
 unfold RL fc;split
 ·rename_i cs h;cases cs with
  | nil=>simp [ifb,h]
  | cons c cs=>simp [ifb,h]
 ·grind
theorem Cn(Z:St):∀ (srcs:List (Src × Nat)) (b:List B) (κ:List B->Option Y),CS Z srcs b κ=κ (dh Z srcs b)
 | [],b,κ=>rfl
 | s::rest,b,κ=>by
  unfold CS dh;by_cases h:2<=s.2
  ·rw [if_pos h]; simp [h]; exact Cn Z rest b κ
  ·rw [if_neg h]; simp [h];cases fR (s.1.get Z) with
   | none=>exact Cn Z rest b κ
   | some id=>simp [ZG]; exact Cn Z rest _ κ
theorem Uf{i:Nat}{x:B}(hb:b[i]?=some x):b.set i x=b:=by
 apply Wby
 grind
theorem za9{k:V->Option Y}{r:Y}(h:YW b v k=some r):∃ u,uL b v=some u/\k u=some r:=by
 unfold YW at h
 grind [dO,uL]
theorem Jr{b:List B}{r:Y}:∀ {vs:List V} {k:List V->Option Y},Pm b vs k=some r->∃ us,vs.mapM (uL b)=some us/\k us=some r
 | [],k,h=>⟨[],rfl,h⟩
 | v::vs,k,h=>by
  obtain ⟨u,e,h⟩:=za9 h;obtain ⟨us,e2,h⟩:=Jr h
  simp_all
theorem qT(nb:Nat){r:Y}:∀ (fz:List Nat) (Z:St) (κ:St->Option Y),pu nb fz Z κ=some r->κ (qS nb fz Z)=some r
 | [],Z,κ,h=>h
 | d::fz,Z,κ,h=>by
  unfold pu at h;unfold qS;cases hd:Wca d 100000 with
  | true=>
   rw [hd] at h;simp only at h ⊢;split at h
   ·rename_i cs hb;cases cs with
    | nil=>
     have e:fc Z.b (nb+d)=Z.b:=by unfold fc; rw [hb]
     have h:pu nb fz { Z with b:=Z.b.set (nb+d) (.live true []) } κ=some r:=h;rw [Uf hb] at h;rw [e]; exact qT nb fz _ κ h
    | cons c cs=>
     have e:fc Z.b (nb+d)=Z.b.set (nb+d) (.fz (c::cs)):=by unfold fc; rw [hb]
     have h:pu nb fz { Z with b:=Z.b.set (nb+d) (.fz (c::cs)) } κ=some r:=h;rw [e]; exact qT nb fz _ κ h
   ·rename_i hb;have e:fc Z.b (nb+d)=Z.b:=by
     unfold fc;split
     ·rename_i c cs h2; exact absurd h2 (hb _)
     ·rfl
    rw [e]; exact qT nb fz _ κ h
  | false=>
   rw [hd] at h;simp only at h ⊢;split at h
   ·rename_i cs hb;cases cs with
    | nil=>
     have e:i8 Z.b (nb+(d-100000))=Z.b:=by unfold i8; rw [hb]
     have h:pu nb fz { Z with b:=Z.b.set (nb+(d-100000)) (.live false []) } κ=some r:=h;rw [Uf hb] at h;rw [e]; exact qT nb fz _ κ h
    | cons c cs=>
     have h:Pm Z.b (c::cs) (λvs=>pu nb fz { Z with b:=Z.b.set (nb+(d-100000)) (.fz vs) } κ)=some r:=h;obtain ⟨vs,hvs,h⟩:=Jr h;have e:i8 Z.b (nb+(d-100000))=Z.b.set (nb+(d-100000)) (.fz vs):=by unfold i8; rw [hb]; simp only [hvs]
     rw [e]; exact qT nb fz _ κ h
   ·rename_i vs hb;have e:i8 Z.b (nb+(d-100000))=Z.b:=by unfold i8; rw [hb]
    rw [e]; exact qT nb fz _ κ h
   ·cases h
theorem RD(hc:vV c cb){Z:St}{srcs:List (Src × Nat)}{xs:List Nat}{κ:St->Option Y}(h:LT c nb Z dst af f args srcs xs κ=some r):∃ σ',lm cb nb Z dst af f args srcs xs=some σ'/\κ σ'=some r:=by
 unfold LT at h;rw [Cn] at h;simp only at h;split at h
 ·cases h
 ·rename_i bor hb;obtain ⟨v,b,e,h⟩:=hc _ _ _ _ _ _ h;obtain ⟨hl,h⟩:=dO h;split at h
  ·rename_i ht;obtain ⟨σ',e2,h⟩:=Vt h;refine ⟨σ',?_,h⟩;simp only [Bool.and_eq_true,decide_eq_true_eq] at ht;obtain ⟨t1,t2,t3,t4,t5,t6,t7,t8⟩:=ht;unfold lm
   grind
  ·cases h
theorem zfh{Z:St}{κ:St->Option Y}(hk:bZ (λ_ _ _=>none) nb Z dst af k=bZ cb nb Z dst af k)(h:u7 (bZ (λ_ _ _=>none) nb Z dst af k) κ=some r):∃ σ',bZ cb nb Z dst af k=some σ'/\κ σ'=some r:=by
 grind
theorem St.set_same{Z:St}{j:Nat}(h:Z.t[j]?=some v):({ Z with t:=Z.t.set j v }:St)=Z:=by
 have:Z.t.set j v=Z.t:=by
  apply Wby
  grind
 rw [this]
variable {Z:St}
theorem V1(hc:vV c cb){κ:St->Option Y}(h:im sh c nb Z dst af k κ=some r):∃ σ',bZ cb nb Z dst af k=some σ'/\κ σ'=some r:=by
 cases k with
 | pick c a b=>
  obtain ⟨t,e,h⟩:=Kp h;exact ⟨_,by simp only [bZ,cx,e,V.bool?]; rfl,by grind [zbt]⟩
 | build zero parts=>
  obtain ⟨cs,e,h⟩:=K6 h;have h:=zb3 h;exact ⟨_,by simp only [bZ,cx,e]; rfl,h⟩
 | ay zero parts=>
  obtain ⟨cs,e,h⟩:=H4 h;exact ⟨_,by simp only [bZ,cx,e]; rfl,h⟩
 | box p x=>
  simp [im] at h;split at h
  ·grind [bZ]
  ·rename_i hx;split at h
   ·rename_i v hv;have hk:∀ p,bZ cb nb Z dst af (.box p x)=Z.an nb dst (.live p v.cells) (λid=>.ptr id 0):=by
     intro p;cases hxx:x.get Z with
     | st cs=>exact absurd hxx (hx cs)
     | _=>rw [hxx] at hv; simp only [bZ,hxx,hv]
    cases p with
    | true=>
     obtain ⟨σ',e,h⟩:=tO h;exact ⟨σ',by rw [hk]; exact e,h⟩
    | false=>
     obtain ⟨σ',e,h⟩:=tO (FQ h);exact ⟨σ',by rw [hk]; exact e,h⟩
   ·cases h
 | bo neg x=>
  simp [im] at h;split at h
  ·rename_i sz es hx;split at h
   ·rename_i t;rcases ui h with ⟨hq,h⟩ | ⟨hq,h⟩
    ·have he:es=[]:=by simpa using hq
     subst he;have hget:∃ v,Z.t[t]?=some v/\Src.get Z (.tmp t)=v/\zdT v=v:=by
      simp only [Src.get,List.getD_eq_getElem?_getD] at hx ⊢;cases ht:Z.t[t]? with
      | none=>rw [ht] at hx; simp [V.ag] at hx
      | some v=>
       rw [ht] at hx;refine ⟨v,rfl,rfl,?_⟩;have hx:v.ag=.sl sz []:=hx
       match v,hx with
       | .gs a es,hx=>
        have:es=[]:=by simp [V.ag] at hx; exact hx.2
        rw [this]; rfl
       | .sl a es,hx=>
        have:es=[]:=by simp [V.ag] at hx; exact hx.2
        rw [this]; rfl
       | .ah [],hx=>rfl
       | .ah (_::_),hx=>rfl
       | .sc _,hx=>rfl
       | .agg _,hx=>rfl
       | .own _ _ _ _,hx=>rfl
       | .ptr _ _,hx=>rfl
       | .fp _ _,hx=>rfl
       | .fn _ _,hx=>rfl
       | .bx _ _,hx=>rfl
       | .fr _ _,hx=>rfl
       | .ub,hx=>rfl
       | .ae,hx=>rfl
     obtain ⟨v,g1,g2,g3⟩:=hget;simp only [lt] at h;rw [g2,g3,St.set_same g1] at h;exact ⟨_,by simp only [bZ,cx,hx]; rfl,h⟩
    ·exact ⟨_,by simp only [bZ,cx,hx,hq]; rfl,h⟩
   ·cases h
  ·cases h
 | un op x=>
  grind [Yo,cx,im,bZ]
 | conv k x=>
  obtain ⟨kd,n,e,h⟩:=oO h;exact ⟨_,by simp only [bZ,cx,e,V.int?]; rfl,h⟩
 | adc s x y c=>
  simp [im] at h;split at h
  ·rename_i a b d ha hb hd;obtain ⟨h0,h⟩:=dO h;exact ⟨_,by grind [cx,bZ],h⟩
  ·cases h
 | mm isMax x y=>
  simp only [im] at h;split at h
  ·rename_i k a k' b ha hb;exact ⟨_,by grind [cx,bZ],h⟩
  ·cases h
 | copy sz d s=>
  simp [im] at h;split at h
  ·rename_i id off len sz1 hd;obtain ⟨u,e,h⟩:=np h;split at h
   ·rename_i sz2 es;split at h
    ·rename_i cs hb;obtain ⟨hc,h⟩:=dO h;exact ⟨_,by grind [bZ],h⟩
    ·cases h
   ·cases h
  ·cases h
 | buildSlice sz n zero parts=>
  obtain ⟨cs,e,h⟩:=K6 h
  grind [bZ]
 | bin op x y=>
  grind [zco,Yo,cx,im,bZ]
 | aX neg n x y=>
  grind [zeu,cx,im,bZ]
 | ofStr x=>
  grind [VV,im,bZ]
 | toStr x=>
  obtain ⟨u,e,h⟩:=np h;split at h
  ·grind [cx,bZ,zdF]
  ·cases h
 | bG x=>
  grind [dO,cx,im,bZ]
 | bj x y=>
  obtain ⟨u,e,h⟩:=np h;obtain ⟨v,e',h⟩:=np h;split at h
  ·unfold zgT at h;split at h
   ·rename_i a ha;split at h
    ·rename_i b hb;exact ⟨_,by grind [cx,bZ],h⟩
    ·cases h
   ·cases h
  ·cases h
 | makeSlice sz bytes zero l c=>
  obtain ⟨k1,l',e1,h⟩:=oO h;obtain ⟨k2,c',e2,h⟩:=oO h;cases af with
  | true=>
   obtain ⟨hc,h⟩:=dO h;obtain ⟨σ',e3,h⟩:=tO h;exact ⟨σ',by simp only [bZ,e1,e2,V.int?]; grind,h⟩
  | false=>
   obtain ⟨hc,h⟩:=dO h;obtain ⟨σ',e3,h⟩:=tO h;exact ⟨σ',by simp only [bZ,e1,e2,V.int?]; grind,h⟩
 | ax n sz x lo hi mx=>
  obtain ⟨l,hh,m,e,h⟩:=vM h;split at h
  ·rename_i id off hx;split at h
   ·rename_i p cs hb;obtain ⟨hl,h⟩:=dO h;refine ⟨_,by simp only [bZ,cx,e,Wab,Wbz,hx,hb,hl,if_true,Option.map_some]; rfl,?_⟩;rcases ui h with ⟨q,h⟩ | ⟨q,h⟩
    ·grind
    ·grind
   ·grind [dO,ui,cx,bZ]
   ·cases h
  ·grind [dO,cx,bZ]
  ·cases h
 | aT sz x lo hi mx=>
  simp [im] at h;split at h
  ·rename_i sz' es hx;obtain ⟨l,hh,m,e,h⟩:=vM h;obtain ⟨hs,h⟩:=dO h;cases mx with
   | none=>exact ⟨Z.put dst (.sl sz ((es.drop l).take (hh-l))),by grind [cx,bZ],h⟩
   | some s=>
    grind [ui,cx,bZ]
  ·rename_i id off len sz' hx;obtain ⟨l,hh,m,e,h⟩:=vM h;obtain ⟨hs,h2⟩:=dO h;subst hs;cases mx with
   | none=>grind [cx,bZ]
   | some s=>
    grind [ui,cx,bZ]
  ·rename_i id off len cap sz' hx;cases hi with
   | none=>cases h
   | some s0=>
    cases mx with
    | some _=>cases h
    | none=>
     grind [vM,dO,cx,bZ]
  ·cases h
 | aW sz x hi=>
  simp [im] at h;split at h
  ·rename_i id off len sz' hx;cases hi with
   | none=>cases h
   | some s0=>
    grind [vM,dO,cx,bZ]
  ·cases h
 | aD sz x hi mx=>
  simp [im] at h;split at h
  ·rename_i sz' es hx;obtain ⟨kd,i,e,h⟩:=oO h;obtain ⟨kd',i',e',h⟩:=oO h;obtain ⟨hs,h⟩:=dO h;obtain ⟨hc,h2⟩:=dO h;refine ⟨_,?_,h2⟩;have e2:(hi.get Z).int?=some i:=by rw [e]; rfl
   have e3:(mx.get Z).int?=some i':=by rw [e']; rfl
   simp only [bZ,cx,hx,e2,e3];rw [if_pos ⟨hc.1,hc.2.1,hc.2.2,hs.2,hs.1⟩]; rfl
  ·cases h
 | field agg o n x=>
  grind [Fi,cx,im,bZ]
 | al len sz x i=>
  obtain ⟨k1,j,e1,h⟩:=oO h;obtain ⟨hj,h⟩:=dO h;split at h
  ·rename_i id off hx;exact ⟨_,by simp [bZ,cx,hx,e1,V.int?,hj],h⟩
  ·rename_i q cs hx;obtain ⟨hl,h⟩:=dO h;exact ⟨_,by simp [bZ,cx,hx,e1,V.int?,hj,hl],h⟩
  ·cases h
 | aj sz x i=>
  obtain ⟨k1,j,e1,h⟩:=oO h;split at h
  ·rename_i sz' es hx;obtain ⟨hs,h2⟩:=dO h;obtain ⟨hj,cc,e,h3⟩:=zeW h2;subst hs;exact ⟨_,by simp [bZ,cx,hx,e1,V.int?,hj,e],h3⟩
  ·rename_i id off len sz' hx;obtain ⟨hs,h2⟩:=dO h;obtain ⟨hj,h3⟩:=dO h2;subst hs;exact ⟨_,by simp [bZ,cx,hx,e1,V.int?,hj],h3⟩
  ·cases h
 | bt n sz x=>
  grind [dO,cx,im,bZ]
 | aR agg len sz x i=>
  obtain ⟨k1,j,e1,h⟩:=oO h;obtain ⟨hj,h⟩:=dO h;split at h
  ·rename_i cs hx;cases agg with
   | true=>exact ⟨_,by simp [bZ,cx,hx,e1,V.int?,hj],h⟩
   | false=>
    obtain ⟨v,e,h⟩:=Fi h;exact ⟨_,by simp [bZ,cx,hx,e1,V.int?,hj,e],h⟩
  ·cases h
 | load agg n a take=>
  simp [im] at h;split at h
  ·rename_i id off hx;split at h
   ·rename_i p cs hb;cases agg with
    | true=>
     obtain ⟨hl,h⟩:=dO h;cases p with
     | true=>grind [bZ]
     | false=>
      grind [Fo,zbu,bZ]
    | false=>
     cases take with
     | true=>
      grind [zdz,uz,bZ]
     | false=>
      grind [Zj,bZ]
   ·grind [Fi,dO,bZ]
   ·cases h
  ·grind [Fi,dO,bZ]
  ·cases h
 | store n a x=>
  cases dst with
  | some d=>cases h
  | none=>
  simp [im] at h;split at h
  ·rename_i id off hx;split at h
   ·rename_i cs hb;split at h
    ·rename_i v hv;obtain ⟨hl,h⟩:=dO h;exact ⟨_,by simp [bZ,hx,hb,hv,hl],h⟩
    ·cases h
   ·rename_i cs hb;cases hxv:x.get Z <;> simp only [hxv] at h
    case agg us=>
     obtain ⟨hl,h⟩:=dO (FQ h);exact ⟨_,by simp [bZ,hx,hb,hxv,hl],h⟩
    case st us=>
     obtain ⟨hl,h⟩:=dO h;exact ⟨_,by simp [bZ,hx,hb,hxv,hl],h⟩
    case ah=>cases h
    case bx=>cases h
    case ae=>cases h
    all_goals
     obtain ⟨hl,h⟩:=dO h;exact ⟨_,by simp [bZ,hx,hb,hxv,hl],h⟩
   ·cases h
  ·cases h
 | append sz bytes s x=>
  simp only [im] at h;split at h
  ·rename_i sz1 es hs;obtain ⟨u,e,h⟩:=np h;split at h
   ·rename_i sz2 es2;obtain ⟨⟨h1,h2⟩,h⟩:=dO h;obtain ⟨h3,h⟩:=dO h;cases af with
    | true=>
     grind [bZ]
    | false=>
     refine ⟨_,?_,h⟩
     grind [bZ]
   ·cases h
  ·grind [dO,bZ,np]
  ·rename_i id off len sz1 hs;obtain ⟨u,e,h⟩:=np h;split at h
   ·rename_i sz2 es2;split at h
    ·rename_i cs hb;obtain ⟨⟨h1,h2,h0⟩,h⟩:=dO h;obtain ⟨h3,h⟩:=dO h;obtain ⟨σ',e3,h⟩:=tO h
     grind [bZ]
    ·cases h
   ·cases h
  ·rename_i id off len cap sz1 hs;obtain ⟨u,e,h⟩:=np h;split at h
   ·rename_i sz2 es2;split at h
    ·rename_i cs hb;split at h
     ·obtain ⟨⟨h1,h2,h0⟩,h⟩:=dO h;obtain ⟨h3,h⟩:=dO h;refine ⟨_,?_,h⟩
      grind [bZ]
     ·cases h
    ·cases h
   ·cases h
  ·cases h
 | aN sz bytes s x=>
  cases af with
  | true=>grind [im]
  | false=>
   simp only [im] at h;split at h
   ·grind [dO,Sx,bZ,np]
   ·rename_i sz1 es hs;obtain ⟨u,e,h⟩:=np h;split at h
    ·rename_i sz2 es2;obtain ⟨⟨h1,h2⟩,h⟩:=dO h;obtain ⟨h3,h⟩:=dO h;refine ⟨_,?_,h⟩
     grind [Sx,bZ]
    ·cases h
   ·cases h
 | bi p sz a=>
  simp [im] at h;split at h
  ·rename_i id off hx;split at h
   ·rename_i cs hb;obtain ⟨v,hv,h⟩:=uz h;split at h
    ·rename_i sz1 es;split at h
     ·rename_i d;obtain ⟨h1,h⟩:=dO h;obtain ⟨σ',e,h⟩:=tO h
      grind [bZ]
     ·cases h
    ·cases h
   ·cases h
  ·cases h
 | aY n a x xs=>
  cases dst with
  | some d=>cases h
  | none=>
  grind [dO,im,bZ]
 | aE n a=>
  grind [dO,Jr,im,bZ]
 | bh p sz x=>
  simp only [im] at h;split at h
  ·rename_i sz1 es hx;split at h
   ·rename_i t d;obtain ⟨h1,h⟩:=dO h;obtain ⟨σ',e,h⟩:=tO h
    grind [bZ]
   ·cases h
  ·cases h
 | bc x=>
  grind [dO,im,bZ]
 | clear sz zero x=>
  simp [im] at h;split at h
  ·rename_i id off len sz1 hx;split at h
   ·rename_i cs hb;obtain ⟨h1,h⟩:=dO h;exact ⟨_,by grind [bZ],h⟩
   ·cases h
  ·cases h
 | aF sz bytes zero s x=>
  simp [im] at h;split at h
  ·rename_i sz1 es hs;obtain ⟨kd,n,e,h⟩:=oO h;obtain ⟨h1,h⟩:=dO h;obtain ⟨h2,h⟩:=dO h;cases af with
   | true=>cases h
   | false=>
    refine ⟨_,?_,h⟩;simp only [bZ,hs,e,V.int?];rw [if_pos ⟨h1,h2⟩];rfl
  ·cases h
 | extract x i=>
  grind [Vt,im,bZ]
 | call f args xs=>
  grind [RD,im,bZ]
 | aQ f args xs=>
  simp [im] at h;split at h
  ·grind [RD,bZ]
  ·cases h
 | a8 kd ok zero x y=>
  simp [im] at h;split at h
  ·grind [Tp,mAt,bZ]
  ·cases h
 | bw kd x y z=>
  simp [im] at h;split at h
  ·cases h
  ·split at h
   ·rename_i id hx;split at h
    ·rename_i es hes;split at h
     ·rename_i v hv;unfold VG at h;split at h
      ·rename_i hko;split at h
       ·rename_i q hq;refine ⟨_,?_,h⟩
        grind [bZ]
       ·cases h
      ·cases h
     ·cases h
    ·cases h
   ·cases h
 | _=>exact zfh rfl h
theorem RC(hc:vV c cb){κ:St->St->Option Y}(h:LJ sh c nb Z o κ=some r):∃ σ',cV cb nb Z o=some σ'/\κ Z σ'=some r:=by
 unfold LJ at h;split at h
 ·grind [gJ,V1,cV]
 ·rename_i j want hg;split at h
  ·grind [St.set_same,gJ,ui,lt,V1,cV]
  ·grind [gJ,cV]
  ·cases h
theorem M4(hc:vV c cb):∀ {ops:List COp} {Z:St} {κ:St->Option Y},OB sh c nb ops Z κ=some r->∃ σ',nx cb nb ops Z=some σ'/\κ σ'=some r
 | [],Z,κ,h=>⟨Z,rfl,h⟩
 | o::ops,Z,κ,h=>by
  obtain ⟨σ1,e1,h⟩:=RC hc h;obtain ⟨σ2,e2,h⟩:=M4 hc h
  grind [nx]
theorem T6(hc:vV c cb):∀ {ops:List (COp × Fl)} {Z:St} {κ:St->Option Y},VB sh c nb ops Z κ=some r->∃ σ',sE cb nb ops Z=some σ'/\κ σ'=some r
 | [],Z,κ,h=>⟨Z,rfl,h⟩
 | (o,q)::ops,Z,κ,h=>by
  obtain ⟨σ1,e1,h⟩:=RC hc h;split at h
  ·rename_i hq;obtain ⟨σ2,e2,h⟩:=T6 hc h
   grind [sE]
  ·cases h
theorem VZ{body:St->KT Y->Option Y}{bodyN:St->Option (Ex × St)}{norm:St->St}(hb:∀ Z K,body Z K=some r->∃ ex σ',bodyN Z=some (ex,σ')/\K ex σ'=some r):∀ (n:Nat) (Z:St) (K:KT Y),dX body norm n (norm Z) K=some r->∃ ex σ',nS bodyN norm n Z=some (ex,σ')/\K ex σ'=some r
 | 0,Z,K,h=>by cases h
 | n+1,Z,K,h=>by
  obtain ⟨ex,σ1,e,h⟩:=hb _ _ h;cases ex with
  | normal=>
   obtain ⟨ex,σ2,e2,h⟩:=VZ hb n σ1 K h
   grind [nS]
  | exit j=>exact ⟨_,_,by simp [nS,e],h⟩
  | ret=>exact ⟨_,_,by simp [nS,e],h⟩
theorem zcF{σ':St}(h:bZ (λ_ _ _=>none) nb Z dst af k=some σ'):bZ cb nb Z dst af k=some σ':=by
 cases k with
 | call f args xs=>
  simp only [bZ,lm,Wab,Waa,Prod.exists] at h
  grind
 | aQ f args xs=>
  simp only [bZ] at h;split at h
  ·simp only [lm,Wab,Waa,Prod.exists] at h
   grind
  ·cases h
 | _=>exact h
theorem TT{σ':St}(h:cV (λ_ _ _=>none) nb Z o=some σ'):cV cb nb Z o=some σ':=by
 grind [zcF,cV]
theorem Pi:∀ {ops:List COp} {Z σ':St},nx (λ_ _ _=>none) nb ops Z=some σ'->nx cb nb ops Z=some σ'
 | [],Z,σ',h=>h
 | o::ops,Z,σ',h=>by
  simp [nx,Waa] at h ⊢;obtain ⟨σ1,h1,h2⟩:=h;exact ⟨σ1,TT h1,Pi h2⟩
theorem VL:∀ {ops:List (COp × Fl)} {Z σ':St},sE (λ_ _ _=>none) nb ops Z=some σ'->sE cb nb ops Z=some σ'
 | [],Z,σ',h=>h
 | (o,q)::ops,Z,σ',h=>by
  simp [sE] at h ⊢;split at h
  ·rename_i σ1 h1;rw [TT h1];split at h
   ·rename_i hq;simp [hq];exact VL h
   ·cases h
  ·cases h
theorem zbO:∀ (cc:CC) (Z:St) (r:Ex × St),run (λ_ _ _=>none) nb L cc Z=some r->run cb nb L cc Z=some r:=by
 intro cc
 induction cc with
 | skip=>intro Z r h; exact h
 | bC ops=>
  intro Z r h;simp [run] at h ⊢;obtain ⟨σ1,h1,h2⟩:=h;exact ⟨σ1,Pi h1,h2⟩
 | bu fz ops=>
  intro Z r h;simp [run] at h ⊢;obtain ⟨σ1,h1,h2⟩:=h;exact ⟨σ1,VL h1,h2⟩
 | seq a b iha ihb=>
  intro Z r h;simp [run] at h ⊢;split at h
  ·rename_i σ1 h1;rw [iha _ _ h1];exact ihb _ _ h
  ·rename_i hne;obtain ⟨ex,σ1⟩:=r;rw [iha _ _ h];cases ex with
   | normal=>exact absurd h (hne _)
   | exit j=>rfl
   | ret=>rfl
 | fork p s a b ihp iha ihb=>
  intro Z r h;simp [run] at h ⊢;split at h
  ·rename_i σ1 h1;rw [ihp _ _ h1];simp only;split at h
   ·split at h
    ·rename_i hs;obtain ⟨e,_⟩:=OI hs;rw [iha _ _ (e.trans h),ihb _ _ h];rw [e,h] at hs;simp [hs]
    ·cases h
   ·split at h
    ·split at h
     ·rename_i σ2 h2;rw [iha _ _ h2];exact ihb _ _ h
     ·rename_i hne;obtain ⟨ex,σ2⟩:=r;rw [iha _ _ h];cases ex with
      | normal=>exact absurd h (hne _)
      | exit j=>rfl
      | ret=>rfl
    ·exact ihb _ _ h
    ·cases h
  ·rename_i hne;obtain ⟨ex,σ1⟩:=r;rw [ihp _ _ h];cases ex with
   | normal=>exact absurd h (hne _)
   | exit j=>rfl
   | ret=>rfl
 | cond s a b iha ihb=>
  intro Z r h;simp [run] at h ⊢;split at h
  ·split at h
   ·rename_i hs;have e:=NV hs;rw [iha _ _ (e.trans h),ihb _ _ h];rw [e,h] at hs;simp [hs]
   ·cases h
  ·rename_i hne;split at h
   ·rename_i t ht;cases t with
    | true=>simp at h ⊢; exact iha _ _ h
    | false=>simp at h ⊢; exact ihb _ _ h
   ·cases h
 | block id a ih=>
  intro Z r h;simp [run] at h ⊢;cases ha:run (λ_ _ _=>none) nb L a Z with
  | none=>rw [ha] at h; cases h
  | some q=>rw [ha] at h; rw [ih _ _ ha]; exact h
 | loop kt kb a ih=>
  intro Z r h;simp only [run] at h ⊢;have key:∀ (n:Nat) (Z:St),nS (run (λ_ _ _=>none) nb L a) (fF nb kt kb) n Z=some r->nS (run cb nb L a) (fF nb kt kb) n Z=some r:=by
   intro n
   induction n with
   | zero=>intro Z h; cases h
   | succ n ihn=>
    intro Z h;simp [nS] at h ⊢;cases ha:run (λ_ _ _=>none) nb L a (fF nb kt kb Z) with
    | none=>rw [ha] at h; cases h
    | some q=>
     obtain ⟨ex,σ1⟩:=q;rw [ha] at h;rw [ih _ _ ha];cases ex with
     | normal=>exact ihn _ h
     | exit j=>exact h
     | ret=>exact h
  exact key L Z h
 | mask kt kb=>intro Z r h; exact h
 | exit id=>intro Z r h; exact h
 | ret=>intro Z r h; exact h
theorem zeS(hc:vV c cb):∀ (cc:CC) (Z:St) (K:KT Y),cC sh c nb L cc Z K=some r->∃ ex σ',run cb nb L cc Z=some (ex,σ')/\K ex σ'=some r:=by
 intro cc
 induction cc with
 | skip=>intro Z K h; exact ⟨_,_,rfl,h⟩
 | bC ops=>
  intro Z K h;obtain ⟨σ',e,h⟩:=M4 hc h
  grind [run]
 | bu fz ops=>
  intro Z K h;obtain ⟨σ',e,h⟩:=T6 hc (qT nb fz Z _ h)
  grind [run]
 | seq a b iha ihb=>
  intro Z K h;obtain ⟨ex,σ1,e,h⟩:=iha _ _ h;cases ex with
  | normal=>
   obtain ⟨ex,σ2,e2,h⟩:=ihb _ _ h
   grind [run]
  | exit j=>exact ⟨_,_,by simp [run,e],h⟩
  | ret=>exact ⟨_,_,by simp [run,e],h⟩
 | fork p s a b ihp iha ihb=>
  intro Z K h;obtain ⟨ex,σ1,e,h⟩:=ihp _ _ h;cases ex with
  | exit j=>exact ⟨_,_,by simp [run,e],h⟩
  | ret=>exact ⟨_,_,by simp [run,e],h⟩
  | normal=>
   simp [dN] at h;split at h
   ·grind [onR,run,zbO,OI]
   ·rename_i hne;obtain ⟨t,et,h⟩:=Kp h;rcases ui h with ⟨rfl,h⟩ | ⟨rfl,h⟩
    ·obtain ⟨ex,σ2,e1,h⟩:=iha _ _ h;cases ex with
     | normal=>
      obtain ⟨ex,σ3,e2,h⟩:=ihb _ _ h;exact ⟨ex,σ3,by simp [run,e,et,V.bool?,e1]; exact e2,h⟩
     | exit j=>exact ⟨_,_,by simp [run,e,et,V.bool?,e1],h⟩
     | ret=>exact ⟨_,_,by simp [run,e,et,V.bool?,e1],h⟩
    ·obtain ⟨ex,σ2,e1,h⟩:=ihb _ _ h;exact ⟨ex,σ2,by simp [run,e,et,V.bool?]; exact e1,h⟩
 | cond s a b iha ihb=>
  intro Z K h;simp [cC] at h;split at h
  ·rename_i hub;split at h
   ·rename_i hsame;unfold onR at h
    grind [run,zbO]
   ·cases h
  ·rename_i hne;obtain ⟨t,e,h⟩:=Kp h;rcases ui h with ⟨rfl,h⟩ | ⟨rfl,h⟩
   ·obtain ⟨ex,σ1,e1,h⟩:=iha _ _ h;exact ⟨ex,σ1,by simp [run,e,V.bool?]; exact e1,h⟩
   ·obtain ⟨ex,σ1,e1,h⟩:=ihb _ _ h;exact ⟨ex,σ1,by simp [run,e,V.bool?]; exact e1,h⟩
 | block id a ih=>
  intro Z K h;obtain ⟨ex,σ1,e,h⟩:=ih _ _ h;cases ex with
  | normal=>exact ⟨_,_,by simp [run,e],h⟩
  | exit j=>
   simp [cW] at h;split at h
   ·rename_i hj;have hj:=Nat.eq_of_beq_eq_true hj
    grind [run]
   ·rename_i hj;have:j≠id:=Nat.ne_of_beq_eq_false hj;exact ⟨_,_,by grind [run],h⟩
  | ret=>exact ⟨_,_,by simp [run,e],h⟩
 | loop kt kb a ih=>
  intro Z K h;obtain ⟨ex,σ',e,h⟩:=VZ ih L Z K h;exact ⟨ex,σ',by simp [run]; exact e,h⟩
 | mask kt kb=>intro Z K h; exact ⟨_,_,rfl,h⟩
 | exit id=>intro Z K h; exact ⟨_,_,rfl,h⟩
 | ret=>intro Z K h; exact ⟨_,_,rfl,h⟩
theorem RJ{rv:RV}{k:V->Option Y}(h:CQ nb Z rv k=some r):∃ v,fD nb Z rv=some v/\k v=some r:=by
 cases rv with
 | aC t n p=>cases h
 | tmp t=>
  simp only [CQ] at h;split at h
  ·grind [dO,fD]
  ·grind [dO,Fo,fD]
  ·grind
 | aH t=>
  grind [fD,CQ]
 | cell t agg n=>
  simp only [CQ] at h;split at h
  ·grind [uz,dO,Fo,fD]
  ·cases h
theorem Nc{Z:St}:∀ {rs:List RV} {k:List V->Option Y},OK nb Z rs k=some r->∃ vs,rs.mapM (fD nb Z)=some vs/\k vs=some r
 | [],k,h=>⟨[],rfl,h⟩
 | x::rs,k,h=>by
  obtain ⟨v,e,h⟩:=RJ h;obtain ⟨vs,e2,h⟩:=Nc h
  simp_all
theorem Xu{k:V->Option Y}(h:HX nb Z rs k=some r):∃ v,results nb Z rs=some v/\k v=some r:=by
 unfold HX at h
 grind [Nc,RJ,results]
theorem CN{b:List B}{ids:List Nat}:∀ {l:List Nat} {k:Bor->Option Y},HY b nb ids l k=some r->∃ bor,vS b nb ids l=some bor/\k bor=some r
 | [],k,h=>⟨[],rfl,h⟩
 | id::l,k,h=>by
  simp only [HY] at h;split at h
  ·rename_i p cs hb;cases p with
   | true=>
    obtain ⟨bor,e,h⟩:=CN (l:=l) h
    grind [B.isRow,B.lend,B.aa,vS]
   | false=>
    simp only at h;split at h
    ·rename_i hd;obtain ⟨hl,h⟩:=dO h;obtain ⟨bor,e,h⟩:=CN (l:=l) h
     grind [B.lend,B.aa,vS]
    ·split at h
     ·rename_i m;obtain ⟨hl,h⟩:=dO h;obtain ⟨bor,e,h⟩:=CN (l:=l) h
      grind [B.isRow,B.lend,B.aa,vS,jk]
     ·cases h
  ·rename_i es hb;obtain ⟨bor,e,h⟩:=CN (l:=l) h
   grind [B.isRow,B.lend,B.aa,vS]
  ·rename_i n hb;split at h
   ·rename_i hd;obtain ⟨bor,e,h⟩:=CN (l:=l) h
    grind [B.lend,B.aa,vS]
   ·cases h
  ·cases h
theorem Ya{k:V->Bor->Option Y}(h:(match mZ Z.t.length rs Z with
  | some (Z,rs)=>HX nb Z rs λv=>HY Z.b nb (lR Z.b nb v) (lR Z.b nb v) λb=>match mt (lR Z.b nb v) with
   | true=>k (oR (eT (lR Z.b nb v)) v) b
   | false=>none
  | none=>none)=some r):∃ v b,Bq nb Z rs=some (v,b)/\k v b=some r:=by
 split at h;rotate_left
 ·cases h
 rename_i σ1 rs1 hu;obtain ⟨v,e1,h⟩:=Xu h;obtain ⟨b,e2,h⟩:=CN h;split at h
 ·rename_i hd;refine ⟨_,b,?_,h⟩
  grind [Bq,G1]
 ·cases h
theorem XR{pr:CB}{d:Nat}(hc:vV c (s5 (evF T pr L d)))(hT:T f=some cf){bor:Bor}{k:V->Bor->Option Y}(h:dj sh c L cf args bor k=some r):∃ v b,evF T pr L (d+1) f args bor=some (v,b)/\k v b=some r:=by
 have h:U6 sh c L cf args bor k=some r:=by
  unfold dj at h;split at h
  ·rename_i sz es rest _;cases es with
   | nil=>exact h
   | cons a l=>exact h
  ·exact h
 obtain ⟨ex,σ',e,h⟩:=zeS hc _ _ _ h;cases ex with
 | exit j=>cases h
 | normal=>
  obtain ⟨v,b,e1,h⟩:=Ya h
  grind [evF]
 | ret=>
  obtain ⟨v,b,e1,h⟩:=Ya h
  grind [evF]
def FOk(T:Nat->Option CF)(L g:Nat)(d:∀ (Y:Type),List V->Bor->(V->Bor->Option Y)->Option Y)(D:Nat):Prop:=∀ n,D<=n->∀ (Y:Type) (args:List V) (bor:Bor) (k:V->Bor->Option Y) (r:Y),d Y args bor k=some r->∃ v b,s5 (evF T zA L n) g args bor=some (v,b)/\k v b=some r
theorem ep:vV noC cb:=by
 intro Y f args bor k r h; cases h
theorem cU(hc:vV c cb){d:∀ (Y:Type),List V->Bor->(V->Bor->Option Y)->Option Y}(hd:∀ (Y:Type) (args:List V) (bor:Bor) (k:V->Bor->Option Y) (r:Y),d Y args bor k=some r->∃ v b,cb g args bor=some (v,b)/\k v b=some r):vV (d6 g d c) cb:=by
 intro Y f args bor k r h;unfold d6 at h;split at h
 ·simp_all
 ·exact hc _ _ _ _ _ _ h
theorem zdS(hg:frN g=false)(args:List V)(bor:Bor):s5 cb g args bor=cb g args bor:=by
 unfold s5; rw [hg]
theorem eF(hT:T g=some cf){d:∀ (Y:Type),List V->Bor->(V->Bor->Option Y)->Option Y}{D:Nat}
  (h:∀ m,D<=m->∃ (sh:Nat->Sh) (c:CBC),vV c (s5 (evF T zA L m))/\∀ (Y:Type) (args:List V) (bor:Bor) (k:V->Bor->Option Y) (r:Y),d Y args bor k=some r->dj sh c L cf args bor k=some r) (hg:frN g=false:=by rfl):FOk T L g d (D+1):=by
 intro n hn Y args bor k r hr;obtain ⟨m,rfl⟩:∃ m,n=m+1:=⟨n-1,by omega⟩;obtain ⟨sh,c,hc,hd⟩:=h m (by omega);rw [zdS hg];exact XR hc hT (hd _ _ _ _ _ hr)
abbrev Dk:=∀ (Y:Type),List V->Bor->(V->Bor->Option Y)->Option Y
variable {X:Dk}
def d0(f:∀ (Y:Type),(V->Bor->Option Y)->Option Y):Dk:=λY a b k=>(λ(_:Nat->Nat)=>match a with
 | []=>(match b with
  | []=>f Y k
  | _::_=>none)
 | _::_=>none) Ss
def dA{α:Type}(acc:∀ (Y:Type),V->(α->Option Y)->Option Y)(f:α->Dk):Dk:=λY a b k=>(λ(_:Nat->Nat)=>match a with
 | v::r=>acc Y v (λp=>f p Y r b k)
 | []=>none) Ss
def DK(d X:Dk):Prop:=∀ Y args bor k r,d Y args bor k=some r->X Y args bor k=some r
theorem Wd{f:∀ (Y:Type),(V->Bor->Option Y)->Option Y}{a:List V}{b:Bor}{k:V->Bor->Option Y}{r:Y}(e:d0 f Y a b k=some r):a=[]/\b=[]/\f Y k=some r:=by
 cases a with
 | cons v a=>have e:none=some r:=e; cases e
 | nil=>cases b with
  | cons v b=>have e:none=some r:=e; cases e
  | nil=>exact ⟨rfl,rfl,e⟩
theorem fC{f:∀ (Y:Type),(V->Bor->Option Y)->Option Y}(h:∀ Y k,X Y [] [] k=f Y k):DK (d0 f) X:=by
 intro Y a b k r e
 grind [Wd]
def CM{α:Type}(acc:∀ (Y:Type),V->(α->Option Y)->Option Y)(mk:α->V):Prop:=∀ Y v k r,acc Y v k=some r->∃ p,v=mk p/\k p=some r
theorem dk{α:Type}{acc:∀ (Y:Type),V->(α->Option Y)->Option Y}{mk:α->V}(hi:CM acc mk){f:α->Dk}(h:∀ p,DK (f p) (λY a b k=>X Y (mk p::a) b k)):DK (dA acc f) X:=by
 intro Y a b k r e;cases a with
 | nil=>have e:none=some r:=e; cases e
 | cons v a=>
  have e:acc Y v (λp=>f p Y a b k)=some r:=e;obtain ⟨p,rfl,e2⟩:=hi _ _ _ _ e;exact h p _ _ _ _ _ e2
theorem zeE{X:Nat->Dk}{c:Nat}(e:∀ (Y:Type) (n:Nat) (k:V->Bor->Option Y),X (n+c) Y [] [] k=k v [])(L:Nat):DK (d0 λ_ k=>chk (c<=L) (k v [])) (X L):=by
 refine λY args bor k r h=>?_;obtain ⟨rfl,rfl,h2⟩:=Wd h;rw [nH] at h2;split at h2
 ·rename_i hc;obtain ⟨n,rfl⟩:∃ n,L=n+c:=⟨L-c,by omega⟩;rw [e]; exact h2
 ·cases h2
abbrev AI(kd:IntKind)(Y:Type)(v:V)(k:Int->Option Y):Option Y:=aI kd v k
abbrev AL(sz:Nat)(Y:Type)(v:V)(k:Ls->Option Y):Option Y:=aL sz v k
abbrev AGs(sz:Nat)(Y:Type)(v:V)(k:Ls->Option Y):Option Y:=aGs sz v k
abbrev AG(Y:Type)(v:V)(k:List V->Option Y):Option Y:=aG v k
theorem gm:CM (AI kd) (λn=>.sc (.int kd n)):=λ_ _ _ _ h=>tA h
theorem ik:CM (AL sz) (λn=>.sl sz n):=λ_ _ _ _ h=>AO h
theorem zbv:CM (AGs sz) (λn=>.gs sz n):=λ_ _ _ _ h=>zeA h
theorem fN:CM AG (λn=>.agg n):=λ_ _ _ _ h=>zaK h
theorem EM(kd:IntKind)(n:Int)(k:Int->Option Y):aI kd (.sc (.int kd n)) k=k n:=by show chk (kd=kd) (k n)=k n; rw [nH,if_pos rfl]
theorem zhK(sz:Nat)(l:Ls)(k:Ls->Option Y):aL sz (.sl sz l) k=k l:=by show chk (sz=sz) (k l)=k l; rw [nH,if_pos rfl]
theorem Z5(l:List V)(k:List V->Option Y):aG (.agg l) k=k l:=rfl
end
end
section
variable {p:Prop}{cs c:List V}{off sz:Nat}{n:Int}{es:Ls}{k:IntKind}
section
variable {Y:Type}
theorem cH{α:Type}(a:α)(k:α->Option Y):lt a k=k a:=Eq.trans rfl rfl
theorem bT{inst:Decidable p}(h:p)(k:Option Y):@chk Y p inst k=k:=(nH p k).trans (if_pos h)
theorem Vb{inst:Decidable True}(k:Option Y):@chk Y True inst k=k:=(nH True k).trans (if_pos trivial)
theorem gV(a b:Option Y):ifb true a b=a:=rfl
theorem eC(a b:Option Y):ifb false a b=b:=rfl
theorem XH{inst:Decidable p}(a b:Option Y):ifb (@decide p inst) a b=if p then a else b:=by
 grind [ifb]
theorem dt{inst:Decidable p}(h:p)(a b:Option Y):ifb (@decide p inst) a b=a:=by rw [XH,if_pos h]
theorem du{inst:Decidable p}(h:¬ p)(a b:Option Y):ifb (@decide p inst) a b=b:=by rw [XH,if_neg h]
theorem fd{x y:Int}(h:x=y)(a b:Option Y):ifb (x==y) a b=a:=by subst h; simp [ifb]
theorem eA{x y:Int}(h:x≠y)(a b:Option Y):ifb (x==y) a b=b:=by rw [beq_eq_false_iff_ne.2 h]; rfl
theorem eQ{kd:IntKind}(h:cs[off]?=some (.sc (.int kd n)))(k:Int->Option Y):cI kd cs off k=k n:=by
 simp [cI,mV,h,aI,Vb]
theorem zeP{b:Bool}(h:cs[off]?=some (.sc (.bool b)))(k:Bool->Option Y):cB cs off k=k b:=by
 simp [cB,mV,h,aB]
theorem rC(h:cs[off]?=some (.sl sz es))(k:Ls->Option Y):cL sz cs off k=k es:=by
 simp [cL,mV,h,aL,Vb]
theorem j4(h:cs[off]?=some (.sl sz es))(k:Ls->Option Y):cLd sz cs off k=k es:=by
 simp [cLd,mV,h,aLd,Vb]
theorem wH{j:Int}(h0:0<=j)(h:es[j.toNat]?=some c)(k:List V->Option Y):idx es j k=k c:=by
 simp [idx,h0,h,Vb]
theorem fe{j:Nat}(h:es[j]?=some c)(k:List V->Option Y):idx es (j:Int) k=k c:=
 wH (Int.natCast_nonneg j) (by simpa using h) k
end
theorem kK(h1:-9223372036854775808<=n)(h2:n<=9223372036854775807):Wbf .i64 n=n:=IntWalk.i64_in _ ⟨h1,h2⟩
theorem zgZ(hk:k.signed=false)(h1:0<=n)(h2:n<2 ^ k.bits):Wbf k n=n:=by
 unfold Wbf;simp [hk];exact Int.emod_eq_of_lt h1 h2
theorem Oy(h1:0<=n)(h2:n<=18446744073709551615):Wbf .u64 n=n:=zgZ rfl h1 (Int.lt_of_le_of_lt h2 (by decide))
def eB(k:IntKind)(l:List Int):Ls:=l.map λn=>[.sc (.int k n)]
theorem jl(k:IntKind)(l:List Int):(eB k l).length=l.length:=by simp [eB]
theorem Vz(k:IntKind){l:List Int}{i:Nat}(h:i<l.length):(eB k l)[i]?=some [.sc (.int k l[i])]:=by simp [eB]
theorem Dw(k:IntKind)(l m:List Int):eB k l++eB k m=eB k (l++m):=by simp [eB]
theorem HasRow.bL{e:List V}(h:HasRow [.int k] e):∃ n,e=[.sc (.int k n)]/\(Lit.int k n).wf=true:=by
 obtain ⟨h1,h2⟩:=h
 match e,h1 with
 | [v],_=>
  obtain ⟨n,rfl,hn⟩:=(h2 0 v _ rfl rfl).bI;exact ⟨n,rfl,hn⟩
theorem YE{k:IntKind}:∀ {es:Ls},(∀ e∈es,HasRow [.int k] e)->∃ l:List Int,es=eB k l/\∀ n∈l,(Lit.int k n).wf=true
 | [],_=>⟨[],rfl,by simp⟩
 | e::es,h=>by
  obtain ⟨n,rfl,hn⟩:=(h e (by simp)).bL;obtain ⟨l,rfl,hl⟩:=YE (es:=es) (λx hx=>h x (by simp [hx]));exact ⟨n::l,rfl,by simpa [hn] using hl⟩
def row(k:IntKind)(l:List Int):List V:=l.map λn=>.sc (.int k n)
theorem fV(k:IntKind)(l:List Int):(row k l).length=l.length:=by simp [row]
theorem In(k:IntKind):∀ (n:Nat) (l:List Int),n<=l.length->cz 1 n (row k l)=eB k (l.take n)
 | 0,l,_=>by simp [cz,eB]
 | n+1,[],h=>by simp at h
 | n+1,x::l,h=>by
  have:=In k n l (by simpa using h)
  grind [cz,eB,row]
end
section
variable {cs e:List V}{off sz i:Nat}{es:Ls}{Y:Type}
theorem ke{new:List V}(h:new.length=cs.length):cD cs 0 new=new:=by
 simp [cD,h]
theorem ET{new:List V}(h:off+new.length<=cs.length):(cD cs off new).length=cs.length:=by
 simp [cD]; omega
theorem KG{v:V}(h:off<cs.length):cD cs off [v]=cs.set off v:=by
 simp only [cD,List.length_singleton];rw [List.set_eq_take_append_cons_drop,if_pos h];simp
theorem Az{sz:Nat}:∀ {es:Ls},(∀ e∈es,e.length=sz)->cz sz es.length es.flatten=es
 | [],_=>rfl
 | e::es,h=>by
  have he:=h e (by simp);have:=Az (es:=es) (λx hx=>h x (by simp [hx]))
  grind [cz]
theorem HC(h:∀ e∈es,e.length=sz):es.flatten.length=es.length*sz:=fW h
theorem Np(hs:0<sz)(h:∀ e∈es,e.length=sz){j:Nat}(hj:j<sz)(he:es[i]?=some e):es.flatten[i*sz+j]?=e[j]?:=by
 rw [C8 es h hs];have e1:(i*sz+j) / sz=i:=by rw [Wcb,Nat.mul_add_div hs,Nat.div_eq_of_lt hj,Nat.add_zero]
 have e2:(i*sz+j) % sz=j:=by rw [Wcb,Nat.mul_add_mod,Nat.mod_eq_of_lt hj]
 rw [e1,e2,he]; rfl
theorem Tz{sz:Nat}:∀ {es:Ls},(∀ e∈es,e.length=sz)->∀ (i:Nat),es.flatten.drop (i*sz)=(es.drop i).flatten
 | [],_,i=>by simp
 | e::es,h,0=>by simp
 | e::es,h,i+1=>by
  have he:=h e (by simp);have:=Tz (es:=es) (λx hx=>h x (by simp [hx])) i;have e1:(e++es.flatten).drop sz=es.flatten:=by grind
  rw [List.flatten_cons,List.drop_succ_cons,<- this,show (i+1)*sz=sz+i*sz by rw [Nat.add_mul]; omega,<- List.drop_drop,e1]
theorem zbV{n:Nat}(h:∀ e∈es,e.length=sz)(hn:n<=sz)(he:es[i]?=some e):(es.flatten.drop (i*sz)).take n=e.take n:=by
 rw [Tz h];obtain ⟨hi,rfl⟩:=Wam.1 he;rw [List.drop_eq_getElem_cons hi,List.flatten_cons,List.take_append_of_le_length (by grind)]
theorem Wt(hs:0<sz)(h:∀ e∈es,e.length=sz){j:Nat}(hj:j<sz)(he:es[i]?=some e)(v:V):cD es.flatten (i*sz+j) [v]=(es.set i (e.set j v)).flatten:=by
 obtain ⟨hi,rfl⟩:=Wam.1 he;have hlt:i*sz+j<es.flatten.length:=by
  rw [HC h];have:(i+1)*sz<=es.length*sz:=Nat.mul_le_mul_right _ hi
  grind
 rw [KG hlt];have h':∀ x∈es.set i (es[i].set j v),x.length=sz:=by
  grind
 apply Wby;intro q;rw [List.getElem?_set,C8 _ h' hs,C8 _ h hs,List.getElem?_set];have hm:=Nat.mod_lt q hs;have hd:=Nat.div_add_mod q sz;rw [Wcb] at hd;by_cases hq:i*sz+j=q
 ·have e1:q / sz=i:=by rw [<- hq,Wcb,Nat.mul_add_div hs,Nat.div_eq_of_lt hj,Nat.add_zero]
  have e2:q % sz=j:=by grind
  rw [if_pos hq,if_pos hlt,if_pos e1.symm,if_pos hi,e2];simp [h _ (List.getElem_mem hi),hj]
 ·rw [if_neg hq];by_cases e1:i=q / sz
  ·have e2:j≠q % sz:=by grind
   rw [if_pos e1,if_pos hi];simp only [Wbz];rw [List.getElem?_set_ne e2,<- e1,List.getElem?_eq_getElem hi];rfl
  ·rw [if_neg e1]
theorem C2(k:IntKind):∀ (l m:List Int),l.length=m.length->iQ (row k l) (row k m)=some (decide (l=m))
 | [],[],_=>rfl
 | x::l,y::m,h=>by
  have:=C2 k l m (by simpa using h);simp [row] at this;simp only [row,List.map_cons,iQ,if_true,this,Option.map_some];congr 1
  grind
theorem WA{p:Prop}{inst:Decidable p}(a b:Option Y):ifb (!(@decide p inst)) a b=if p then b else a:=by
 grind [ifb]
theorem iN(x y:Int)(a b:Option Y):ifb (x != y) a b=if x=y then b else a:=by
 grind [ifb]
end
section
def lH{α:Type}(p:α->Bool):List α->Nat->Int
 | [],_=>-1
 | x::l,i=>if p x=true then (i:Int) else lH p l (i+1)
theorem w5{α:Type}(p:α->Bool):∀ (l:List α) (a:Nat),(lH p l a=-1/\∀ x∈l,p x=false)∨∃ (i:Nat),∃ h:i<l.length,lH p l a=((a+i:Nat):Int)/\(∀ x∈l.take i,p x=false)/\p l[i]=true
 | [],a=>.inl ⟨rfl,by simp⟩
 | x::l,a=>by
  by_cases hx:p x=true
  ·grind [lH]
  ·have hx':p x=false:=by simpa using hx
   rcases w5 p l (a+1) with ⟨h1,h2⟩ | ⟨i,hi,h1,h2,h3⟩
   ·refine .inl ⟨by simp [lH,hx',h1],?_⟩;intro y hy;rcases List.mem_cons.1 hy with rfl | hy
    ·exact hx'
    ·exact h2 y hy
   ·refine .inr ⟨i+1,by simpa using hi,?_,?_,by simpa using h3⟩
    ·simp only [lH,hx',h1]; simp; omega
    ·intro y hy;simp only [List.take_succ_cons,List.mem_cons] at hy;rcases hy with rfl | hy
     ·exact hx'
     ·exact h2 y hy
theorem zbB{i:Nat}(h:i<=1000000000):Wbf .i64 ((i:Int)+1)=((i+1:Nat):Int):=by
 grind [kK]
end
section
structure Lin where
 c:Int
 t:List (Nat × Int)
 deriving Inhabited
def nn(a:Int):Bool:=match a with
 | .ofNat _=>true
 | .negSucc _=>false
def isZ(a:Int):Bool:=match a with
 | .ofNat n=>Wae n 0
 | .negSucc _=>false
def leI(a b:Int):Bool:=match a,b with
 | .ofNat m,.ofNat n=>WbY m n
 | .negSucc _,.ofNat _=>true
 | .ofNat _,.negSucc _=>false
 | .negSucc m,.negSucc n=>WbY n m
def eqI(a b:Int):Bool:=match a,b with
 | .ofNat m,.ofNat n=>Wae m n
 | .negSucc m,.negSucc n=>Wae m n
 | _,_=>false
def kT(a b:Int):Int:=match leI a b with | true=>a | false=>b
def nZ(a b:Int):Int:=match leI a b with | true=>b | false=>a
def Ts(s:Nat)(a:Int):List (Nat × Int)->List (Nat × Int)
 | []=>[(s,a)]
 | p::l=>match Wca s p.1 with
  | true=>(s,a)::p::l
  | false=>match Wae s p.1 with
   | true=>match isZ (a+p.2) with
    | true=>l
    | false=>(s,a+p.2)::l
   | false=>p::Ts s a l
def LE:List (Nat × Int)->List (Nat × Int)->List (Nat × Int)
 | [],m=>m
 | p::l,m=>Ts p.1 p.2 (LE l m)
def LM(n:Int):List (Nat × Int)->List (Nat × Int)
 | []=>[]
 | p::l=>(p.1,n*p.2)::LM n l
def Lin.lit(n:Int):Lin:=⟨n,[]⟩
def Lin.sy(s:Nat):Lin:=⟨0,[(s,1)]⟩
def Lin.add(a b:Lin):Lin:=⟨a.c+b.c,LE a.t b.t⟩
def Lin.mul(n:Int)(a:Lin):Lin:=match isZ n with
 | true=>⟨0,[]⟩
 | false=>⟨n*a.c,LM n a.t⟩
def Lin.neg(a:Lin):Lin:=a.mul (-1)
def Lin.sub(a b:Lin):Lin:=a.add b.neg
def Lin.au(a:Lin)(n:Int):Lin:=⟨a.c+n,a.t⟩
def Zf:List (Nat × Int)->List (Nat × Int)->Bool
 | [],[]=>true
 | p::l,q::m=>Wae p.1 q.1&&(eqI p.2 q.2&&Zf l m)
 | _,_=>false
def Lin.eq(a b:Lin):Bool:=eqI a.c b.c&&Zf a.t b.t
def Lin.lit?(a:Lin):Option Int:=match a.t with
 | []=>some a.c
 | _=>none
abbrev IV:=List (Int × Int)
def ubT(iv:IV):List (Nat × Int)->Option Int
 | []=>some 0
 | p::l=>match iv[p.1]?,ubT iv l with
  | some q,some r=>some ((match nn p.2 with | true=>p.2*q.2 | false=>p.2*q.1)+r)
  | _,_=>none
def Lin.ub(iv:IV)(e:Lin):Option Int:=(ubT iv e.t).map (e.c+·)
def Lin.lb(iv:IV)(e:Lin):Option Int:=(e.neg.ub iv).map (- ·)
def lkT(s:Nat):List (Nat × Int)->Option Int
 | []=>none
 | p::l=>match Wae s p.1 with
  | true=>some p.2
  | false=>lkT s l
def Sq:List (Nat × Int)->List (Nat × Int)->Option Int
 | [],_=>none
 | p::l,m=>match lkT p.1 m with
  | some b=>match isZ b with
   | true=>Sq l m
   | false=>match isZ (p.2 % b)&&leI 1 (p.2 / b) with
    | true=>some (p.2 / b)
    | false=>Sq l m
  | none=>Sq l m
def leU(iv:IV)(e:Lin):Bool:=match e.ub iv with
 | some n=>leI n 0
 | none=>false
def Y5{α:Type}(f:α->Bool):List α->Bool
 | []=>false
 | x::l=>match f x with
  | true=>true
  | false=>Y5 f l
def leZ(iv:IV)(fs:List Lin):Nat->Lin->Bool
 | 0,e=>leU iv e
 | n+1,e=>match leU iv e with
  | true=>true
  | false=>Y5 (λf=>match Sq e.t f.t with
   | some m=>match leI 0 m with
    | true=>leZ iv fs n (e.sub (f.mul m))
    | false=>false
   | none=>false) fs
inductive Cnd where
 | le (e:Lin)
 | eq (e:Lin)
 | ne (e:Lin)
 deriving Inhabited
def Cnd.not:Cnd->Cnd
 | .le e=>.le (e.neg.au 1)
 | .eq e=>.ne e
 | .ne e=>.eq e
inductive A where
 | ex (v:V)
 | int (k:IntKind) (e:Lin)
 | iv (k:IntKind) (lo hi:Int)
 | cmp (c:Cnd)
 | bool
 | str
 | agg (cs:List A)
 | st (cs:List A)
 | ah (vs:List A)
 | ak (q sz:Nat) (n:Lin) (row:List A)
 | ai (q sz:Nat) (lo hi:Int) (row:List A)
 | am (q sz:Nat) (rows:List (List A))
 | fp (cs:List A)
 | ptr (id:Nat) (off:Lin)
 | own (id:Nat) (off len:Lin) (sz:Nat)
 | bx (p:Bool) (cs:List A)
 | any
 deriving Inhabited
inductive BB where
 | gone
 | live (p:Bool) (cs:List A)
 | fz (cs:List A)
 deriving Inhabited
structure SS where
 iv:IV
 fs:List Lin
 t:List A
 b:List BB
 deriving Inhabited
def nu:V->A
 | .sc (.int k n)=>.int k (.lit n)
 | .gs sz []=>.am 1 sz []
 | .sl sz []=>.am 0 sz []
 | v=>.ex v
def Qc:V->A
 | .agg cs=>.agg (cs.map nu)
 | v=>nu v
def SS.src(s:SS):Src->A
 | .tmp t=>s.t.getD t (.ex .ae)
 | .const v=>Qc v
def SS.le(s:SS)(e:Lin):Bool:=leZ s.iv s.fs 3 e
def SS.dec(s:SS)(c:Cnd):Option Bool:=match c with
 | .le e=>match s.le e with
  | true=>some true
  | false=>match s.le (e.neg.au 1) with
   | true=>some false
   | false=>none
 | .eq e=>match s.le e&&s.le e.neg with
  | true=>some true
  | false=>match s.le (e.au 1)||s.le (e.neg.au 1) with
   | true=>some false
   | false=>none
 | .ne e=>match s.le e&&s.le e.neg with
  | true=>some false
  | false=>match s.le (e.au 1)||s.le (e.neg.au 1) with
   | true=>some true
   | false=>none
def SS.fact(s:SS)(e:Lin):SS:=match e.t with
 | [(x,a)]=>match isZ (a-1) with
  | true=>match s.iv[x]? with
   | some q=>{ s with iv:=s.iv.set x (q.1,kT q.2 (-e.c)) }
   | none=>{ s with fs:=e::s.fs }
  | false=>match isZ (a+1) with
   | true=>match s.iv[x]? with
    | some q=>{ s with iv:=s.iv.set x (nZ q.1 e.c,q.2) }
    | none=>{ s with fs:=e::s.fs }
   | false=>{ s with fs:=e::s.fs }
 | _=>{ s with fs:=e::s.fs }
def SS.assume(s:SS)(d:Option Bool)(c:Cnd):Option SS:=match d with
 | some true=>some s
 | some false=>none
 | none=>match c with
  | .le e=>some (s.fact e)
  | .eq e=>some ((s.fact e).fact e.neg)
  | .ne e=>match s.le e,s.le e.neg with
   | true,_=>some (s.fact (e.au 1))
   | _,true=>some (s.fact (e.neg.au 1))
   | _,_=>some s
def SS.sym(s:SS)(lo hi:Int):SS:={ s with iv:=s.iv++[(lo,hi)] }
def SS.put(s:SS)(d:Option Nat)(a:A):SS:=match d with
 | some d=>{ s with t:=s.t.set d a }
 | none=>s
def A.ag:A->A
 | .ak q sz n row=>match q with | 0=>.ak 0 sz n row | 1=>.ak 0 sz n row | _=>.ex .ae
 | .ai q sz lo hi row=>match q with | 0=>.ai 0 sz lo hi row | 1=>.ai 0 sz lo hi row | _=>.ex .ae
 | .am q sz rows=>match q with | 0=>.am 0 sz rows | 1=>.am 0 sz rows | _=>.ex .ae
 | .ah vs=>match vs with | []=>.ex (.ah []) | _=>.ex .ae
 | .bx _ _=>.ex .ae
 | .ex v=>.ex v.ag
 | a=>a
def A.tk:A->A
 | .ak q sz n row=>.ak q sz n row
 | .ai q sz lo hi row=>.ai q sz lo hi row
 | .am q sz rows=>.am q sz rows
 | .ex v=>.ex v.tk
 | a=>a.ag
def A.mv:A->A
 | .ah vs=>.ah vs
 | .ex v=>.ex v.mv
 | a=>a.tk
def A.plain:A->Option A
 | .ex v=>match v with | .sc v=>some (.ex (.sc v)) | _=>none
 | .ak q sz n row=>match q with | 0=>some (.ak 0 sz n row) | 1=>some (.ak 0 sz n row) | _=>none
 | .ai q sz lo hi row=>match q with | 0=>some (.ai 0 sz lo hi row) | 1=>some (.ai 0 sz lo hi row) | _=>none
 | .am q sz rows=>match q with | 0=>some (.am 0 sz rows) | 1=>some (.am 0 sz rows) | _=>none
 | .ah _ | .st _ | .bx _ _ | .fp _ | .ptr _ _ | .own _ _ _ _ | .any=>none
 | a=>some a
def A.aJ:A->Option A
 | .own id off len sz=>some (.own id off len sz)
 | a=>a.plain
def n8{α Y:Type}(f:α->Option Y):List α->Option (List Y)
 | []=>some []
 | x::l=>match f x,n8 f l with
  | some y,some m=>some (y::m)
  | _,_=>none
def A.cells:A->List A
 | .agg cs=>cs
 | a=>[a]
def nr{α:Type}(sz:Nat):Nat->List α->List (List α)
 | 0,_=>[]
 | n+1,cs=>cs.take sz::nr sz n (cs.drop sz)
def q9{α:Type}(cs:List α)(off:Nat)(new:List α):List α:=cs.take off++new++cs.drop (off+new.length)
def A.hard:A->Bool
 | .bx _ _ | .any=>true
 | .ak q _ _ _=>WbY 2 q
 | .ai q _ _ _ _=>WbY 2 q
 | .am q _ _=>WbY 2 q
 | .ex v=>v.isHard
 | _=>false
def A.held:A->Bool
 | .bx _ _ | .any=>true
 | .ak q _ _ _=>WbY 1 q
 | .ai q _ _ _ _=>WbY 1 q
 | .am q _ _=>WbY 1 q
 | .ex v=>v.bf
 | _=>false
def JS(iv:IV):A->Option (IntKind × Int × Int)
 | .int k e=>match e.lb iv,e.ub iv with
  | some l,some h=>some (k,l,h)
  | _,_=>none
 | .iv k l h=>some (k,l,h)
 | .ex (.sc (.int k n))=>some (k,n,n)
 | _=>none
def xb:A->Bool
 | .cmp _ | .bool | .ex (.sc (.bool _))=>true
 | _=>false
def Bl:A->Bool
 | .str | .ex (.sc (.string _))=>true
 | _=>false
def Z2:List Nat->List Nat->Bool
 | [],[]=>true
 | x::l,y::m=>Wae x y&&Z2 l m
 | _,_=>false
def VN(s:ByteArray):List Nat:=s.data.toList.map UInt8.toNat
def R4:V->V->Bool
 | .ae,.ae=>true
 | .ub,.ub=>true
 | .ah [],.ah []=>true
 | .sc (.bool a),.sc (.bool b)=>a==b
 | .sc (.int k a),.sc (.int k' b)=>decide (k=k')&&eqI a b
 | .fn f [],.fn g []=>Wae f g
 | .sc (.string a),.sc (.string b)=>Z2 (VN a) (VN b)
 | _,_=>false
def aK(iv:IV):A->Option (Nat × Nat × Int × Int)
 | .ak q sz n _=>match n.lb iv,n.ub iv with
  | some l,some h=>some (q,sz,l,h)
  | _,_=>none
 | .ai q sz l h _=>some (q,sz,l,h)
 | .am q sz rows=>some (q,sz,(rows.length:Int),(rows.length:Int))
 | _=>none
def BR:A->Option Lin
 | .ak _ _ n _=>some n
 | .am _ _ rows=>some (.lit rows.length)
 | _=>none
def jH:A->List (List A)
 | .ak _ _ _ row=>[row]
 | .ai _ _ _ _ row=>[row]
 | .am _ _ rows=>rows
 | _=>[]
def As:A->Option IntKind
 | .int k _=>some k
 | .iv k _ _=>some k
 | .ex (.sc (.int k _))=>some k
 | _=>none
abbrev Th:=List (Nat × Lin)
def C3(x:Nat):Th->Option Lin
 | []=>none
 | p::l=>match Wae x p.1 with
  | true=>some p.2
  | false=>C3 x l
def sbT(N0:Nat)(th:Th):List (Nat × Int)->Option Lin
 | []=>some (.lit 0)
 | p::l=>match (match Wca p.1 N0 with | true=>some (Lin.sy p.1) | false=>C3 p.1 th),sbT N0 th l with
  | some e,some r=>some ((e.mul p.2).add r)
  | _,_=>none
def Lin.sb(N0:Nat)(th:Th)(e:Lin):Option Lin:=(sbT N0 th e.t).map λr=>r.au e.c
def j3{α Y:Type}(f:α->Y->Bool):List α->List Y->Bool
 | [],[]=>true
 | x::l,y::m=>f x y&&j3 f l m
 | _,_=>false
def jL{α:Type}(f:α->Bool):List α->Bool
 | []=>true
 | x::l=>f x&&jL f l
def leA(N0:Nat)(s:SS)(th:Th):Nat->A->A->Bool
 | 0,_,_=>false
 | n+1,a,j=>match j with
  | .any=>true
  | .ex w=>match a with
   | .ex v=>R4 v w
   | _=>false
  | .int k e=>match a with
   | .int k' e'=>decide (k'=k)&&(match e.sb N0 th with | some f=>f.eq e'||(s.le (f.sub e')&&s.le (e'.sub f)) | none=>false)
   | .iv k' l h=>decide (k'=k)&&(eqI l h&&(match e.sb N0 th with | some f=>f.eq (.lit l) | none=>false))
   | .ex (.sc (.int k' m))=>decide (k'=k)&&(match e.sb N0 th with | some f=>f.eq (.lit m) | none=>false)
   | _=>false
  | .iv k lo hi=>match a with
   | .int k' e=>decide (k'=k)&&(s.le ((Lin.lit lo).sub e)&&s.le (e.au (-hi)))
   | a=>match JS s.iv a with
    | some (k',l,h)=>decide (k'=k)&&(leI lo l&&leI h hi)
    | none=>false
  | .cmp _=>false
  | .bool=>xb a
  | .str=>Bl a
  | .agg ds=>match a with
   | .agg cs=>j3 (leA N0 s th n) cs ds
   | _=>false
  | .st ds=>match a with
   | .st cs=>j3 (leA N0 s th n) cs ds
   | _=>false
  | .ah ds=>match a with
   | .ah cs=>j3 (leA N0 s th n) cs ds
   | _=>false
  | .ak q sz m row=>match aK s.iv a,BR a,m.sb N0 th with
   | some (q',sz',_,_),some e,some f=>Wae q' q&&(Wae sz' sz&&(f.eq e&&jL (λr=>j3 (leA N0 s th n) r row) (jH a)))
   | _,_,_=>false
  | .ai q sz lo hi row=>match aK s.iv a with
   | some (q',sz',l,h)=>Wae q' q&&(Wae sz' sz&&(leI lo l&&(leI h hi&&jL (λr=>j3 (leA N0 s th n) r row) (jH a))))
   | none=>false
  | .am q sz rows=>match a with
   | .am q' sz' rs=>Wae q' q&&(Wae sz' sz&&j3 (j3 (leA N0 s th n)) rs rows)
   | _=>false
  | .fp ds=>match a with
   | .fp cs=>WbY ds.length cs.length&&j3 (leA N0 s th n) (cs.take ds.length) ds
   | _=>false
  | .ptr id o=>match a with
   | .ptr id' o'=>Wae id' id&&(match o.sb N0 th with | some f=>f.eq o' | none=>false)
   | _=>false
  | .own id o m sz=>match a with
   | .own id' o' m' sz'=>Wae id' id&&(Wae sz' sz&&((match o.sb N0 th with | some f=>f.eq o' | none=>false)&&(match m.sb N0 th with | some f=>f.eq m' | none=>false)))
   | _=>false
  | .bx p ds=>match a with
   | .bx p' cs=>(p'==p)&&j3 (leA N0 s th n) cs ds
   | _=>false
def ZW(N0:Nat)(s:SS)(th:Th)(a j:BB):Bool:=match a,j with
 | .gone,.gone=>true
 | .live p cs,.live p' ds=>(p==p')&&j3 (leA N0 s th 12) cs ds
 | .fz cs,.fz ds=>j3 (leA N0 s th 12) cs ds
 | _,_=>false
def oc:Nat->IV->A->IV->A->A
 | 0,_,_,_,_=>.any
 | n+1,e1,a,e2,b=>match JS e1 a,JS e2 b with
  | some (k,l,h),some (k',l',h')=>match decide (k=k') with
   | true=>match isZ (l-h)&&(eqI l l'&&eqI h h') with
    | true=>.int k (.lit l)
    | false=>.iv k (kT l l') (nZ h h')
   | false=>.any
  | _,_=>match xb a&&xb b with
   | true=>match a,b with
    | .ex v,.ex w=>match R4 v w with | true=>.ex v | false=>.bool
    | _,_=>.bool
   | false=>match Bl a&&Bl b with
    | true=>match a,b with
     | .ex v,.ex w=>match R4 v w with | true=>.ex v | false=>.str
     | _,_=>.str
    | false=>match a,b with
     | .ex v,.ex w=>match R4 v w with | true=>.ex v | false=>.any
     | .agg cs,.agg ds=>match Wae cs.length ds.length with
      | true=>.agg (WbZ (λx y=>oc n e1 x e2 y) cs ds)
      | false=>.any
     | .ah cs,.ah ds=>match Wae cs.length ds.length with
      | true=>.ah (WbZ (λx y=>oc n e1 x e2 y) cs ds)
      | false=>.any
     | .bx p cs,.bx p' ds=>match Wae cs.length ds.length&&(p==p') with
      | true=>.bx p (WbZ (λx y=>oc n e1 x e2 y) cs ds)
      | false=>.any
     | .fp cs,.fp ds=>.fp (WbZ (λx y=>oc n e1 x e2 y) cs ds)
     | .am q sz rs,.am q' sz' rs'=>match Wae q q'&&(Wae sz sz'&&Wae rs.length rs'.length) with
      | true=>.am q sz (WbZ (λx y=>WbZ (λx y=>oc n e1 x e2 y) x y) rs rs')
      | false=>match Wae q q'&&Wae sz sz' with
       | true=>.ai q sz (kT rs.length rs'.length) (nZ rs.length rs'.length) (match rs.map (λr=>(e1,r))++rs'.map (λr=>(e2,r)) with
        | []=>[]
        | r::l=>(l.foldl (λ(acc:IV × List A) r=>(e1,WbZ (λx y=>oc n acc.1 x r.1 y) acc.2 r.2)) (r.1,WbZ (λx y=>oc n r.1 x r.1 y) r.2 r.2)).2)
       | false=>.any
     | a,b=>match aK e1 a,aK e2 b with
      | some (q,sz,l,h),some (q',sz',l',h')=>match Wae q q'&&Wae sz sz' with
       | true=>.ai q sz (kT l l') (nZ h h') (match (jH a).map (λr=>(e1,r))++(jH b).map (λr=>(e2,r)) with
        | []=>[]
        | r::l=>(l.foldl (λ(acc:IV × List A) r=>(e1,WbZ (λx y=>oc n acc.1 x r.1 y) acc.2 r.2)) (r.1,WbZ (λx y=>oc n r.1 x r.1 y) r.2 r.2)).2)
       | false=>.any
      | _,_=>.any
def Gy(s:SS)(a:A):A:=oc 12 s.iv a s.iv a
def ubF(s:SS)(e:Lin):Option Int:=s.fs.foldl (λacc f=>match Sq e.t f.t with
 | some m=>match (match leI 0 m with | true=>(e.sub (f.mul m)).ub s.iv | false=>none),acc with
  | some h,some h'=>some (kT h h')
  | some h,none=>some h
  | none,acc=>acc
 | none=>acc) (e.ub s.iv)
def lbF(s:SS)(e:Lin):Option Int:=(ubF s e.neg).map (- ·)
def VX(s:SS)(a:A):A:=match a with
 | .int k e=>match e.t with
  | _::_::_=>match ubF s e,ubF s e.neg with
   | some h,some l=>.iv k (-l) h
   | _,_=>Gy s a
  | _=>Gy s a
 | a=>Gy s a
def rk(s:SS)(rs:List (List A)):List A:=match rs with
 | []=>[]
 | r::l=>l.foldl (λacc r=>WbZ (λx y=>oc 12 s.iv x s.iv y) acc r) (r.map (Gy s))
def s6(s:SS)(cs:List A):A:=match cs with
 | []=>.any
 | c::l=>l.foldl (λacc x=>oc 12 s.iv acc s.iv x) (Gy s c)
def SS.up(s:SS)(a j:A):Bool:=leA 0 s [] 12 a j
end
section
def SS.int(s:SS)(x:Src):Option (SS × IntKind × Lin):=match x with
 | .const v=>match v with
  | .sc (.int k n)=>some (s,k,.lit n)
  | _=>none
 | .tmp t=>match s.t[t]? with
  | some (.int k e)=>some (s,k,e)
  | some (.iv k lo hi)=>some ({ s.sym lo hi with t:=s.t.set t (.int k (.sy s.iv.length)) },k,.sy s.iv.length)
  | some (.ex (.sc (.int k n)))=>some (s,k,.lit n)
  | _=>none
def SS.name(s:SS)(x:Src):SS:=match x with
 | .const _=>s
 | .tmp t=>match s.t[t]? with
  | some (.iv k lo hi)=>{ s.sym lo hi with t:=s.t.set t (.int k (.sy s.iv.length)) }
  | some (.ai q sz lo hi row)=>match leI lo hi with
   | true=>{ s.sym lo hi with t:=s.t.set t (.ak q sz (.sy s.iv.length) row) }
   | false=>s
  | _=>s
def zcy:IntKind->Bool
 | .i64 | .u32=>true
 | _=>false
def SS.nameC(s:SS)(id o:Nat):SS:=match s.b[id]? with
 | some (.live p cs)=>match cs[o]? with
  | some (.iv k lo hi)=>match zcy k with
   | true=>{ s.sym lo hi with b:=s.b.set id (.live p (cs.set o (.int k (.sy s.iv.length)))) }
   | false=>s
  | some (.ai q sz lo hi row)=>match leI lo hi with
   | true=>{ s.sym lo hi with b:=s.b.set id (.live p (cs.set o (.ak q sz (.sy s.iv.length) row))) }
   | false=>s
  | _=>s
 | _=>s
def SS.ak(s:SS)(x:Src):Option (SS × A):=match x with
 | .const v=>some (s,Qc v)
 | .tmp t=>match s.t[t]? with
  | some (.ai q sz lo hi row)=>match leI lo hi with
   | true=>some ({ s.sym lo hi with t:=s.t.set t (.ak q sz (.sy s.iv.length) row) },.ak q sz (.sy s.iv.length) row)
   | false=>none
  | some a=>some (s,a)
  | none=>none
def inK(s:SS)(k:IntKind)(e:Lin):Bool:=match e.lb s.iv,e.ub s.iv with
 | some l,some h=>leI k.min l&&leI h k.max
 | _,_=>false
def qL(k:IntKind):A:=.iv k k.min k.max
def EV(s:SS)(k:IntKind)(e:Lin):A:=match inK s k e with
 | true=>.int k e
 | false=>qL k
def Pc(n:Int):Int:=Int.ofNat (2 ^ (n.toNat.log2+1))-1
def ivK(k:IntKind)(l h:Int):A:=match leI k.min l&&leI h k.max with
 | true=>.iv k l h
 | false=>qL k
def Kx(s:SS)(c:Cnd):A:=match s.dec c with
 | some b=>.ex (.sc (.bool b))
 | none=>.cmp c
def yM(s:SS)(op:BinOp)(k:IntKind)(a b:Lin)(la ha lb hb:Int):Option (SS × A):=match op with
 | .add=>some (s,EV s k (a.add b))
 | .sub=>some (s,EV s k (a.sub b))
 | .mul=>match a.lit?,b.lit? with
  | some n,_=>some (s,EV s k (b.mul n))
  | _,some n=>some (s,EV s k (a.mul n))
  | _,_=>match nn la&&nn lb with
   | true=>some (s,ivK k 0 (ha*hb))
   | false=>some (s,qL k)
 | .quo=>match leI 1 lb with
  | true=>match nn la with
   | true=>match b.lit? with
    | some c=>match leI ha k.max with
     | true=>
      let q:Lin:=.sy s.iv.length
      let s1:=s.sym 0 (ha / c)
      let fs:=(q.mul c).sub a::(a.sub (q.mul c)).au (1-c)::s1.fs
      some ({ s1 with fs:=match leI 1 la&&leI 2 c with | true=>(q.sub a).au 1::fs | false=>fs },.int k q)
     | false=>some (s,qL k)
    | none=>some (s,ivK k 0 ha)
   | false=>some (s,qL k)
  | false=>none
 | .rem=>match leI 1 lb with
  | true=>match nn la with
   | true=>match leI (ha+1) lb with
    | true=>some (s,.int k a)
    | false=>
     let r:Lin:=.sy s.iv.length
     let s1:=s.sym 0 (kT ha (hb-1))
     some ({ s1 with fs:=(r.sub b).au 1::s1.fs },.int k r)
   | false=>some (s,.iv k (1-hb) (hb-1))
  | false=>none
 | .and=>match nn la,nn lb with
  | true,true=>some (s,ivK k 0 (kT ha hb))
  | _,_=>some (s,qL k)
 | .or | .xor=>match nn la&&nn lb with
  | true=>some (s,ivK k 0 (Pc (nZ ha hb)))
  | false=>some (s,qL k)
 | .andNot=>match nn la&&nn lb with
  | true=>some (s,ivK k 0 ha)
  | false=>some (s,qL k)
 | .eql=>some (s,Kx s (.eq (a.sub b)))
 | .neq=>some (s,Kx s (.ne (a.sub b)))
 | .lss=>some (s,Kx s (.le ((a.sub b).au 1)))
 | .leq=>some (s,Kx s (.le (a.sub b)))
 | .gtr=>some (s,Kx s (.le ((b.sub a).au 1)))
 | .geq=>some (s,Kx s (.le (b.sub a)))
 | _=>none
def P9(s:SS)(op:BinOp)(k:IntKind)(a b:Lin)(la ha lb hb:Int):Option (SS × A):=match nn lb with
 | false=>none
 | true=>match op with
  | .shl=>match nn la with
   | true=>some (s,ivK k 0 (ha*2 ^ (min hb.toNat k.bits)))
   | false=>some (s,qL k)
  | .shr=>match nn la with
   | true=>some (s,.iv k 0 (ha.fdiv (2 ^ (min lb.toNat k.bits))))
   | false=>some (s,.iv k la (nZ ha 0))
  | _=>none
def zdl:V->A
 | .sc (.int k n)=>.int k (.lit n)
 | v=>.ex v
def zdK(s:SS)(op:BinOp)(x y:Src):Option (SS × A):=match s.int x with
 | some (s1,k,a)=>match s1.int y with
  | some (s2,k',b)=>match a.lit?,b.lit? with
   | some n,some m=>(fZ op (.int k n) (.int k' m)).map λv=>(s2,zdl (.sc v))
   | _,_=>match lbF s2 a,ubF s2 a,lbF s2 b,ubF s2 b with
    | some la,some ha,some lb,some hb=>match op with
     | .shl=>P9 s2 .shl k a b la ha lb hb
     | .shr=>P9 s2 .shr k a b la ha lb hb
     | op=>match decide (k=k') with
      | true=>yM s2 op k a b la ha lb hb
      | false=>none
    | _,_,_,_=>none
  | none=>none
 | none=>match Bl (s.src x)&&Bl (s.src y) with
  | true=>match op with
   | .eql | .neq | .lss=>some (s,.bool)
   | _=>none
  | false=>none
def Fc(s:SS)(a:A):Option A:=match a with
 | .own id off len sz=>match off.lit?,len.lit? with
  | some o,some n=>match s.b[id]? with
   | some (.live true cs) | some (.fz cs)=>match nn o&&(nn n&&WbY (o.toNat+n.toNat*sz) cs.length) with
    | true=>some (.am 0 sz (nr sz n.toNat (cs.drop o.toNat)))
    | false=>none
   | _=>none
  | _,_=>match s.b[id]? with
   | some (.live true cs) | some (.fz cs)=>match Wae sz 1,len.lb s.iv,off.lb s.iv,(off.add len).ub s.iv with
    | true,some l,some o,some h=>match nn l&&(nn o&&(leI h cs.length&&jL (λc=>s.up c (s6 s cs)) cs)) with
     | true=>some (.ak 0 1 len [s6 s cs])
     | false=>none
    | _,_,_,_=>none
   | _=>none
 | .ak 1 sz n row=>some (.ak 0 sz n row)
 | .ai 1 sz l h row=>some (.ai 0 sz l h row)
 | .am 1 sz rows=>some (.am 0 sz rows)
 | .ex v=>match v with | .own _ _ _ _ | .gs _ _=>none | v=>some (.ex v)
 | .any=>none
 | a=>some a
def SS.btw(s:SS)(a b c:Lin):Bool:=s.le (a.sub b)&&s.le (b.sub c)
def SS.intO(s:SS)(x:Option Src)(d:Lin):Option (SS × Lin):=match x with
 | none=>some (s,d)
 | some x=>match s.int x with
  | some (s1,_,e)=>some (s1,e)
  | none=>none
def SS.bounds(s:SS)(n:Lin)(lo hi mx:Option Src):Option (SS × Lin × Lin × Lin):=match s.intO mx n with
 | none=>none
 | some (s1,m)=>match s1.intO hi n with
  | none=>none
  | some (s2,h)=>match s2.intO lo (.lit 0) with
   | none=>none
   | some (s3,l)=>match s3.btw (.lit 0) l h&&(s3.le (h.sub m)&&s3.le (m.sub n)) with
    | true=>some (s3,l,h,m)
    | false=>none
def Py(s:SS):List (Nat × Nat × Src)->List A->Option (List A)
 | [],cs=>some cs
 | (off,n,x)::rest,cs=>match (s.src x).plain with
  | some v=>match Wae v.cells.length n&&WbY (off+n) cs.length with
   | true=>Py s rest (q9 cs off v.cells)
   | false=>none
  | none=>none
def PZ(s:SS):List (Nat × Nat × Src)->List A->Option (List A)
 | [],cs=>some cs
 | (off,n,x)::rest,cs=>match (s.src x).aJ with
  | some v=>match Wae v.cells.length n&&WbY (off+n) cs.length with
   | true=>PZ s rest (q9 cs off v.cells)
   | false=>none
  | none=>none
def EA:List A->List A->Bool
 | [],[]=>true
 | x::l,y::m=>(match As x,As y with | some k,some k'=>decide (k=k') | _,_=>false)&&EA l m
 | _,_=>false
def PH(q sz:Nat)(a:A)(l h:Lin):Option A:=match a with
 | .am _ _ rows=>match l.lit?,h.lit? with
  | some l,some h=>some (.am q sz ((rows.drop l.toNat).take (h.toNat-l.toNat)))
  | _,_=>none
 | _=>none
def ka(s:SS):K->Option (SS × A)
 | .pick c a b=>match s.src c with
  | .ex (.sc (.bool t))=>some (s,match t with | true=>(s.src a).ag | false=>(s.src b).ag)
  | c=>match xb c with
   | true=>
    let x:=(s.src a).ag; let y:=(s.src b).ag; let j:=oc 12 s.iv x s.iv y
    match s.up x j&&s.up y j with
    | true=>some (s,j)
    | false=>none
   | false=>none
 | .build zero parts=>(Py s parts (zero.map nu)).map λcs=>(s,.agg cs)
 | .ay zero parts=>(PZ s parts (zero.map nu)).map λcs=>(s,.st cs)
 | .nilCheck x=>match s.src x with
  | .ptr id off=>some (s,.ptr id off)
  | .fp cs=>some (s,.fp cs)
  | _=>none
 | .bin op x y=>zdK s op x y
 | .aX neg n x y=>match s.src x,s.src y with
  | .agg a,.agg b=>match Wae a.length n&&(Wae b.length n&&EA a b) with
   | true=>some (s,.bool)
   | false=>none
  | _,_=>none
 | .bH neg x y=>match s.src x,s.src y with
  | .ex (.sc (.bool a)),.ex (.sc (.bool b))=>some (s,.ex (.sc (.bool (match neg with | true=>!(a==b) | false=>(a==b)))))
  | a,b=>match xb a&&xb b with
   | true=>some (s,.bool)
   | false=>none
 | .un op x=>match op with
  | .not=>match s.src x with
   | .ex (.sc (.bool b))=>some (s,.ex (.sc (.bool !b)))
   | .cmp c=>some (s,.cmp c.not)
   | .bool=>some (s,.bool)
   | _=>none
  | .neg=>match s.int x with
   | some (s1,k,e)=>some (s1,EV s1 k e.neg)
   | none=>none
  | .xor=>match As (s.src x) with
   | some k=>match s.src x with
    | .int k e=>match e.lit? with
     | some n=>(FH .xor (.int k n)).map λv=>(s,zdl (.sc v))
     | none=>some (s,qL k)
    | _=>some (s,qL k)
   | none=>none
  | _=>none
 | .conv k x=>match s.int x with
  | some (s1,_,e)=>match e.lit? with
   | some n=>some (s1,.int k (.lit (k.wrap n)))
   | none=>some (s1,EV s1 k e)
  | none=>none
 | .toStr x=>match Fc s (s.src x) with
  | some a=>match aK s.iv a with
   | some (q,sz,_,_)=>match Wae q 0&&(Wae sz 1&&jL (λr=>match r with | [c]=>(match As c with | some .u8=>true | _=>false) | _=>false) (jH a)) with
    | true=>some (s,.str)
    | false=>none
   | none=>none
  | none=>none
 | .adc sub x y c=>match JS s.iv (s.src x),JS s.iv (s.src y),JS s.iv (s.src c) with
  | some (.u64,l1,h1),some (.u64,l2,h2),some (.u64,l,h)=>match (leI 0 l&&leI h 1)&&((leI 0 l1&&leI h1 18446744073709551615)&&(leI 0 l2&&leI h2 18446744073709551615)) with
   | true=>some (s,.ah [qL .u64,.iv .u64 0 1])
   | false=>none
  | _,_,_=>none
 | .ax n sz x lo hi mx=>match s.bounds (.lit n) lo hi mx with
  | some (s1,l,h,m)=>match s1.src x with
   | .ptr id off=>match off.lit?,s1.b[id]? with
    | some o,some (.live _ cs)=>match nn o&&WbY (o.toNat+n*sz) cs.length with
     | true=>match s1.le ((l.sub m).au 1) with
      | true=>some (s1,.own id ((l.mul sz).au o) (h.sub l) sz)
      | false=>match s1.le (m.sub l) with
       | true=>some (s1,.am 1 sz [])
       | false=>none
     | false=>none
    | some o,some (.fz cs)=>match l.lit?,h.lit?,m.lit? with
     | some l,some h,some m=>match nn o&&WbY (o.toNat+n*sz) cs.length with
      | true=>some (s1,match eqI m l with | true=>.am 1 sz [] | false=>.am 0 sz (nr sz (h.toNat-l.toNat) (cs.drop (o.toNat+l.toNat*sz))))
      | false=>none
     | _,_,_=>none
    | _,_=>none
   | .fp cs=>match l.lit?,h.lit? with
    | some l,some h=>match WbY (n*sz) cs.length with
     | true=>some (s1,.am 0 sz (nr sz (h.toNat-l.toNat) (cs.drop (l.toNat*sz))))
     | false=>none
    | _,_=>none
   | _=>none
  | none=>none
 | .aT sz x lo hi mx=>match s.ak x with
  | some (s0,a0)=>match a0.ag with
   | .own id off len sz'=>match Wae sz sz',mx with
    | true,none=>match s0.bounds len lo hi none with
     | some (s1,l,h,_)=>some (s1,.own id (off.add (l.mul sz)) (h.sub l) sz)
     | none=>none
    | _,_=>none
   | a=>match BR a,aK s0.iv a with
    | some n,some (q,sz',_,_)=>match Wae q 0&&Wae sz sz' with
     | true=>match s0.bounds n lo hi mx with
      | some (s1,l,h,m)=>
       let r:A:=match PH 0 sz a l h with | some p=>p | none=>.ak 0 sz (h.sub l) (rk s1 (jH a))
       match mx with
       | none=>match jL (λr'=>j3 (leA 0 s1 [] 12) r' (rk s1 (jH a))) (jH a) with
        | true=>some (s1,r)
        | false=>none
       | some _=>match s1.le (m.sub l) with
        | true=>some (s1,.am 2 sz [])
        | false=>match s1.le ((l.sub m).au 1)&&jL (λr'=>j3 (leA 0 s1 [] 12) r' (rk s1 (jH a))) (jH a) with
         | true=>some (s1,r)
         | false=>none
      | none=>none
     | false=>none
    | _,_=>none
  | none=>none
 | .aD sz x hi mx=>match s.ak x with
  | some (s0,a0)=>match BR a0.ag,aK s0.iv a0.ag,(match s0.int hi with | some (s1,_,h)=>(match s1.int mx with | some (s2,_,m)=>(match s2.le (h.sub m)&&s2.le (m.sub h) with | true=>some (s2,h) | false=>none) | none=>none) | none=>none) with
   | some n,some (q,sz',_,_),some (s1,h)=>match Wae q 0&&(Wae sz sz'&&(s1.btw (.lit 0) h n&&(Ao&&jL (λr'=>j3 (leA 0 s1 [] 12) r' (rk s1 (jH a0.ag))) (jH a0.ag)))) with
    | true=>some (s1,match PH 1 sz a0.ag (.lit 0) h with | some p=>p | none=>.ak 1 sz h (rk s1 (jH a0.ag)))
    | false=>none
   | _,_,_=>none
  | none=>none
 | .fieldAddr o x=>match s.src x with
  | .ptr id off=>some (s,.ptr id (off.au o))
  | .fp cs=>match WbY o cs.length with
   | true=>some (s,.fp (cs.drop o))
   | false=>none
  | _=>none
 | .field agg o n x=>match s.src x with
  | .agg cs=>match agg with
   | true=>some (s,.agg ((cs.drop o).take n))
   | false=>(cs[o]?).map λa=>(s,a)
  | _=>none
 | .al len sz x i=>match s.int i with
  | some (s1,_,j)=>match s1.btw (.lit 0) j (.lit (len-1)) with
   | true=>match s1.src x with
    | .ptr id off=>some (s1,.ptr id (off.add (j.mul sz)))
    | .fp cs=>match WbY (len*sz) cs.length,j.lit? with
     | true,some j=>some (s1,.fp (cs.drop (j.toNat*sz)))
     | true,none=>let r:=rk s1 (nr sz len cs)
      match jL (λr'=>j3 (leA 0 s1 [] 12) r' r) (nr sz len cs) with
      | true=>some (s1,.fp r)
      | false=>none
     | _,_=>none
    | _=>none
   | false=>none
  | none=>none
 | .aj sz x i=>match s.ak x with
  | some (s0,a0)=>match s0.int i with
   | some (s1,_,j)=>match a0.ag with
    | .own id off len sz'=>match Wae sz sz'&&(s1.le j.neg&&s1.le ((j.sub len).au 1)) with
     | true=>some (s1,.ptr id (off.add (j.mul sz)))
     | false=>none
    | a=>match BR a,aK s1.iv a with
     | some n,some (q,sz',_,_)=>match Wae q 0&&(Wae sz sz'&&(s1.le j.neg&&s1.le ((j.sub n).au 1))) with
      | true=>match a,j.lit? with
       | .am _ _ rows,some m=>match rows[m.toNat]? with
        | some r=>match WbY r.length sz with
         | true=>some (s1,.fp r)
         | false=>none
        | none=>none
       | a,_=>let r:=rk s1 (jH a)
        match WbY r.length sz&&jL (λr'=>j3 (leA 0 s1 [] 12) r' r) (jH a) with
        | true=>some (s1,.fp r)
        | false=>none
      | false=>none
     | _,_=>none
   | none=>none
  | none=>none
 | .aR agg len sz x i=>match s.int i,s.src x with
  | some (s1,_,j),.agg cs=>match s1.btw (.lit 0) j (.lit (len-1)),j.lit? with
   | true,some m=>match agg with
    | true=>some (s1,.agg ((cs.drop (m.toNat*sz)).take sz))
    | false=>(cs[m.toNat*sz]?).map λa=>(s1,a)
   | true,none=>match agg,Wae sz 1&&WbY len cs.length with
    | false,true=>let h:=s6 s1 (cs.take len)
     match jL (λc=>s1.up c h) (cs.take len) with
     | true=>some (s1,h)
     | false=>none
    | _,_=>none
   | _,_=>none
  | _,_=>none
 | .bn x=>match s.ak x with
  | some (s0,a0)=>match a0.ag with
   | .own _ _ len _=>some (s0,.int .i64 len)
   | a=>match BR a,aK s0.iv a with
    | some n,some (q,_,_,_)=>match Wae q 0 with | true=>some (s0,.int .i64 n) | false=>none
    | _,_=>none
  | none=>none
 | .aK n=>some (s,.int .i64 (.lit n))
 | .mm isMax x y=>match s.int x with
  | some (s1,k,a)=>match s1.int y with
   | some (s2,k',b)=>match a.lb s2.iv,a.ub s2.iv,b.lb s2.iv,b.ub s2.iv with
    | some la,some ha,some lb,some hb=>
     let r:Lin:=.sy s2.iv.length
     match isMax with
     | true=>let s3:=s2.sym (nZ la lb) (nZ ha hb); some ({ s3 with fs:=a.sub r::b.sub r::s3.fs },.int k r)
     | false=>let s3:=s2.sym (kT la lb) (kT ha hb); some ({ s3 with fs:=r.sub a::r.sub b::s3.fs },.int k r)
    | _,_,_,_=>none
   | none=>none
  | none=>none
 | .pull x i=>match s.src x with
  | .ah vs=>match vs[i]? with
   | some a=>match a.hard with
    | true=>none
    | false=>some (s,a.ag)
   | none=>none
  | _=>none
 | _=>none
def SS.an(s:SS)(d:Option Nat)(x:BB)(a:Nat->A):Option SS:=match d with
 | some d=>match s.b[d]? with
  | some .gone=>some ({ s with b:=s.b.set d x }.put (some d) (a d))
  | _=>none
 | none=>none
def SS.ac(s:SS)(x:Src):SS:=match x with
 | .tmp t=>match s.t[t]? with
  | some a=>{ s with t:=s.t.set t a.ag }
  | none=>s
 | .const _=>s
def SS.ao(s:SS)(d:Option Nat)(af:Bool)(sz:Nat)(a:A):Option SS:=match af with
 | false=>match a with
  | .ak _ sz n row=>some (s.put d (.ak 1 sz n row))
  | .ai _ sz l h row=>some (s.put d (.ai 1 sz l h row))
  | .am _ sz rows=>some (s.put d (.am 1 sz rows))
  | _=>none
 | true=>match a with
  | .am _ _ rows=>s.an d (.live true rows.flatten) (λid=>.own id (.lit 0) (.lit rows.length) sz)
  | _=>none
def U1(s:SS)(bytes:Nat)(n:Lin):Bool:=match n.ub s.iv with
 | some h=>leI (h*bytes) cy&&leI h cy
 | none=>false
def V5(s:SS)(cs:List A)(off:Lin)(new:List A):Option (List A):=match off.lit? with
 | some o=>match nn o&&WbY (o.toNat+new.length) cs.length with
  | true=>some (q9 cs o.toNat new)
  | false=>none
 | none=>match new,off.lb s.iv,off.ub s.iv with
  | [v],some lo,some hi=>match nn lo&&leI (hi+1) cs.length with
   | true=>
    let seg:=(cs.drop lo.toNat).take (hi.toNat+1-lo.toNat)
    let seg2:=seg.map (λc=>oc 12 s.iv c s.iv v)
    match j3 (s.up) seg seg2&&jL (λj=>s.up v j) seg2 with
    | true=>some (q9 cs lo.toNat seg2)
    | false=>none
   | false=>none
  | _,_,_=>none
def SS.ab(s:SS)(id:Nat)(x:BB):SS:={ s with b:=s.b.set id x }
def SS.ar(s:SS)(d:Option Nat)(af:Bool)(a:A):Option SS:=match a with
 | .ak q sz n row=>match q with
  | 0=>some (s.put d (.ak 0 sz n row))
  | 1=>match af with | true=>none | false=>some (s.put d (.ak 1 sz n row))
  | _=>s.ao d af sz (.ak 2 sz n row)
 | .ai q sz l h row=>match q with
  | 0=>some (s.put d (.ai 0 sz l h row))
  | 1=>match af with | true=>none | false=>some (s.put d (.ai 1 sz l h row))
  | _=>s.ao d af sz (.ai 2 sz l h row)
 | .am q sz rows=>match q with
  | 0=>some (s.put d (.am 0 sz rows))
  | 1=>match af with | true=>none | false=>some (s.put d (.am 1 sz rows))
  | _=>s.ao d af sz (.am 2 sz rows)
 | .bx p cs=>s.an d (.live p cs) (λid=>.ptr id (.lit 0))
 | .ex v=>match v with
  | .gs _ _ | .fr _ _ | .bx _ _=>none
  | v=>some (s.put d (.ex v))
 | .any=>none
 | a=>some (s.put d a)
def BK(s:SS)(x:Src × Nat):Option A:=match WbY 2 x.2 with
 | true=>none
 | false=>match Fc s (s.src x.1) with
  | some (.agg cs)=>some (.agg (match Wae (x.2 % 2) 1 with | true=>cs.map A.ag | false=>cs))
  | some (.fp cs)=>none
  | some (.ptr _ _)=>none
  | some a=>a.plain
  | none=>none
def Ym:A->Bool
 | .ah _ | .any=>false
 | .ex v=>Gx v
 | _=>true
def zcY:A->Bool
 | .ex _ | .any=>true
 | _=>false
def FN:A->Option Nat
 | .own id _ _ _=>some id
 | _=>none
def zM(s:SS):List (Src × Nat)->List BB->Option (List BB)
 | [],b=>some b
 | x::rest,b=>match FN (s.src x.1) with
  | some id=>match b[id]? with
   | some (.live true (c::cs))=>zM s rest (b.set id (.fz (c::cs)))
   | some (.live true [])=>zM s rest b
   | some (.fz cs)=>zM s rest b
   | _=>none
  | none=>zM s rest b
abbrev ACB:=Nat->List A->Option A
def GA:A->Bool
 | .ptr _ _ | .own _ _ _ _ | .fp _ | .ah _ | .st _ | .any=>false
 | .ex v=>match v with | .sc _=>true | _=>false
 | _=>true
def zaW:A->Bool
 | .ah vs=>vs.all GA
 | a=>GA a
def SS.nameL(s:SS)(agg:Bool)(x:A):SS:=match agg with
 | true=>s
 | false=>match x with
  | .ptr id off=>match off.lit? with
   | some o=>s.nameC id o.toNat
   | none=>s
  | _=>s
def kD(cb:ACB)(s:SS)(d:Option Nat)(af:Bool)(k:K):Option SS:=match k with
 | .move x take=>match af with
  | true=>none
  | false=>match take with
   | true=>some (((s.name x).ac x).put d ((s.name x).src x).mv)
   | false=>some ((s.name x).put d ((s.name x).src x).ag)
 | .alloc p cs=>s.an d (.live p (cs.map nu)) (λid=>.ptr id (.lit 0))
 | .box p x=>match s.src x with
  | .st cs=>match p with
   | true=>none
   | false=>s.an d (.live false cs) (λid=>.ptr id (.lit 0))
  | x=>match x.plain with
  | some v=>s.an d (.live p v.cells) (λid=>.ptr id (.lit 0))
  | none=>none
 | .buildSlice sz n zero parts=>match Py s parts (Wad n (zero.map nu)).flatten with
  | some cs=>match Wae n 0&&af with
   | true=>some (s.put d (.am 2 sz []))
   | false=>s.ao d af sz (.am 2 sz (nr sz n cs))
  | none=>none
 | .ofStr x=>match af,s.src x with
  | false,.ex (.sc (.string str))=>some (s.put d (.am 0 1 (str.data.toList.map λb=>[.int .u8 (.lit b.toNat)])))
  | _,_=>none
 | .load agg n a take=>
  let s:=s.nameL agg (s.src a)
  match s.src a with
  | .ptr id off=>match s.b[id]? with
   | some (.live p cs)=>match agg with
    | true=>match off.lit? with
     | some o=>match nn o&&WbY (o.toNat+n) cs.length with
      | true=>match p with
       | true=>some (s.put d (.agg ((cs.drop o.toNat).take n)))
       | false=>match take with
        | true=>none
        | false=>(n8 A.plain ((cs.drop o.toNat).take n)).map λvs=>s.put d (.agg vs)
      | false=>none
     | none=>none
    | false=>match off.lit? with
     | some o=>match nn o,cs[o.toNat]? with
      | true,some v=>match take with
       | true=>match p with
        | true=>none
        | false=>some ((s.ab id (.live p (cs.set o.toNat v.ag))).put d v.tk)
       | false=>some (s.put d v.ag)
      | _,_=>none
     | none=>match off.lb s.iv,off.ub s.iv with
      | some lo,some hi=>match nn lo&&(leI (hi+1) cs.length&&!take) with
       | true=>
        let seg:=(cs.drop lo.toNat).take (hi.toNat+1-lo.toNat)
        let h:=s6 s seg
        match jL (λc=>s.up c h) seg with
        | true=>some (s.put d h.ag)
        | false=>none
       | false=>none
      | _,_=>none
   | some (.fz cs)=>match off.lit? with
    | some o=>match agg with
     | true=>match nn o&&WbY (o.toNat+n) cs.length with
      | true=>some (s.put d (.agg ((cs.drop o.toNat).take n)))
      | false=>none
     | false=>match nn o,cs[o.toNat]? with
      | true,some v=>some (s.put d v)
      | _,_=>none
    | none=>match agg,off.lb s.iv,off.ub s.iv with
     | false,some lo,some hi=>match nn lo&&leI (hi+1) cs.length with
      | true=>
       let seg:=(cs.drop lo.toNat).take (hi.toNat+1-lo.toNat)
       let h:=s6 s seg
       match jL (λc=>s.up c h) seg with
       | true=>some (s.put d h)
       | false=>none
      | false=>none
     | _,_,_=>none
   | _=>none
  | .fp cs=>match agg with
   | true=>match WbY n cs.length with
    | true=>some (s.put d (.agg (cs.take n)))
    | false=>none
   | false=>match cs with
    | v::_=>some (s.put d v)
    | []=>none
  | _=>none
 | .store n a x=>match d with
  | some _=>none
  | none=>match s.src a with
   | .ptr id off=>match s.b[id]? with
    | some (.live true cs)=>match (s.src x).plain with
     | some v=>match Wae v.cells.length n with
      | true=>(V5 s cs off v.cells).map λcs'=>s.ab id (.live true cs')
      | false=>none
     | none=>none
    | some (.live false cs)=>match off.lit? with
     | some o=>match nn o with
      | true=>match s.src x with
       | .agg us=>match Wae us.length n&&WbY (o.toNat+n) cs.length with
        | true=>some (s.ab id (.live false (q9 cs o.toNat us)))
        | false=>none
       | .st us=>match Wae us.length n&&WbY (o.toNat+n) cs.length with
        | true=>some (s.ab id (.live false (q9 cs o.toNat us)))
        | false=>none
       | .ah _ | .bx _ _ | .any=>none
       | .ex v=>match v with
        | .sc _=>match Wae n 1&&Wca o.toNat cs.length with
         | true=>some ((s.ac x).ab id (.live false (cs.set o.toNat (.ex v))))
         | false=>none
        | _=>none
       | v=>match Wae n 1&&Wca o.toNat cs.length with
        | true=>some ((s.ac x).ab id (.live false (cs.set o.toNat v)))
        | false=>none
      | false=>none
     | none=>none
    | _=>none
   | _=>none
 | .makeSlice sz bytes zero l c=>match s.int l with
  | some (s1,_,l)=>match s1.int c with
   | some (s2,_,c)=>match s2.btw (.lit 0) l c&&U1 s2 bytes c with
    | true=>match af with
     | true=>match l.lit?,c.lit? with
      | some l,some c=>s2.an d (.live true (Wad c.toNat (zero.map nu)).flatten) (λid=>.own id (.lit 0) (.lit l) sz)
      | _,_=>none
     | false=>match l.lit? with
      | some l=>some (s2.put d (.am 1 sz (Wad l.toNat (zero.map nu))))
      | none=>some (s2.put d (.ak 1 sz l (zero.map nu)))
    | false=>none
   | none=>none
  | none=>none
 | .append sz bytes x y=>match s.ak x with
  | some (s0,a)=>match s0.ak y with
   | some (s1,b0)=>match Fc s1 b0 with
    | some b=>match BR a,aK s1.iv a,BR b,aK s1.iv b with
     | some n,some (q,sz1,_,_),some m,some (q2,sz2,_,_)=>
      match Wae sz1 sz&&(Wae sz2 sz&&(Wae q2 0&&U1 s1 bytes (n.add m))) with
      | true=>
       let res:Option A:=match jH a,jH b,a,b with
        | [],_,.am _ _ [],b=>some b
        | _,_,.am _ _ rs,.am _ _ rs'=>some (.am 1 sz (rs++rs'))
        | _,_,_,_=>
         let r:=rk s1 (jH a++jH b)
         match jL (λr'=>j3 (leA 0 s1 [] 12) r' r) (jH a++jH b) with
         | true=>some (.ak 1 sz (n.add m) r)
         | false=>none
       match res with
       | some r=>match q with
        | 1=>match af with
         | false=>(s1.ac x).ao d false sz r
         | true=>none
        | 2=>match a with
         | .am _ _ []=>(s1.ac x).ao d af sz r
         | _=>none
        | _=>none
       | none=>none
      | false=>none
     | _,_,_,_=>none
    | none=>none
   | none=>none
  | none=>none
 | .copy sz x y=>match s.src x,Fc s (s.src y) with
  | .own id off len sz1,some b=>match off.lit?,len.lit?,s.b[id]?,aK s.iv b with
   | some o,some n,some (.live true cs),some (q,sz2,lo,hi)=>match Wae sz1 sz&&(Wae sz2 sz&&(Wae q 0&&(nn o&&(nn n&&WbY (o.toNat+n.toNat*sz) cs.length)))) with
    | true=>match b with
     | .am _ _ rs=>some ((s.ab id (.live true (q9 cs o.toNat (rs.take n.toNat).flatten))).put d (.int .i64 (.lit (kT n rs.length))))
     | b=>match Wae sz 1,jH b with
      | true,[[c]]=>
       let seg:=(cs.drop o.toNat).take n.toNat
       let seg2:=seg.map (λx=>oc 12 s.iv x s.iv c)
       match j3 (s.up) seg seg2&&jL (λj=>s.up c j) seg2 with
       | true=>some ((s.ab id (.live true (q9 cs o.toNat seg2))).put d (.iv .i64 0 n))
       | false=>none
      | _,_=>none
    | false=>none
   | _,_,_,_=>none
  | _,_=>none
 | .extract x i=>match x with
  | .const _=>none
  | .tmp t=>match s.t[t]? with
   | some (.ah vs)=>match vs[i]? with
    | some a=>match (match d with | some d=>Wae d t | none=>false) with
     | true=>none
     | false=>match vs.all Ym&&!zcY a with
      | true=>match a.held with
       | true=>{ s with t:=s.t.set t (.ah (vs.set i (.ex .ae))) }.ar d af a
       | false=>match af with
        | true=>none
        | false=>some (s.put d a.ag)
      | false=>none
    | none=>none
   | _=>none
 | .call f args xs=>match n8 (BK s) args,xs with
  | some vs,[]=>match zM s args s.b,cb f (vs.map (VX s)) with
   | some b,some r=>match zaW r&&j3 s.up vs (vs.map (VX s)) with
    | true=>{ s with b:=b }.ar d af r
    | false=>none
   | _,_=>none
  | _,_=>none
 | k=>(ka s k).map λr=>r.1.put d r.2
end
section
def Vv:Option Bool->Option Bool
 | some b=>some !b
 | none=>none
def zfN:A:=.ex (.ah [])
def Dl(s:SS):Option (Nat × Bool)->Option Bool
 | none=>some true
 | some (j,want)=>match s.t[j]? with
  | some (.ex (.sc (.bool b)))=>some (b==want)
  | some (.ex (.ah []))=>some false
  | _=>none
def RI(s:SS):Option (Nat × Bool)->Option (List SS)
 | none=>some [s]
 | some (j,_)=>match s.t[j]? with
  | some (.ex (.sc (.bool b)))=>some [s]
  | some (.ex (.ah []))=>some [s]
  | some (.cmp c)=>
   let f:=λ(d:Option Bool) (b:Bool) (c:Cnd)=>match s.assume d c with
    | some s1=>[s1.put (some j) (.ex (.sc (.bool b)))]
    | none=>[]
   let d:=s.dec c
   some (f d true c++f (Vv d) false c.not)
  | some .bool=>some [s.put (some j) (.ex (.sc (.bool true))),s.put (some j) (.ex (.sc (.bool false)))]
  | _=>none
def U5(cb:ACB)(s:SS)(o:COp):Option SS:=match Dl s o.guard with
 | some true=>kD cb s o.dst o.af o.k
 | some false=>some (s.put o.dst zfN)
 | none=>none
def EX{α Y:Type}(f:α->Option (List Y)):List α->Option (List Y)
 | []=>some []
 | x::l=>match f x,EX f l with
  | some y,some m=>some (y++m)
  | _,_=>none
def Z8(cb:ACB):List COp->SS->Option (List SS)
 | [],s=>some [s]
 | o::rest,s=>match RI s o.guard with
  | some ss=>EX (λs=>match U5 cb s o with
   | some s'=>Z8 cb rest s'
   | none=>none) ss
  | none=>none
def idA:A->Option Nat
 | .ptr id _=>some id
 | .own id _ _ _=>some id
 | _=>none
def Va:A->Bool
 | .ak 1 _ _ _ | .ak 2 _ _ _ | .ai 1 _ _ _ _ | .ai 2 _ _ _ _ | .am 1 _ _ | .am 2 _ _=>true
 | _=>false
def YI:A->Bool
 | .fp _ | .ak 0 _ _ _ | .ak 1 _ _ _ | .ai 0 _ _ _ _ | .ai 1 _ _ _ _ | .am 0 _ _ | .am 1 _ _=>true
 | _=>false
def zcM(s:SS)(o:COp):Option (List Nat):=match Dl s o.guard with
 | none=>none
 | some false=>some []
 | some true=>match o.k with
  | .load _ _ a _=>match s.src a with
   | .ptr id _=>some [id]
   | .fp _=>some []
   | _=>none
  | .store _ a _=>match s.src a with
   | .ptr id _=>some [id]
   | _=>none
  | .alloc _ _ | .box _ _=>o.dst.map λd=>[d]
  | .buildSlice .. | .makeSlice .. | .extract ..=>o.dst.map λd=>[d]
  | .move _ _=>some []
  | .append _ _ x y=>match FN (s.src y),Va (s.src x),zcY (s.src y) with
   | none,true,false=>o.dst.map λd=>[d]
   | _,_,_=>none
  | .call _ args []=>match n8 (BK s) args with
   | some _=>some (args.filterMap (λx=>FN (s.src x.1))++o.dst.toList)
   | none=>none
  | _=>none
def ZO(s:SS)(r id:Nat):Bool:=match s.t[r]? with
 | some a=>(match idA a with | some id'=>Wae id id' | none=>false)
 | none=>false
def WR(s:SS)(K:List Nat)(r:Nat):Bool:=match s.t[r]? with
 | some a=>(match idA a with | some id=>!K.contains id | none=>YI a)
 | none=>false
def zdG(s:SS)(o:COp)(fl:Fl):Bool:=match zcM s o with
 | some K=>(match fl.root with | some r=>K.all (ZO s r) | none=>true)&&(!fl.nw||(match Er o with | some d=>K.all (λid=>Wae id d) | none=>false))&&fl.w.all (WR s K)&&fl.wn.all (λn=>!K.contains n)
 | none=>false
def Kz(s:SS):A->Bool
 | .own id _ _ _=>match s.b[id]? with | some (.fz _)=>true | _=>false
 | .ptr _ _ | .any | .ex _ | .st _=>false
 | _=>true
def Lx:A->Bool
 | .own _ _ _ _ | .ptr _ _ | .any | .ah _ | .st _ | .bx _ _ | .bool | .str | .cmp _ | .int _ _ | .iv _ _ _=>false
 | .ex v=>xD v
 | .ak q _ _ _ | .ai q _ _ _ _ | .am q _ _=>WbY q 1
 | _=>true
def LH(s:SS)(d:Option Nat):Bool:=match d with
 | some d=>(match s.t[d]? with
  | some (.ptr _ _) | some .any=>false
  | some (.ex v)=>!ug v
  | some _=>true
  | none=>false)
 | none=>false
def V7(s:SS)(o:COp)(s':SS):Bool:=match Dl s o.guard with
 | some true=>match o.k with
  | .load agg _ _ take=>agg||!take
  | .toStr _ | .ofStr _ | .ax .. | .move ..=>true
  | .buildSlice .. | .makeSlice ..=>!o.af
  | .append _ _ x _=>!o.af&&Va (s.src x)
  | .call _ args xs=>!o.af&&xs.isEmpty&&args.all (λx=>decide (x.2<2)&&(Kz s (s.src x.1)||Lx (s.src x.1)))&&LH s' o.dst
  | .extract x i=>!o.af&&match s.src x with
   | .ah vs=>match vs[i]? with
    | some (.bx _ _) | some .any | some (.ex _)=>false
    | some _=>true
    | none=>false
   | _=>false
  | k=>dU k
 | some false=>true
 | none=>false
def Zy(s:SS)(o:COp)(r:Nat):Bool:=f5 o.k&&match o.k with
 | .load _ _ (.tmp p) _=>match s.t[p]?,s.t[r]? with
  | some (.ptr id _),some (.ptr id' _)=>Wae id id'
  | some (.fp _),some _=>true
  | _,_=>false
 | _=>false
def Zx(s:SS)(o:COp)(s':SS):Bool:=match Dl s o.guard with
 | some false=>true
 | some true=>match o.k,o.dst with
  | .call _ args xs,some d=>!o.af&&xs.isEmpty&&args.all (λx=>decide (x.2<2)&&Lx (s.src x.1))&&LH s' (some d)
  | _,_=>false
 | none=>false
def RQ(s:SS)(o:COp)(id:Nat):Bool:=dU o.k||f5 o.k||match Dl s o.guard with
 | some false=>true
 | some true=>match o.k with
  | .call _ args []=>match n8 (BK s) args with
   | some _=>!((args.filterMap (λx=>FN (s.src x.1))++o.dst.toList).contains id)
   | none=>false
  | .alloc _ _=>!(o.dst.toList.contains id)
  | .box _ _=>!(o.dst.toList.contains id)
  | _=>false
 | none=>false
def LL(s:SS)(o:COp):List Nat->Bool
 | []=>true
 | r::w=>(match s.t[r]? with
  | some (.ptr id _)=>RQ s o id
  | some (.fp _)=>true
  | _=>false)&&LL s o w
def flA(s:SS)(o:COp)(fl:Fl)(s':SS):Bool:=
 (match fl.l with
 | true=>zdG s o fl
 | false=>match fl.s with
  | true=>Zx s o s'
  | false=>(!fl.q||V7 s o s')&&(match fl.root with | none=>true | some r=>Zy s o r)&&LL s o fl.w) &&
 (!fl.tk||(match o.dst with | some d=>(match s'.t[d]? with | some a=>Va a | none=>false) | none=>false))
def ZJ(cb:ACB):List (COp × Fl)->SS->Option (List SS)
 | [],s=>some [s]
 | o::rest,s=>match RI s o.1.guard with
  | some ss=>EX (λs=>match U5 cb s o.1 with
   | some s'=>match flA s o.1 o.2 s' with
    | true=>ZJ cb rest s'
    | false=>none
   | none=>none) ss
  | none=>none
def xf(s:SS):List Nat->Option SS
 | []=>some s
 | d::fz=>match Wca d 100000 with
  | true=>match s.b[d]? with
   | some (.live true (c::cs))=>xf (s.ab d (.fz (c::cs))) fz
   | some _=>xf s fz
   | none=>xf s fz
  | false=>match s.b[d-100000]? with
   | some (.live false _)=>none
   | _=>xf s fz
structure Gen where
 n:Nat
 s1:SS
 s2:SS
 new:List (Nat × Lin × Lin × Int × Int)
 ls:List Nat
def za5(N0:Nat)(e:Lin):Bool:=jL (λp=>Wca p.1 N0) e.t
def zgS(e1 e2:Lin):List (Nat × Lin × Lin × Int × Int)->Option Nat
 | []=>none
 | p::l=>match p.2.1.eq e1&&p.2.2.1.eq e2 with
  | true=>some p.1
  | false=>zgS e1 e2 l
def Gen.sym(g:Gen)(N0:Nat)(e1 e2:Lin):Lin × Gen:=match e1.eq e2&&za5 N0 e1 with
 | true=>(e1,g)
 | false=>match zgS e1 e2 g.new with
  | some x=>(.sy x,g)
  | none=>match e1.lb g.s1.iv,e1.ub g.s1.iv,e2.lb g.s2.iv,e2.ub g.s2.iv with
  | some l,some h,some l',some h'=>(.sy g.n,{ g with n:=g.n+1,new:=(g.n,e1,e2,kT l l',nZ h h')::g.new })
  | _,_,_,_=>(.lit 0,g)
def zcm:A->Option Lin
 | .int _ e=>some e
 | .ex (.sc (.int _ n))=>some (.lit n)
 | _=>none
def zf5(N0:Nat)(g:Gen)(a b:A):A × Gen:=match As a,As b,zcm a,zcm b with
 | some k,some k',some e,some f=>match decide (k=k') with
  | true=>let r:=g.sym N0 e f; (.int k r.1,r.2)
  | false=>(.any,g)
 | _,_,_,_=>match a,b with
  | .ptr id o,.ptr id' o'=>match Wae id id' with
   | true=>let r:=g.sym N0 o o'; (.ptr id r.1,r.2)
   | false=>(.any,g)
  | .own id o m sz,.own id' o' m' sz'=>match Wae id id'&&Wae sz sz' with
   | true=>let r:=g.sym N0 o o'; let q:=r.2.sym N0 m m'; (.own id r.1 q.1 sz,q.2)
   | false=>(.any,g)
  | a,b=>match BR a,BR b,oc 12 g.s1.iv a g.s2.iv b with
   | some n,some m,.ai q sz _ _ row=>let r:=g.sym N0 n m; (.ak q sz r.1 row,match Wae r.2.n g.n with | true=>r.2 | false=>{ r.2 with ls:=g.n::r.2.ls })
   | _,_,h=>(h,g)
def zgQ(N0:Nat):Gen->List A->List A->List A × Gen
 | g,a::l,b::m=>let r:=zf5 N0 g a b; let q:=zgQ N0 r.2 l m; (r.1::q.1,q.2)
 | g,_,_=>([],g)
def zh1(cs:List A):Bool:=WbY ((cs.filter (λa=>match As a with | some .u8=>false | some _=>true | none=>false)).length) 12
def zg7(N0:Nat):Gen->List A->List A->List A × Gen
 | g,a::l,b::m=>
  let r:=match As a with | some .u8=>(oc 12 g.s1.iv a g.s2.iv b,g) | _=>zf5 N0 g a b
  let q:=zg7 N0 r.2 l m; (r.1::q.1,q.2)
 | g,_,_=>([],g)
def zgu(N0:Nat):Gen->List BB->List BB->List BB × Gen
 | g,x::l,y::m=>
  let r:BB × Gen:=match x,y with
   | .live p cs,.live _ ds=>match zh1 cs with
    | true=>let q:=zg7 N0 g cs ds; (.live p q.1,q.2)
    | false=>(.live p (WbZ (λa b=>oc 12 g.s1.iv a g.s2.iv b) cs ds),g)
   | .fz cs,.fz ds=>(.fz (WbZ (λa b=>oc 12 g.s1.iv a g.s2.iv b) cs ds),g)
   | .gone,.gone=>(.gone,g)
   | x,_=>(x,g)
  let q:=zgu N0 r.2 l m; (r.1::q.1,q.2)
 | g,_,_=>([],g)
def zeQ(l:List (Lin × Lin × Lin))(f:Lin × Lin × Lin->Lin × Lin × Lin->Option Lin):List Lin:=l.flatMap λx=>l.filterMap λy=>f x y
def zbn(N0:Nat)(l:List A):List Nat:=(l.filterMap λa=>match (match a with | .int _ e=>some e | a=>BR a) with
 | some e=>match e.t with
  | [(x,_)]=>match Wca x N0 with | true=>some x | false=>none
  | _=>none
 | none=>none).eraseDups
def zc1(n:Int):List Int->Int
 | []=>n
 | x::l=>match leI n x with
  | true=>x
  | false=>zc1 n l
def zhk(w:Bool)(old new:Int × Int):Int × Int:=match w with
 | false=>new
 | true=>((match leI old.1 new.1 with
  | true=>old.1
  | false=>- zc1 (- new.1) [0,128,2147483648,9223372036854775808]),
  (match leI new.2 old.2 with
  | true=>old.2
  | false=>zc1 new.2 [0,255,65535,2147483647,4294967295,9223372036854775807,18446744073709551615]))
def YF(fs:List Lin)(iv:IV):IV:=fs.foldl (λiv f=>match f.t with
 | [(x,a),(y,b)]=>match isZ (a-1)&&isZ (b+1),isZ (a+1)&&isZ (b-1),iv[x]?,iv[y]? with
  | true,_,some p,some q=>(iv.set x (p.1,kT p.2 (q.2-f.c))).set y (nZ q.1 (p.1+f.c),q.2)
  | _,true,some p,some q=>(iv.set y (q.1,kT q.2 (p.2-f.c))).set x (nZ p.1 (q.1+f.c),p.2)
  | _,_,_,_=>iv
 | _=>iv) iv
def rA{α:Type}(n:Nat)(x:α)(l:List α):List α:=Wad n x++l
def zdw:List Lin->List Lin
 | []=>[]
 | f::l=>match l.any f.eq with
  | true=>zdw l
  | false=>f::zdw l
def zgC(N0:Nat)(s:SS)(e:Lin):List Nat:=e.t.flatMap λm=>match Wca m.1 N0 with
 | true=>[m.1]
 | false=>s.fs.flatMap λf=>match f.t.any (λq=>Wae q.1 m.1) with
  | true=>f.t.filterMap λq=>match Wca q.1 N0 with | true=>some q.1 | false=>none
  | false=>[]
def gen(N0:Nat)(w:Bool)(s1 s2:SS):SS:=
 let r:=zgQ N0 ⟨N0,s1,s2,[],[]⟩ s1.t s2.t
 let q:=zgu N0 r.2 s1.b s2.b
 let new:=q.2.new.reverse
 let gs:=zbn N0 r.1
 let terms:List (Lin × Lin × Lin):=new.map (λp=>(Lin.sy p.1,p.2.1,p.2.2.1))++gs.map (λx=>(Lin.sy x,Lin.sy x,Lin.sy x))
 let fs:=zeQ terms λx y=>match x.1.eq y.1 with
  | true=>none
  | false=>match s1.le (x.2.1.sub y.2.1)&&s2.le (x.2.2.sub y.2.2) with
   | true=>some (x.1.sub y.1)
   | false=>none
 let gi:=zbn N0 (r.1.filter λa=>match a with | .int _ _=>true | _=>false)
 let fs2:=(new.filter λp=>q.2.ls.contains p.1).flatMap λp=>(gi++zgC N0 s1 p.2.1++zgC N0 s2 p.2.2.1).eraseDups.filterMap λy=>match !(s1.le (p.2.1.sub (.sy y))&&s2.le (p.2.2.1.sub (.sy y)))&&(s1.le ((p.2.1.sub (.sy y)).au (-1))&&s2.le ((p.2.2.1.sub (.sy y)).au (-1))) with
  | true=>some (((Lin.sy p.1).sub (.sy y)).au (-1))
  | false=>none
 let old:=(s1.fs.filter λf=>za5 N0 f&&s2.le f)
 let iv0:=(WbZ (λp q=>(kT p.1 q.1,nZ p.2 q.2)) (s1.iv.take N0) (s2.iv.take N0))
 let iv1:=new.map λp=>match p.2.1.lb s1.iv,p.2.1.ub s1.iv with
  | some l,some h=>zhk w (l,h) (p.2.2.2.1,p.2.2.2.2)
  | _,_=>(p.2.2.2.1,p.2.2.2.2)
 { iv:=YF fs (YF fs (iv0++iv1)),fs:=zdw (fs++(fs2++old)),t:=r.1,b:=q.1 }
def thA(N0:Nat)(th:Th)(a j:A):Th:=
 let add:=λ(th:Th) (e f:Lin)=>match e.t with
  | [(x,_)]=>match Wca x N0||(C3 x th).isSome with
   | true=>th
   | false=>(x,f)::th
  | _=>th
 match j with
 | .int _ e=>match zcm a with | some f=>add th e f | none=>th
 | .ak _ _ n _=>match BR a with | some f=>add th n f | none=>th
 | .ptr _ o=>match a with | .ptr _ o'=>add th o o' | _=>th
 | .own _ o m _=>match a with | .own _ o' m' _=>add (add th o o') m m' | _=>th
 | _=>th
def thL(N0:Nat):Th->List A->List A->Th
 | th,a::l,j::m=>thL N0 (thA N0 th a j) l m
 | th,_,_=>th
def thB(N0:Nat):Th->List BB->List BB->Th
 | th,x::l,y::m=>thB N0 (match x,y with | .live _ cs,.live _ ds=>thL N0 th cs ds | .fz cs,.fz ds=>thL N0 th cs ds | _,_=>th) l m
 | th,_,_=>th
def YU(N0:Nat)(s:SS)(th:Th):Nat->IV->Bool
 | _,[]=>true
 | x,p::l=>(match (match Wca x N0 with | true=>some (Lin.sy x) | false=>C3 x th) with
  | some e=>s.le ((Lin.lit p.1).sub e)&&s.le (e.au (-p.2))
  | none=>false)&&YU N0 s th (x+1) l
def leS(N0:Nat)(s j:SS):Option Th:=
 let th:=thB N0 (thL N0 [] s.t j.t) s.b j.b
 match WbY N0 j.iv.length&&(jL (λp=>Wca p.1 j.iv.length) th&&j3 (leA N0 s th 12) s.t j.t)&&(j3 (ZW N0 s th) s.b j.b&&(YU N0 s th 0 j.iv&&jL (λf=>match f.sb N0 th with | some e=>s.le e | none=>false) j.fs)) with
 | true=>some th
 | false=>none
def zcO(N0:Nat)(s1 s2:SS):Option SS:=
 let j:=gen N0 false s1 s2
 match leS N0 s1 j,leS N0 s2 j with
 | some _,some _=>some j
 | _,_=>none
def Zh:Ex->Ex->Bool
 | .normal,.normal=>true
 | .ret,.ret=>false
 | .exit a,.exit b=>Wae a b
 | _,_=>false
def Lb(N0:Nat)(e:Ex)(s:SS):List (Ex × SS)->List (Ex × SS)
 | []=>[(e,s)]
 | p::l=>match Zh e p.1 with
  | true=>match zcO N0 p.2 s with
   | some j=>(p.1,j)::l
   | none=>p::Lb N0 e s l
  | false=>p::Lb N0 e s l
def Lr(N0:Nat)(l:List (Ex × SS)):List (Ex × SS):=l.foldl (λacc p=>Lb N0 p.1 p.2 acc) []
def K0(N0:Nat)(l:List (Ex × SS)):List (Ex × SS):=match WbY l.length 6 with
 | true=>l
 | false=>Lr N0 l
def zdQ(dead:Nat->Bool):A->Bool
 | .own id _ _ _=>!dead id
 | .any=>false
 | .ex v=>match v with | .own _ _ _ _=>false | _=>true
 | _=>true
def LK(dead:Nat->Bool):A->A
 | .ptr id off=>match dead id with | true=>.ex .ae | false=>.ptr id off
 | .own id off len sz=>match dead id with | true=>.ex .ae | false=>.own id off len sz
 | .ah vs=>match vs with | []=>.ex (.ah []) | _=>.ex .ae
 | .st cs=>match jL (zdQ dead) cs with | true=>.st cs | false=>.any
 | .ex v=>.ex (om dead v)
 | a=>a
def Rq(dead:Nat->Bool):List Bool->List A->List A
 | k::ks,v::vs=>(match k with | true=>LK dead v | false=>.ex .ae)::Rq dead ks vs
 | [],vs=>vs.map (λ_=>.ex .ae)
 | _,[]=>[]
def RF(dead:Nat->Bool):List Bool->List BB->List BB
 | k::ks,v::vs=>(match k with | true=>(match v with | .live false cs=>.live false (cs.map (LK dead)) | x=>x) | false=>.gone)::RF dead ks vs
 | [],vs=>vs.map (λ_=>.gone)
 | _,[]=>[]
def LD(kt kb:List Bool)(s:SS):SS:={ s with t:=Rq (λid=>!(kb.getD id false)) kt s.t,b:=RF (λid=>!(kb.getD id false)) kb s.b }
def ue:List (Ex × SS)->List SS
 | []=>[]
 | p::l=>match p.1 with | .normal=>p.2::ue l | _=>ue l
def vz:List (Ex × SS)->List (Ex × SS)
 | []=>[]
 | p::l=>match p.1 with | .normal=>vz l | _=>p::vz l
def QK(N0:Nat)(body:SS->Option (List (Ex × SS)))(norm:SS->SS):Nat->SS->Option (List (Ex × SS))
 | 0,_=>none
 | n+1,s=>match body (norm s) with
  | some outs=>match EX (λs'=>QK N0 body norm n s') (ue outs) with
   | some r=>some (vz outs++r)
   | none=>none
  | none=>none
def Ha(s:SS)(th:Th)(x:Nat)(up:Bool):Bool:=match C3 x th with
 | some e=>match up with
  | true=>s.le (((Lin.sy x).sub e).au 1)
  | false=>s.le ((e.sub (Lin.sy x)).au 1)
 | none=>false
def Lt(N0:Nat)(j:SS)(l:List SS)(x:Nat)(up:Bool):Bool:=WbY N0 x&&(Wca x j.iv.length&&jL (λs=>match leS N0 s j with | some th=>Ha s th x up | none=>false) l)
def U8(N0:Nat)(j:SS)(l:List SS):Nat->Option (Nat × Bool)
 | 0=>none
 | n+1=>match Lt N0 j l n true with
  | true=>some (n,true)
  | false=>match Lt N0 j l n false with
   | true=>some (n,false)
   | false=>U8 N0 j l n
def YX(N0:Nat)(body:Nat->SS->Option (List (Ex × SS)))(norm:SS->SS)(s j:SS):Option (List (Ex × SS)):=match leS N0 (norm s) j with
 | some _=>match body j.iv.length j with
  | some outs=>match ue outs with
   | []=>some (vz outs)
   | l=>match U8 N0 j (l.map norm) j.iv.length with
    | some _=>some (vz outs)
    | none=>none
  | none=>none
 | none=>none
def zdZ(N0:Nat)(body:Nat->SS->Option (List (Ex × SS)))(norm:SS->SS):Nat->Bool->SS->Option SS
 | 0,_,j=>some j
 | n+1,w,j=>match body j.iv.length j with
  | some outs=>match ue outs with
   | []=>some j
   | l=>match jL (λs=>(leS N0 (norm s) j).isSome) l with
    | true=>some j
    | false=>zdZ N0 body norm n true (l.foldl (λj s=>gen N0 w j (norm s)) j)
  | none=>none
def A7:CC->Nat
 | .seq a b=>A7 a+A7 b
 | .cond _ a b=>A7 a+A7 b
 | .block _ a=>A7 a
 | .loop _ _ a=>A7 a+1
 | _=>0
def ZU(s1:SS)(x:Src)(b:Bool):SS:=match x with
 | .tmp t=>s1.put (some t) (.ex (.sc (.bool b)))
 | .const _=>s1
def WD(s:SS)(x:Src):Option (List (Bool × SS)):=match s.src x with
 | .ex (.sc (.bool b))=>some [(b,s)]
 | .cmp c=>
  let f:=λ(d:Option Bool) (b:Bool) (c:Cnd)=>match s.assume d c with
   | some s1=>[(b,ZU s1 x b)]
   | none=>[]
  let d:=s.dec c
  some (f d true c++f (Vv d) false c.not)
 | .bool=>match x with
  | .tmp t=>some [(true,s.put (some t) (.ex (.sc (.bool true)))),(false,s.put (some t) (.ex (.sc (.bool false))))]
  | .const _=>none
 | _=>none
def ZX(id:Nat)(e:Ex):Ex:=match e with
 | .exit j=>(match Wae j id with | true=>.normal | false=>.exit j)
 | e=>e
abbrev MD:=List (Nat × Option SS)
def lkM(i:Nat):MD->Option (Option SS)
 | []=>none
 | p::l=>match Wae i p.1 with
  | true=>some p.2
  | false=>lkM i l
def zhu(N0:Nat)(body:Nat->SS->Option (List (Ex × SS)))(norm:SS->SS)(s:SS):Option SS->Option SS
 | some j=>some j
 | none=>zdZ N0 body norm 7 false (gen N0 false (norm s) (norm s))
def vm(cb:ACB)(md:MD):CC->Nat->Nat->SS->Option (List (Ex × SS))
 | .skip,_,N0,s=>some [(.normal,s)]
 | .bC ops,_,N0,s=>(Z8 cb ops s).map λl=>K0 N0 (l.map λs=>(.normal,s))
 | .bu fz ops,_,N0,s=>match xf s fz with
  | some s=>(ZJ cb ops s).map λl=>K0 N0 (l.map λs=>(.normal,s))
  | none=>none
 | .seq a b,i,N0,s=>match vm cb md a i N0 s with
  | some outs=>match EX (λs'=>vm cb md b (i+A7 a) N0 s') (ue outs) with
   | some r=>some (vz outs++r)
   | none=>none
  | none=>none
 | .cond c a b,i,N0,s=>match WD s c with
  | some l=>(EX (λp=>match p.1 with | true=>vm cb md a i N0 p.2 | false=>vm cb md b (i+A7 a) N0 p.2) l).map (K0 N0)
  | none=>none
 | .block id a,i,N0,s=>(vm cb md a i N0 s).map λl=>Lr N0 (l.map λp=>(ZX id p.1,p.2))
 | .loop kt kb a,i,N0,s=>match lkM i md with
  | some o=>match zhu N0 (λN s=>vm cb md a (i+1) N s) (LD kt kb) s o with
   | some j=>(YX N0 (λN s=>vm cb md a (i+1) N s) (LD kt kb) s j).map (Lr N0)
   | none=>none
  | none=>(QK N0 (λs=>vm cb md a (i+1) N0 s) (LD kt kb) 100 s).map (Lr N0)
 | .mask kt kb,_,N0,s=>some [(.normal,LD kt kb s)]
 | .exit id,_,N0,s=>some [(.exit id,s)]
 | .ret,_,N0,s=>some [(.ret,s)]
 | .fork _ _ _ _,_,_,_=>none
def Ll:A->Bool
 | .own _ _ _ _ | .ptr _ _ | .ex _ | .ah _ | .st _ | .fp _ | .bx _ _ | .any=>false
 | a=>!a.hard
def NX(s:SS):RV->Option A
 | .tmp t=>match s.t.getD t (.ex .ae) with
  | .own id off len sz=>match off.lit?,len.lit?,s.b[id]? with
   | some 0,some n,some (.live true cs)=>match Wca 0 sz&&(nn n&&(WbY (n.toNat*sz) cs.length&&(!(isZ n)||Wae cs.length 0))) with
    | true=>some (.am 2 sz (nr sz n.toNat cs))
    | false=>none
   | _,_,_=>none
  | .ptr id off=>match off.lit?,s.b[id]? with
   | some 0,some (.live p (c::cs))=>match p with
    | true=>some (.bx p (c::cs))
    | false=>(n8 A.plain (c::cs)).map (.bx p)
   | _,_=>none
  | .ex v=>match v with | .sc x=>some (.ex (.sc x)) | _=>none
  | a=>match Ll a with | true=>some a | false=>none
 | .aH t=>match s.t.getD t (.ex .ae) with
  | .ex v=>match v with | .sc x=>some (.ex (.sc x)) | _=>none
  | a=>match Ll a with | true=>some a | false=>none
 | .cell t agg n=>match s.t.getD t (.ex .ae) with
  | .ptr id off=>match off.lit?,s.b[id]? with
   | some 0,some (.live p cs)=>match agg with
    | true=>match Wae cs.length n&&!(Wae n 0) with
     | true=>match p with
      | true=>some (.agg cs)
      | false=>(n8 A.plain cs).map .agg
     | false=>none
    | false=>match Wae n 1,cs with
     | true,c::_=>c.plain
     | _,_=>none
   | _,_=>none
  | _=>none
 | .aC _ _ _=>none
def CG:A->List Nat
 | .own id _ _ _=>[id]
 | .ptr id _=>[id]
 | _=>[]
def LI(s:SS):List RV->List Nat
 | []=>[]
 | r::rest=>(match r.slot with | some t=>CG (s.t.getD t (.ex .ae)) | none=>[])++LI s rest
def Qi(s:SS)(rs:List RV):Option A:=match rD rs&&(mt (LI s rs)&&jL (λr=>r.low s.t.length) rs) with
 | true=>match rs with
  | [r]=>NX s r
  | rs=>(n8 (NX s) rs).map .ah
 | false=>none
def VC(nt:Nat)(args:List A):SS:=⟨[],[],args++Wad (nt-args.length) zfN,Wad nt .gone⟩
def QU(s:SS):Nat->A->A
 | 0,a=>a
 | n+1,a=>match a with
  | .int k e=>match e.t with
   | []=>.int k e
   | _=>match lbF s e,ubF s e with
    | some l,some h=>.iv k l h
    | _,_=>.int k e
  | .ak q sz m row=>match lbF s m,ubF s m with
   | some l,some h=>.ai q sz l h row
   | _,_=>.ak q sz m row
  | .ah vs=>.ah (vs.map (QU s n))
  | .agg vs=>.agg (vs.map (QU s n))
  | a=>a
def zeY:List (SS × A)->Option A
 | []=>none
 | p::l=>some (l.foldl (λacc q=>oc 12 [] acc q.1.iv (QU q.1 3 q.2)) (Gy p.1 (QU p.1 3 p.2)))
structure Inst where
 g:Nat
 args:List A
 res:A
def Qs(g:Nat)(args:List A):List Inst->Option A
 | []=>none
 | i::l=>match Wae i.g g&&j3 (SS.up ⟨[],[],[],[]⟩) args i.args with
  | true=>some i.res
  | false=>Qs g args l
def ZM(T:Nat->Option CF)(md:Nat->MD)(is:List Inst):Nat->ACB
 | 0,g,args=>Qs g args is
 | d+1,g,args=>match Qs g args is with
  | some r=>some r
  | none=>match frN g,T g with
   | false,some c=>match vm (ZM T md is d) (md g) c.body 0 0 (VC c.ntmps args) with
    | some outs=>match n8 (λp:Ex × SS=>match p.1 with | .exit _=>none | _=>(Qi p.2 c.res).map λa=>(p.2,a)) outs with
     | some l=>match zeY l with
      | some j=>match jL (λp=>p.1.up p.2 j) l with
       | true=>some j
       | false=>none
      | none=>none
     | none=>none
    | none=>none
   | _,_=>none
end
end Go.Proofs.YtipklgbboecciaaGreat
