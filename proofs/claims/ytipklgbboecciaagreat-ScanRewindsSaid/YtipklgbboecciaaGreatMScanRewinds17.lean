/- Part 17 of the proof of ScanRewinds: an abstract machine over plain values, its soundness, and the functions of the program on plain values. -/
import Derived.Test.YtipklgbboecciaaGreatMScanRewinds16
namespace Go.Proofs.YtipklgbboecciaaGreat
set_option maxRecDepth 100000
set_option linter.unusedVariables false
set_option linter.unusedSimpArgs false
open List renaming take_of_length_le->WbR,length_map->WcP,replicate->Wad,getElem_mem->WaV,getElem?_append_right->Wal,length->WcK,take->WcL,nil_append->WcS,drop->WcN,mem_cons->WbL,length_nil->Wda,mem_append->Wbt,mem_of_mem_take->WaI,mem_of_mem_drop->WaP,mem_cons_of_mem->WcC,mem_singleton->WcG,mem_cons_self->Wcz
open IntKind renaming wrap->Wbf
open Int renaming toNat->WcM
open Bool renaming not_true->WcQ
section
variable {v:V}{n:Int}{t:TxS}{cs:List CoT}
variable {Y:Type}
theorem zgk(sz:Nat)(l:Ls)(k:Ls->Option Y):aGs sz (.gs sz l) k=k l:=by show chk (sz=sz) (k l)=k l; exact bQ rfl _
theorem zeX{a b:A}(h:∀ N W,G N W (.ae [a,b]) v):∃ x y,v=.ae [x,y]/\(∀ N W,G N W a x)/\∀ N W,G N W b y:=by
 have key:∀ N W,∃ vs,v=.ae vs/\GL N W [a,b] vs:=by
  intro N W;have h:=h N W;generalize hc:A.ae [a,b]=c at h;cases h <;> first | (cases hc; done) | skip
  rename_i vs hl hh;cases hc;exact ⟨vs,rfl,hl,hh⟩
 obtain ⟨vs,rfl,h0⟩:=key 0 (λ_=>0);obtain ⟨x,r,rfl,_,h0⟩:=jk h0;obtain ⟨y,r,rfl,_,h0⟩:=jk h0;obtain rfl:=wB h0;refine ⟨x,y,rfl,λN W=>?_,λN W=>?_⟩
 ·obtain ⟨vs,e,h⟩:=key N W;cases e;exact h.2 0 _ _ rfl rfl
 ·obtain ⟨vs,e,h⟩:=key N W;cases e;exact h.2 1 _ _ rfl rfl
theorem zc3(h:∀ N W,G N W yO v):∃ l,v=.agg (row .u8 l)/\l.length=32/\ed l:=by
 obtain ⟨vs,rfl,h1⟩:=Gl (h 0 (λ_=>0));obtain ⟨l,rfl,hl,hb⟩:=NS h1;exact ⟨l,rfl,hl,hb⟩
theorem zha{hd:List V}(hh:∀ N W,G N W H7 (.agg hd)):∃ l,l.length=32/\ed l/\Fin2 λL=>∀ (Y:Type) k,cD Y L hd k=k (row .u8 l):=by
 obtain ⟨v,g,L0,h⟩:=yI (dj (D':=300) (by decide) I0) (ws:=[.agg hd]) (λN W=>gl1 (hh N W));obtain ⟨l,rfl,hl,hb⟩:=zc3 g;exact ⟨l,hl,hb,L0,λL hL Y k=>(h L hL Y _).trans (zee _ _)⟩
theorem zfe{p l b:List V}(hp:∀ N W,G N W o5 (.agg p))(hl:∀ N W,G N W sZ (.agg l))(hb:∀ N W,G N W Dg (.agg b)):∃ e,(0<=e/\e<=999)/\Fin2 λL=>∀ (Y:Type) k,cv Y L p l b k=k e:=by
 obtain ⟨v,g,L0,h⟩:=yI (dj (D':=300) (by decide) zdL) (ws:=[.agg p,.agg l,.agg b]) (λN W=>.cons (hp N W) (.cons (hl N W) (gl1 (hb N W))));obtain ⟨e,rfl,he⟩:=tu (g 0 (λ_=>0));exact ⟨e,he,L0,λL hL Y k=>(h L hL Y _).trans (DR _ _ _)⟩
theorem zbT{p:List V}(hp:∀ N W,G N W o5 (.agg p))(hn:-9223372036854775808<=n/\n<=9223372036854775807):∃ e,Fin2 λL=>∀ (Y:Type) k,cg Y L p n k=k e:=by
 obtain ⟨v,g,L0,h⟩:=yI (dj (D':=300) (by decide) Py) (ws:=[.agg p,.sc (.int .i64 n)]) (λN W=>.cons (hp N W) (gl1 (.iv .i64 _ _ n hn)));obtain ⟨e,rfl,he⟩:=tu (g 0 (λ_=>0));exact ⟨e,L0,λL hL Y k=>(h L hL Y _).trans (DR _ _ _)⟩
theorem zey(h:TxSOk t)(N:Nat)(W:Nat->Int):G N W zr (.agg (txr t)):=.agg _ _ (h.g N W).1 (h.g N W).2
theorem zbK(ht:TxSOk t){c:CoT}(hc:CoOk c)(hn:-9223372036854775808<=n/\n<=9223372036854775807):∃ f e,(-9223372036854775808<=f/\f<=9223372036854775807)/\(0<=e/\e<=999)/\Fin2 λL=>∀ (Y:Type) k,cr Y L (txr t) [d8 c] n k=k f e:=by
 obtain ⟨v,g,L0,h⟩:=yI (dj (D':=300) (by decide) zbl) (ws:=[.agg (txr t),.sl 37 [d8 c],.sc (.int .i64 n)]) (λN W=>.cons (zey ht N W) (.cons (Tg (q:=0) (by simp) (by simp) (λr hr=>by rw [WcG.1 hr]; exact hc.g N W)) (gl1 (.iv .i64 _ _ n hn))));obtain ⟨x,y,rfl,h1,h2⟩:=zeX g;obtain ⟨f,rfl,hf⟩:=tu (h1 0 (λ_=>0));obtain ⟨e,rfl,he⟩:=tu (h2 0 (λ_=>0));refine ⟨f,e,hf,he,L0,λL hL Y k=>(h L hL Y _).trans ?_⟩;simp only [AT2,AI,DR]
theorem zkk(g:∀ N W,G N W (.ae [.ai 1 37 0 n qV,vS]) v):∃ (cs:List CoT) (e:Int),v=.ae [.gs 37 (cs.map d8),.sc (.int .i64 e)]/\(∀ c∈cs,CoOk c)/\(cs.length:Int)<=n/\(0<=e/\e<=999):=by
 obtain ⟨x,y,rfl,h1,h2⟩:=zeX g;obtain ⟨es,rfl,_,hn,hr⟩:=Oj (by omega) h1;obtain ⟨l,rfl,hl⟩:=Ss hr;obtain ⟨e,rfl,he⟩:=tu (h2 0 (λ_=>0));exact ⟨l,e,rfl,hl,by simpa using hn,he⟩
theorem zcH(ht:TxSOk t)(hc:∀ c∈cs,CoOk c)(hn:-9223372036854775808<=n/\n<=9223372036854775807){j:Nat}(hj:j<=3)(hl:cs.length<=100000+2*j) :
  ∃ (cs':List CoT) (e:Int),(∀ c∈cs',CoOk c)/\cs'.length<=100000+2*(j+1)/\(0<=e/\e<=999)/\Fin2 λL=>∀ (Y:Type) k,cG Y L (cs.map d8) (txr t) n k=k (cs'.map d8) e:=by
 have fin:∀ {i:Inst} {m:Int},eY (dl rows) 300 i->i.g=481->i.args=[um (100000+2*j:Nat),zr,rQ]->i.res=.ae [.ai 1 37 0 m qV,vS]->m<=(100000+2*(j+1):Nat)->∃ (cs':List CoT) (e:Int),(∀ c∈cs',CoOk c)/\cs'.length<=100000+2*(j+1)/\(0<=e/\e<=999)/\Fin2 λL=>∀ (Y:Type) k,cG Y L (cs.map d8) (txr t) n k=k (cs'.map d8) e:=by
  intro i m hi hg ha hres hm;obtain ⟨v,g,L0,h⟩:=yI hi (ws:=[.sl 37 (cs.map d8),.agg (txr t),.sc (.int .i64 n)]) (λN W=>by
   rw [ha];exact .cons (P0 hc (by exact_mod_cast hl)) (.cons (zey ht N W) (gl1 (.iv .i64 _ _ n hn))))
  rw [hres] at g;obtain ⟨cs',e,rfl,q1,q2,q3⟩:=zkk g;rw [hg] at h;refine ⟨cs',e,q1,by omega,q3,L0,λL hL Y k=>(h L hL Y _).trans ?_⟩;simp only [AT2,AI,AGs,DR,zgk]
 match j,hj with
 | 0,_=>exact fin (dj (by decide) Jc) rfl rfl rfl (by decide)
 | 1,_=>exact fin (dj (by decide) NG) rfl rfl rfl (by decide)
 | 2,_=>exact fin (dj (by decide) Ya) rfl rfl rfl (by decide)
 | 3,_=>exact fin (dj (by decide) zgy) rfl rfl rfl (by decide)
theorem zbH(ht:TxSOk t)(hn:-9223372036854775808<=n/\n<=9223372036854775807):∃ cs:List CoT,(∀ c∈cs,CoOk c)/\cs.length<=2/\Fin2 λL=>∀ (Y:Type) k,ce Y L (txr t) n k=k (cs.map d8):=by
 obtain ⟨v,g,L0,h⟩:=yI (dj (D':=300) (by decide) vC) (ws:=[.agg (txr t),.sc (.int .i64 n)]) (λN W=>.cons (zey ht N W) (gl1 (.iv .i64 _ _ n hn)));obtain ⟨es,rfl,_,hm,hr⟩:=Oj (by omega) g;obtain ⟨l,rfl,hl⟩:=Ss hr;refine ⟨l,hl,by simp at hm; omega,L0,λL hL Y k=>(h L hL Y _).trans ?_⟩;exact zgk 37 _ _
theorem Yf(hc:∀ c∈cs,CoOk c)(hl:cs.length<=100008):∃ n,Fin2 λL=>∀ (Y:Type) k,cu Y L (cs.map d8) k=k n:=by
 obtain ⟨v,g,L0,h⟩:=yI (dj (D':=300) (by decide) zdR) (ws:=[.sl 37 (cs.map d8)]) (λN W=>gl1 (P0 hc (by omega)));obtain ⟨n,rfl,_⟩:=tu (g 0 (λ_=>0));exact ⟨n,L0,λL hL Y k=>(h L hL Y _).trans (DR _ _ _)⟩
end
section
variable {L:Nat}{c:CoT}{t:TxS}
variable {Y:Type}
theorem zl5(hL:3<=L){s:Ls}(hs:s.length<=1000)(k:Ls->Option Y):hY Y L [[V.sl 1 s]] k=k s:=by
 obtain ⟨n,rfl⟩:∃ n,L=n+3:=⟨L-3,by omega⟩;have hj:∀ (k:Ls->Option Y),cQ Y (n+3) [] s k=k s:=by
  intro k;simp only [cQ,xn,cM,Wda];rw [lp (by omega) (by omega),bQ (by simp only [cN]; omega),bQ (by simp [cN]),
   List.replicate_zero,WcS,bQ (by simp only [Wda,cN]; omega),WcS]
 simp only [hY,Cr,Hs,sF,xI,cM];rw [cY (by simp),zW (by decide) (c:=[V.sl 1 s]) rfl,uD rfl,hj,di (by exact (by decide:¬ Wbf .i64 ((0:Int)+1)<((1:Nat):Int)))];rfl
theorem zg1(c:CoT)(hl:c.h.length=32)(L:Nat)(k:List V->Option Y):ci Y L (d8 c) k=hY Y L [[V.sl 1 c.s]] (λv=>k (d8 { c with s:=v })):=by
 obtain ⟨h,ix,val,s,ht,cb⟩:=c
 match h,hl with
 | [x0,x1,x2,x3,x4,x5,x6,x7,x8,x9,x10,x11,x12,x13,x14,x15,x16,x17,x18,x19,x20,x21,x22,x23,x24,x25,x26,x27,x28,x29,x30,x31],_=>rfl
theorem zji(hc:CoOk c)(hL:3<=L)(k:List V->Option Y):ci Y L (d8 c) k=k (d8 c):=by
 rw [zg1 c hc.hl,zl5 hL (by rw [hc.sl]; omega)]
theorem ziA(h:c.h.length=32):cq (Wad 32 (QQa (0:Int))++[(QQc (0:Int)),(QQe (0:Int)),(V.gs 1 ([]:Ls)),(QQe (0:Int)),(V.sc (.bool false))]) 0 (d8 c)=d8 c:=mc (by rw [zo h]; rfl)
theorem zkO(h:c.h.length=32):cq (Wad 32 (QQa (0:Int))++[(QQc (0:Int)),(QQe (0:Int)),(V.sl 1 ([]:Ls)),(QQe (0:Int)),(V.sc (.bool false))]) 0 (d8 c)=d8 c:=mc (by rw [zo h]; rfl)
theorem zlV(h:c.h.length=32):bY 37 1 (d8 c)=[d8 c]:=by
 simp only [bY,Mt h]
theorem ziI(t:TxS):cq [(QQc (0:Int)),(V.gs 35 ([]:Ls)),(V.gs 2 ([]:Ls)),(QQc (0:Int))] 0 (WcL 4 (txr t))=txr t:=rfl
theorem zkw(t:TxS)(k:Ls->Option Y):cLd 35 (txr t) 1 k=k [ipt t++t.r]:=jZ rfl k
theorem TQ(ht:TxSOk t):(ipt t++t.r).length=35:=by rw [List.length_append,zcT ht.hl,ht.rl]
theorem zmd(ht:TxSOk t):cq (Wad 32 (QQa (0:Int))++[(QQc (0:Int)),(QQc (0:Int)),(V.gs 1 ([]:Ls))]) 0 (WcL 35 (ipt t++t.r))=ipt t++t.r:=by
 rw [WbR (by rw [TQ ht]; omega)];exact mc (by rw [TQ ht]; rfl)
theorem ze1(ht:TxSOk t):WcL 33 (ipt t++t.r)=row .u8 t.h++[V.sc (.int .u32 t.ix)]:=by
 rw [<- zcT ht.hl,List.take_left]; rfl
theorem zfK{p:List V}{mat:Int}(hp:p[79]?=some (QQe mat)){cs:List CoT}(hc:∀ c∈cs,CoOk c)(hn:cs.length<=1000000)(ht:TxSOk t)(n:Int) :
  ∃ (out:List CoT) (e:Int),(∀ L,2000000<=L->∀ (Y:Type) (k:Ls->Int->Option Y),co Y L p (cs.map d8) (txr t) n k=k (out.map d8) e)/\(0<=e/\e<=999)/\((e≠0/\out=[])∨(e=0/\∃ c∈cs,out=[c])):=by
 have hf:∀ (L:Nat),2000000<=L->∀ (Y:Type) (k:Int->Option Y),bR Y L (cs.map d8) (row .u8 t.h++[V.sc (.int .u32 t.ix)]) k=k (gF (λc=>sj c t.h t.ix) cs 0):=λL hL Y k=>zcj hL (λc h=>(hc c h).hl) hn ht.hl k;have e1:∀ (L:Nat),2000000<=L->∀ (Y:Type) (k:Ls->Int->Option Y),co Y L p (cs.map d8) (txr t) n k =
   (ifb (decide (gF (λc=>sj c t.h t.ix) cs 0<0)) (k [] 101) (idx (cs.map d8) (gF (λc=>sj c t.h t.ix) cs 0) λc4=>ci Y L (List.map V.ag (WcL 37 c4)) λv5=>
    chk ((WcK v5)=37/\0+37<=37) (
    chk ((WcK ([]:Ls)+WcK (bY 37 1 (cq (Wad 32 (QQa (0:Int))++[(QQc (0:Int)),(QQe (0:Int)),(V.sl 1 ([]:Ls)),(QQe (0:Int)),(V.sc (.bool false))]) 0 v5)))*88<=cN/\WcK ([]:Ls)+WcK (bY 37 1 (cq (Wad 32 (QQa (0:Int))++[(QQc (0:Int)),(QQe (0:Int)),(V.sl 1 ([]:Ls)),(QQe (0:Int)),(V.sc (.bool false))]) 0 v5))<=cN) (
    kY bR ci L n ([]++(bY 37 1 (cq (Wad 32 (QQa (0:Int))++[(QQc (0:Int)),(QQe (0:Int)),(V.sl 1 ([]:Ls)),(QQe (0:Int)),(V.sc (.bool false))]) 0 v5))) p k)))):=by
  intro L hL Y k;obtain ⟨m,rfl⟩:∃ m,L=m+2:=⟨L-2,by omega⟩;simp only [co,y5,FF,zkw];rw [rm,wO,cY (by simp),zW (by decide) (c:=ipt t++t.r) rfl,bQ ⟨by rw [WbR (by rw [TQ ht]; omega),TQ ht],by omega⟩,zmd ht,cM,bQ (by rw [TQ ht]; omega),ze1 ht,hf _ hL];congr 1
 rcases qW (λc=>sj c t.h t.ix) cs 0 with ⟨e,_⟩ | ⟨i,hi,e,_⟩
 ·refine ⟨[],101,λL hL Y k=>?_,by omega,.inl ⟨by omega,rfl⟩⟩;rw [e1 L hL,e,cY (by omega)]; rfl
 ·have hci:=hc _ (WaV hi);have e2:∀ (L:Nat),2000000<=L->∀ (Y:Type) (k:Ls->Int->Option Y),co Y L p (cs.map d8) (txr t) n k=kY bR ci L n [d8 cs[i]] p k:=by
   intro L hL Y k;rw [e1 L hL,e,di (by omega),Nat.zero_add,fj (eH hi),Mt hci.hl,zhv,zji hci (by omega),bQ ⟨zo hci.hl,by omega⟩,zkO hci.hl,zlV hci.hl,bQ (by simp [cN]),WcS]
  have e3:∀ (L:Nat),2000000<=L->∀ (Y:Type) (k:Ls->Int->Option Y),co Y L p (cs.map d8) (txr t) n k=ifb cs[i].cb (ifb (decide (Wbf .i64 (n-cs[i].ht)<mat)) (k [] 230) (k [d8 cs[i]] 0)) (k [d8 cs[i]] 0):=by
   intro L hL Y k;rw [e2 L hL];obtain ⟨m,rfl⟩:∃ m,L=m+2:=⟨L-2,by omega⟩;have h36:(d8 cs[i])[36]?=some (V.sc (.bool cs[i].cb)):=zcZ hci.hl 3;have h35:(d8 cs[i])[35]?=some (QQe cs[i].ht):=zcZ hci.hl 2;simp only [kY,tY];rw [mq,qy,cY (by simp),zW (by decide) (c:=d8 cs[i]) rfl,Mt hci.hl,bQ ⟨zo hci.hl,by omega⟩,ziA hci.hl,cM,PU h36];have hx:∀ (x:Int),x=Wbf .i64 ((0:Int)+1)->mq bR ci (m+2) (λp8 p9=>rI bR ci (m+2) p8 p9 k) (λp10=>sG bR ci (m+2) p10 k) (m+1) n [d8 cs[i]] [d8 cs[i]] ((WcK [d8 cs[i]]:Nat):Int) x p=k [d8 cs[i]] 0:=by
    rintro x rfl
    rw [mq,qy,di (by exact (by decide:¬ Wbf .i64 ((0:Int)+1)<((1:Nat):Int)))]; rfl
   cases cs[i].cb with
   | true=>
    rw [ii,ii,dg h35,cM,dg hp];by_cases hm:Wbf .i64 (n-cs[i].ht)<mat
    ·rw [cY hm,cY hm]; rfl
    ·rw [di hm,di hm,cM,hx _ rfl]
   | false=>rw [eI,eI,cM,hx _ rfl]
  by_cases hcond:cs[i].cb=true/\Wbf .i64 (n-cs[i].ht)<mat
  ·refine ⟨[],230,λL hL Y k=>?_,by omega,.inl ⟨by omega,rfl⟩⟩;rw [e3 L hL,hcond.1,ii,cY hcond.2]; rfl
  ·refine ⟨[cs[i]],0,λL hL Y k=>?_,by omega,.inr ⟨rfl,_,WaV hi,rfl⟩⟩;rw [e3 L hL];cases hb:cs[i].cb with
   | true=>
    rw [ii,di (λh=>hcond ⟨hb,h⟩)]; rfl
   | false=>rfl
end
section
variable {cs:List CoT}
variable {Y:Type}
def zdd:A->Bool
 | .int _ _ | .iv _ _ _ | .bool | .agg _=>true
 | .ak 0 _ _ _ | .ai 0 _ _ _ _ | .am 0 _ _=>true
 | _=>false
theorem zlW{N:Nat}{W:Nat->Int}{a:A}{v:V}(h:G N W a v)(ha:zdd a=true):v.ag=v:=by
 cases h <;> first | rfl | (simp [zdd] at ha; done) | skip
 all_goals
  unfold zdd at ha;split at ha <;> first | rfl | (cases ha; done) | skip
  all_goals first | rfl | (rename_i e; cases e; rfl) | simp_all [mkL]
theorem Km{N:Nat}{W:Nat->Int}:∀ {xs:List A} {vs:List V},xs.all zdd=true->GL N W xs vs->vs.map V.ag=vs
 | [],vs,_,h=>by rw [wB h]; rfl
 | a::xs,vs,ha,h=>by
  obtain ⟨v,r,e,g,h2⟩:=jk h;subst e;rw [List.all_cons,Bool.and_eq_true] at ha;rw [List.map_cons,zlW g ha.1,Km ha.2 h2]
theorem zed{L:Nat}(hn:cs.length<=1000000){i:Nat}(hi:i<cs.length)(k:Ls->Option Y):cd Y L (cs.map d8) (i:Int) k=k ((cs.take i++cs.drop (i+1)).map d8):=by
 have e2:WcL (cs.length-(i+1)) (WcN (i+1) (cs.map d8))=WcN (i+1) (cs.map d8):=WbR (by simp);simp only [cd,Cu,cM,WcP,up (show i<=1000000000 by omega),Int.toNat_natCast,WcS,Wda,List.drop_zero,Nat.sub_zero];rw [bQ (by omega),bQ (by simp only [List.length_take,WcP,cN]; omega),bQ (by omega),bQ (by simp only [List.length_take,List.length_drop,WcP,cN]; omega),e2,List.map_append,List.map_take,List.map_drop]
def zlr:List V:=lW 0 (Wad 32 0) []
def zur:List V:=[V.sl 37 []]
def zb6:List V:=[(QQe (0:Int))]++Wad 32 (QQa (0:Int))++[(V.gs 37 ([]:Ls))]
theorem Ky:([(QQe (0:Int))]++Wad 32 (QQa (0:Int))++[(V.sl 37 ([]:Ls))])=zlr:=rfl
theorem K2:zlr.length=34:=rfl
theorem L8(l:List V)(h:l.length=34):cq zb6 0 l=l:=mc (by rw [h]; rfl)
theorem T5(t:TxS):(txr t).length=4:=rfl
theorem NY(t:TxS):WcL 4 (txr t)=txr t:=rfl
theorem zar(t:TxS):List.map V.ag (txr t)=txr t:=rfl
theorem zhb(hc:∀ c∈cs,CoOk c)(hn:cs.length<=1000000){c:CoT}(hm:c∈cs):∃ cs':List CoT,(∀ c∈cs',CoOk c)/\cs'.length<=cs.length /\
  ∀ (L:Nat),3000000<=L->∀ (Y:Type) (kx:yg Y) (p12:Int) (p15:Ls) (p17:Int) (p46:Ls) (p47 p48:Int) (b3 b5 b6:List V) (b7:Ls) (ht:Int) (hh:List Int) (us:Ls) (b14:List V),hh.length=32 ->
   fO cv cD cg co cr cG ce cu bR cd L kx L p12 p15 p17 p46 p47 p48 [d8 c] 1 0 b3 b5 b6 b7 (lW ht hh (cs.map d8)) us b14=kx p12 p15 p17 p46 p47 p48 b3 b5 b6 b7 (lW ht hh (cs'.map d8)) us b14:=by
 rcases qW (λx=>sj x c.h c.ix) cs 0 with ⟨_,h⟩ | ⟨i,hi,e,_⟩
 ·have:=h c hm;simp [sj] at this
 ·refine ⟨cs.take i++cs.drop (i+1),λx hx=>?_,by simp; omega,λL hL Y kx p12 p15 p17 p46 p47 p48 b3 b5 b6 b7 ht hh us b14 hhl=>?_⟩
  ·rcases Wbt.1 hx with h | h
   ·exact hc x (WaI h)
   ·exact hc x (WaP h)
  ·have hl:=(hc c hm).hl;obtain ⟨m,rfl⟩:∃ m,L=m+2:=⟨L-2,by omega⟩;rw [fO,jj,cY (by decide),zW (by decide) (c:=d8 c) rfl,Mt hl,bQ ⟨zo hl,by omega⟩,ziA hl,cM,EF hhl,EF hhl,bQ (by rw [zo hl]; omega),YF hl,
    show cpt c=row .u8 c.h++[V.sc (.int .u32 c.ix)] from rfl,zcj (by omega) (λx hx=>(hc x hx).hl) hn hl,e,Nat.zero_add,zed hn hi,bQ (by rw [ny hhl]; omega),Sv hhl,cM,cM,fO,jj,di (by decide)]
section
variable {p:List V} {mat:Int}
theorem Ps(hp:p[79]?=some (QQe mat))(hpl:p.length=80)(hpd:p.map V.ag=p){l:List TxS}(hl:∀ t∈l,TxSOk t)(hll:l.length<=4){ht:Int}(hr:-9223372036854775808<=ht/\ht<=9223372036854775807){hh:List Int}(hhl:hh.length=32) :
  ∀ (m i:Nat),i+m=l.length->∀ (most:Int) (cs us:List CoT),(∀ c∈cs,CoOk c)->cs.length<=100000+2*i->(∀ c∈us,CoOk c)->us.length<=i-1 ->
  (∃ e:Int,(0<=e/\e<=999)/\Fin2 λL=>∀ (n:Nat),m<n->∀ (Y:Type) (kr:Int->List V->List V->Option Y) (kx:kH Y) (b5:List V),fe cv cD cg co cr cG ce cu bR cd L kr kx n most (l.map txr) (l.length:Int) (i:Int) p b5 zb6 [] (lW ht hh (cs.map d8)) (us.map d8)=kr e zlr zur) ∨
  (∃ (most':Int) (cs' us':List CoT),(∀ c∈cs',CoOk c)/\cs'.length<=100008/\(∀ c∈us',CoOk c)/\us'.length<=3/\Fin2 λL=>∀ (n:Nat),m<n->∀ (Y:Type) (kr:Int->List V->List V->Option Y) (kx:kH Y) (b5:List V),fe cv cD cg co cr cG ce cu bR cd L kr kx n most (l.map txr) (l.length:Int) (i:Int) p b5 zb6 [] (lW ht hh (cs.map d8)) (us.map d8)=kx most' b5 zb6 [] (lW ht hh (cs'.map d8)) (us'.map d8))
 | 0,i,hi,most,cs,us,hc,hn,hu,hul=>by
  refine .inr ⟨most,cs,us,hc,by omega,hu,by omega,0,λL _ n hn Y kr kx b5=>?_⟩;obtain ⟨n,rfl⟩:∃ k,n=k+1:=⟨n-1,by omega⟩;rw [fe,j6,mu,di (by omega)]
 | m+1,i,hi,most,cs,us,hc,hn,hu,hul=>by
  have hil:i<l.length:=by omega
  have ht1:=hl _ (WaV hil);have hi3:i<=3:=by omega
  by_cases h0:i=0
  ·obtain ⟨cs1,e,hc1,hn1,he,L1,h1⟩:=zcH (n:=ht) ht1 hc hr (j:=i) hi3 hn;have step:∀ (L:Nat),L1<=L->∀ (n:Nat) (Y:Type) (kr:Int->List V->List V->Option Y) (kx:kH Y) (b5:List V),fe cv cD cg co cr cG ce cu bR cd L kr kx (n+1) most (l.map txr) (l.length:Int) (i:Int) p b5 zb6 [] (lW ht hh (cs.map d8)) (us.map d8) =
     if e=0 then fe cv cD cg co cr cG ce cu bR cd L kr kx n most (l.map txr) (l.length:Int) ((i+1:Nat):Int) p b5 zb6 [] (lW ht hh (cs1.map d8)) (us.map d8) else kr e zlr zur:=by
    intro L hL n Y kr kx b5;rw [fe,j6,mu,cY (by omega),fj (eH hil),bQ ⟨rfl,by omega⟩,ziI,cM,di (by omega),EF hhl,bQ (by rw [T5]; omega),GW,NY,zar,h1 L hL,ip];by_cases he0:e=0
    ·rw [if_pos he0,if_pos he0,bQ (by rw [ny hhl]; omega),Sv hhl,cM,cM,up (by omega)]
    ·rw [if_neg he0,if_neg he0,bQ ⟨rfl,by decide⟩,Ky,L8 _ K2,cM,cM]; rfl
   by_cases he0:e=0
   ·rcases Ps hp hpl hpd hl hll hr hhl m (i+1) (by omega) most cs1 us hc1 hn1 hu (by omega) with ⟨e2,g1,L2,g2⟩ | ⟨m2,cs2,us2,g1,g2,g3,g4,L2,g5⟩
    ·refine .inl ⟨e2,g1,L1+L2,λL hL n hn Y kr kx b5=>?_⟩;obtain ⟨n,rfl⟩:∃ k,n=k+1:=⟨n-1,by omega⟩;rw [step L (by omega),if_pos he0,g2 L (by omega) n (by omega)]
    ·refine .inr ⟨m2,cs2,us2,g1,g2,g3,g4,L1+L2,λL hL n hn Y kr kx b5=>?_⟩;obtain ⟨n,rfl⟩:∃ k,n=k+1:=⟨n-1,by omega⟩;rw [step L (by omega),if_pos he0,g5 L (by omega) n (by omega)]
   ·refine .inl ⟨e,he,L1,λL hL n hn Y kr kx b5=>?_⟩;obtain ⟨n,rfl⟩:∃ k,n=k+1:=⟨n-1,by omega⟩;rw [step L hL,if_neg he0]
  ·obtain ⟨out,e,h1,he,hout⟩:=zfK hp hc (by omega) ht1 ht;have mI:∀ (L:Nat),3000000<=L->∀ (n:Nat) (Y:Type) (kr:Int->List V->List V->Option Y) (kx:kH Y) (b5:List V),fe cv cD cg co cr cG ce cu bR cd L kr kx (n+1) most (l.map txr) (l.length:Int) (i:Int) p b5 zb6 [] (lW ht hh (cs.map d8)) (us.map d8) =
     if e=0 then cr Y L (txr l[i]) (out.map d8) ht (λv21 v22=>if v22=0 then fO cv cD cg co cr cG ce cu bR cd L (λp12 p15 p17 p46 p47 p48 b3 b5 b6 b7_0 b10 b11_0 b14=>iU cv cD cg co cr cG ce cu bR cd L p12 p15 p17 p46 p47 p48 b3 b5 b6 b7_0 b10 b11_0 b14 kr (λp12 p46 p47 p48 b3 b5 b6 b7_0 b10 b11_0=>fe cv cD cg co cr cG ce cu bR cd L kr kx n p12 p46 p47 p48 b3 b5 b6 b7_0 b10 b11_0)) L most (out.map d8) v21 (l.map txr) (l.length:Int) (i:Int) (out.map d8) (((out.map d8).length:Nat):Int) 0 p b5 zb6 [] (lW ht hh (cs.map d8)) (us.map d8) (txr l[i]) else kr v22 zlr zur) else kr e zlr zur:=by
    intro L hL n Y kr kx b5;rw [fe,j6,mu,cY (by omega),fj (eH hil),bQ ⟨rfl,by omega⟩,ziI,cM,cY (by omega),bQ (by omega),EF hhl,bQ (by rw [T5]; omega),GW,NY,zar,WbR (by omega),hpd,h1 L (by omega),ip];by_cases he0:e=0
    ·rw [if_pos he0,if_pos he0,bQ (by rw [T5]; omega),GW];refine congrArg _ (funext λv21=>funext λv22=>?_);rw [ip];by_cases hv:v22=0
     ·rw [if_pos hv,if_pos hv]
     ·rw [if_neg hv,if_neg hv,bQ ⟨rfl,by decide⟩,Ky,L8 _ K2,cM,cM]; rfl
    ·rw [if_neg he0,if_neg he0,bQ ⟨rfl,by decide⟩,Ky,L8 _ K2,cM,cM]; rfl
   rcases hout with ⟨he0,rfl⟩ | ⟨rfl,c,hcm,rfl⟩
   ·refine .inl ⟨e,he,3000000,λL hL n hn Y kr kx b5=>?_⟩;obtain ⟨n,rfl⟩:∃ k,n=k+1:=⟨n-1,by omega⟩;rw [mI L hL,if_neg he0]
   ·obtain ⟨f,e2,_,he2,L2,h2⟩:=zbK (n:=ht) ht1 (hc c hcm) hr;by_cases hz:e2=0
    ·obtain ⟨cs1,hc1,hn1,h3⟩:=zhb hc (by omega) hcm;obtain ⟨cs2,e3,hc2,hn2,he3,L3,h4⟩:=zcH (n:=ht) ht1 hc1 hr (j:=i) hi3 (by omega);have stepB:∀ (L:Nat),3000000+L2+L3<=L->∀ (n:Nat) (Y:Type) (kr:Int->List V->List V->Option Y) (kx:kH Y) (b5:List V),fe cv cD cg co cr cG ce cu bR cd L kr kx (n+1) most (l.map txr) (l.length:Int) (i:Int) p b5 zb6 [] (lW ht hh (cs.map d8)) (us.map d8) =
       if e3=0 then fe cv cD cg co cr cG ce cu bR cd L kr kx n (Wbf .i64 (most+f)) (l.map txr) (l.length:Int) ((i+1:Nat):Int) p b5 zb6 [] (lW ht hh (cs2.map d8)) ((us++[c]).map d8) else kr e3 zlr zur:=by
      intro L hL n Y kr kx b5;rw [mI L (by omega),if_pos rfl];show cr Y L (txr l[i]) [d8 c] ht _=_;rw [h2 L (by omega),if_pos hz];refine (h3 L (by omega) Y _ most [d8 c] f (l.map txr) (l.length:Int) (i:Int) p b5 zb6 [] ht hh (us.map d8) (txr l[i]) hhl).trans ?_;rw [iU,cM,bQ (by simp only [WcP,List.length_cons,Wda,cN]; omega),cM,EF hhl,bQ (by rw [T5]; omega),GW,NY,zar,h4 L (by omega),ip];by_cases he0:e3=0
      ·rw [if_pos he0,if_pos he0,bQ (by rw [ny hhl]; omega),Sv hhl,cM,cM,up (by omega),List.map_append]; rfl
      ·rw [if_neg he0,if_neg he0,bQ ⟨rfl,by decide⟩,Ky,L8 _ K2,cM,cM]; rfl
     by_cases he0:e3=0
     ·rcases Ps hp hpl hpd hl hll hr hhl m (i+1) (by omega) (Wbf .i64 (most+f)) cs2 (us++[c]) hc2 hn2 (λx hx=>(Wbt.1 hx).elim (hu x) λh=>(WcG.1 h) ▸ hc c hcm) (by simp; omega) with ⟨e4,g1,L4,g2⟩ | ⟨m2,cs3,us3,g1,g2,g3,g4,L4,g5⟩
      ·refine .inl ⟨e4,g1,3000000+L2+L3+L4,λL hL n hn Y kr kx b5=>?_⟩;obtain ⟨n,rfl⟩:∃ k,n=k+1:=⟨n-1,by omega⟩;rw [stepB L (by omega),if_pos he0,g2 L (by omega) n (by omega)]
      ·refine .inr ⟨m2,cs3,us3,g1,g2,g3,g4,3000000+L2+L3+L4,λL hL n hn Y kr kx b5=>?_⟩;obtain ⟨n,rfl⟩:∃ k,n=k+1:=⟨n-1,by omega⟩;rw [stepB L (by omega),if_pos he0,g5 L (by omega) n (by omega)]
     ·refine .inl ⟨e3,he3,3000000+L2+L3,λL hL n hn Y kr kx b5=>?_⟩;obtain ⟨n,rfl⟩:∃ k,n=k+1:=⟨n-1,by omega⟩;rw [stepB L hL,if_neg he0]
    ·refine .inl ⟨e2,he2,3000000+L2,λL hL n hn Y kr kx b5=>?_⟩;obtain ⟨n,rfl⟩:∃ k,n=k+1:=⟨n-1,by omega⟩;rw [mI L (by omega),if_pos rfl];show cr Y L (txr l[i]) [d8 c] ht _=_;rw [h2 L (by omega),if_neg hz]
end
end
section
variable {b:List V}{x:Int}{h:List Int}
variable {Y:Type}
theorem ZJ(h:∀ N W,GL N W vB b):∃ (hd:List V) (l:List TxS),b=hd++[V.sl 4 (l.map txr)]/\hd.length=68/\(∀ N W,GL N W GD hd)/\(∀ t∈l,TxSOk t)/\1<=l.length/\l.length<=4:=by
 have h':∀ N W,GL N W (GD++[.ai 0 4 1 4 aTx]) b:=h;obtain ⟨hd,s,rfl,h1,h2⟩:=Kk (h' 0 (λ_=>0));have hdl:hd.length=68:=h1.1.symm;obtain ⟨v,r,rfl,g,h3⟩:=jk h2;obtain rfl:=wB h3;have hs:∀ N W,GL N W GD hd/\G N W (.ai 0 4 1 4 aTx) v:=by
  intro N W;obtain ⟨hd',s',e,q1,q2⟩:=Kk (h' N W);obtain ⟨rfl,rfl⟩:=List.append_inj e (by rw [hdl,<- q1.1]; rfl);obtain ⟨v',r',e',q3,_⟩:=jk q2;cases e';exact ⟨q1,q3⟩
 obtain ⟨es,rfl,e1,e2,e3⟩:=Oj (by omega) λN W=>(hs N W).2;have:∃ l:List TxS,es=l.map txr/\∀ t∈l,TxSOk t:=by
  clear h h' h1 h2 h3 g hs e1 e2
  induction es with
  | nil=>exact ⟨[],rfl,by simp⟩
  | cons e es ih=>
   obtain ⟨t,rfl,ht⟩:=zlq (e3 _ (Wcz ..));obtain ⟨l,rfl,hl⟩:=ih λr hr=>e3 r (WcC _ hr);exact ⟨t::l,rfl,λx hx=>(WbL.1 hx).elim (λe=>e ▸ ht) (hl x)⟩
 obtain ⟨l,rfl,hl⟩:=this;rw [WcP] at e1 e2;exact ⟨hd,l,rfl,hdl,λN W=>(hs N W).1,hl,by omega,by omega⟩
theorem zeK(h:∀ N W,GL N W vP b):∃ (ht:Int) (hh:List Int) (cs:List CoT),b=lW ht hh (cs.map d8)/\(-9223372036854775808<=ht/\ht<=9223372036854775807)/\hh.length=32/\ed hh/\(∀ c∈cs,CoOk c)/\cs.length<=100000:=by
 have h':∀ N W,GL N W (rQ::(ze++[um 100000])) b:=h;obtain ⟨v,r,rfl,g,h1⟩:=jk (h' 0 (λ_=>0));obtain ⟨ht,rfl,hr⟩:=tu g;obtain ⟨a,s,rfl,h2,h3⟩:=Kk h1;obtain ⟨hh,rfl,hl,hb⟩:=NS h2;obtain ⟨w,s,rfl,g2,h4⟩:=jk h3;obtain rfl:=wB h4;have hs:∀ N W,G N W (um 100000) w:=by
  intro N W;refine (h' N W).2 33 _ _ rfl ?_;rw [show 33=32+1 from rfl,List.getElem?_cons_succ,Wal (by rw [iQ]; omega),iQ,hl]; rfl
 obtain ⟨es,rfl,_,e2,e3⟩:=Oj (by omega) hs;obtain ⟨cs,rfl,hc⟩:=Ss e3;rw [WcP] at e2;exact ⟨ht,hh,cs,rfl,hr,hl,hb,hc,by omega⟩
theorem zf7{cs:Ls}(hl:h.length=32):cq (cq ([(QQe x)]++Wad 32 (QQa (0:Int))++[(V.sl 37 ([]:Ls))]) 1 (row .u8 h)) 33 [(V.sl 37 cs)]=lW x h cs:=by
 match h,hl with
 | [x0,x1,x2,x3,x4,x5,x6,x7,x8,x9,x10,x11,x12,x13,x14,x15,x16,x17,x18,x19,x20,x21,x22,x23,x24,x25,x26,x27,x28,x29,x30,x31],_=>rfl
theorem zlD(hl:h.length=32):(cq ([(QQe x)]++Wad 32 (QQa (0:Int))++[(V.sl 37 ([]:Ls))]) 1 (row .u8 h)).length=34:=by
 match h,hl with
 | [x0,x1,x2,x3,x4,x5,x6,x7,x8,x9,x10,x11,x12,x13,x14,x15,x16,x17,x18,x19,x20,x21,x22,x23,x24,x25,x26,x27,x28,x29,x30,x31],_=>rfl
theorem zhR{l:List TxS}(hl:∀ t∈l,TxSOk t)(h0:0<l.length){hd:List V}(hdl:hd.length=68){ht:Int}(hr:-9223372036854775808<=ht/\ht<=9223372036854775807){hh:List Int}(hhl:hh.length=32){cs us:List CoT}(hc:∀ c∈cs,CoOk c)(hn:cs.length<=100008)(most:Int) :
  ∃ (r1 r2:List V) (e:Int),((r1=zlr/\r2=zur)∨(r1=lW ht hh (cs.map d8)/\cs.length<=100000/\r2=[V.sl 37 (us.map d8)]))/\(0<=e/\e<=999)/\Fin2 λL=>∀ (Y:Type) (k:List V->List V->Int->Option Y),
   jY cv cD cg co cr cG ce cu bR cd L most (hd++[V.sl 4 (l.map txr)]) zb6 [] (lW ht hh (cs.map d8)) (us.map d8) k=k r1 r2 e:=by
 obtain ⟨outs,ho,hol,L1,h1⟩:=zbH (hl _ (WaV h0)) hr;obtain ⟨n1,L2,h2⟩:=Yf ho (by omega);obtain ⟨n2,L3,h3⟩:=Yf hc hn;have hb:(hd++[V.sl 4 (l.map txr)])[68]?=some (V.sl 4 (l.map txr)):=by
  rw [Wal (by omega),hdl]; rfl
 have hz:(l.map txr)[(0:Int).toNat]?=some (txr l[0]):=eH h0;have key:∀ (L:Nat),L1+L2+L3<=L->∀ (Y:Type) (k:List V->List V->Int->Option Y),jY cv cD cg co cr cG ce cu bR cd L most (hd++[V.sl 4 (l.map txr)]) zb6 [] (lW ht hh (cs.map d8)) (us.map d8) k =
   ifb (decide (n1>most)) (k zlr zur 231) (ifb (decide (n2>2100000000000000)) (k zlr zur 90) (ifb (decide (((cs.map d8).length:Int)>100000)) (k zlr zur 4) (k (lW ht hh (cs.map d8)) [V.sl 37 (us.map d8)] 0))):=by
  intro L hL Y k;have z1:∀ (e:Int),chk (34=34/\0+34<=(WcK zb6)) (lt (cq zb6 0 ([(QQe (0:Int))]++Wad 32 (QQa (0:Int))++[(V.sl 37 ([]:Ls))])) λr38=>lt [(V.sl 37 ([]:Ls))] λr39=>chk (0=0/\(WcK r38)=34/\34≠0) (chk (0=0/\(WcK r39)=1/\1≠0) (k r38 r39 e)))=k zlr zur e:=by
   intro e;rw [bQ ⟨rfl,by decide⟩,Ky,L8 _ K2,cM,cM,bQ ⟨rfl,rfl,by decide⟩,bQ ⟨rfl,rfl,by decide⟩]; rfl
  rw [jY,jZ hb,zW (by decide) hz,GW,NY,zar,h1 L (by omega),h2 L (by omega),z1,EF hhl,h3 L (by omega),z1,EF hhl,z1,
   bQ (by rw [ny hhl]; omega),WbR (by rw [ny hhl]; omega),bQ ⟨ny hhl,by decide⟩,L8 _ (ny hhl),cM,cM,bQ ⟨rfl,ny hhl,by decide⟩,bQ ⟨rfl,rfl,by decide⟩]
 by_cases q1:n1>most
 ·exact ⟨zlr,zur,231,.inl ⟨rfl,rfl⟩,by omega,L1+L2+L3,λL hL Y k=>by rw [key L hL,cY q1]⟩
 by_cases q2:n2>2100000000000000
 ·exact ⟨zlr,zur,90,.inl ⟨rfl,rfl⟩,by omega,L1+L2+L3,λL hL Y k=>by rw [key L hL,di q1,cY q2]⟩
 by_cases q3:((cs.map d8).length:Int)>100000
 ·exact ⟨zlr,zur,4,.inl ⟨rfl,rfl⟩,by omega,L1+L2+L3,λL hL Y k=>by rw [key L hL,di q1,di q2,cY q3]⟩
 ·exact ⟨_,_,0,.inr ⟨rfl,by rw [WcP] at q3; omega,rfl⟩,by omega,L1+L2+L3,λL hL Y k=>by rw [key L hL,di q1,di q2,di q3]⟩
theorem zh2{p l:List V}(hp:∀ N W,GL N W vI p)(hl:∀ N W,GL N W vP l)(hb:∀ N W,GL N W vB b) :
  ∃ (r1 r2:List V) (e:Int),(∀ N W,G N W sZ (.agg r1))/\(∀ N W,G N W UC (.agg r2))/\(0<=e/\e<=999)/\Fin2 λL=>∀ (Y:Type) (k:List V->List V->Int->Option Y),l5 Y L p l b k=k r1 r2 e:=by
 have hpl:p.length=80:=(hp 0 (λ_=>0)).1.symm;have hpd:p.map V.ag=p:=Km (by rfl) (hp 0 (λ_=>0));have hbd:b.map V.ag=b:=Km (by rfl) (hb 0 (λ_=>0));have hbl:b.length=69:=(hb 0 (λ_=>0)).1.symm;obtain ⟨mat,hm⟩:∃ mat,p[79]?=some (QQe mat):=by
  have h79:p[79]?=some p[79]:=List.getElem?_eq_getElem (by omega);obtain ⟨n,e,_⟩:=tu ((hp 0 (λ_=>0)).2 79 (.iv .i64 0 2) _ rfl h79);exact ⟨n,by rw [h79,e]⟩
 have hA:∀ N W,G N W o5 (.agg p):=λN W=>.agg _ _ (hp N W).1 (hp N W).2;obtain ⟨e0,he0,L0,h0⟩:=zfe hA (λN W=>.agg _ _ (hl N W).1 (hl N W).2) (λN W=>.agg _ _ (hb N W).1 (hb N W).2);obtain ⟨ht0,hh0,cs,rfl,hr0,hl0,hb0,hc,hn⟩:=zeK hl;obtain ⟨hd,tl,rfl,hdl,hhd,ht,hx1,hx4⟩:=ZJ hb;have hzl:∀ N W,G N W sZ (.agg zlr):=λN W=>ZN (cs:=[]) (by omega) (by simp) (by intro x hx; rw [List.eq_of_mem_replicate hx]; omega) (by simp) (by simp);have hzu:∀ N W,G N W UC (.agg zur):=λN W=>zfD (cs:=[]) (by simp) (by simp);by_cases hz:e0=0;rotate_left
 ·refine ⟨zlr,zur,e0,hzl,hzu,he0,L0,λL hL Y k=>?_⟩;simp only [l5,q6,vb];rw [bQ (by omega),bQ (by rw [ny hl0]; omega),bQ (by omega),WbR (by omega),hpd,WbR (by rw [ny hl0]; omega),za7,WbR (by omega),hbd,h0 L hL,ip,if_neg hz,cM,cM,Ky,bQ ⟨trivial,rfl,by decide⟩,bQ ⟨trivial,rfl,by decide⟩]; rfl
 ·have hr:=Ms .i64 (ht0+1);have hr:-9223372036854775808<=Wbf .i64 (ht0+1)/\Wbf .i64 (ht0+1)<=9223372036854775807:=hr;obtain ⟨hh,hhl,hhb,L1,h1⟩:=zha (λN W=>.agg _ _ (hhd N W).1 (hhd N W).2);obtain ⟨most,L2,h2⟩:=zbT hA hr;have hb4:(hd++[V.sl 4 (tl.map txr)])[68]?=some (V.sl 4 (tl.map txr)):=by
   rw [Wal (by omega),hdl]; rfl
  have key:∀ (L:Nat),L0+L1+L2<=L->∀ (Y:Type) (k:List V->List V->Int->Option Y),l5 Y L p (lW ht0 hh0 (cs.map d8)) (hd++[V.sl 4 (tl.map txr)]) k =
    fe cv cD cg co cr cG ce cu bR cd L (λp8 b6 b7=>m6 cv cD cg co cr cG ce cu bR cd L p8 b6 b7 k) (λp12 b5 b6 b7_0 b10 b11_0=>jY cv cD cg co cr cG ce cu bR cd L p12 b5 b6 b7_0 b10 b11_0 k) L most (tl.map txr) (tl.length:Int) ((0:Nat):Int) p (hd++[V.sl 4 (tl.map txr)]) zb6 [] (lW (Wbf .i64 (ht0+1)) hh (cs.map d8)) (([]:List CoT).map d8):=by
   intro L hL Y k;simp only [l5,q6,vb];rw [bQ (by omega),bQ (by rw [ny hl0]; omega),bQ (by omega),WbR (by omega),hpd,WbR (by rw [ny hl0]; omega),za7,WbR (by omega),hbd,h0 L (by omega),ip,if_pos hz,GW,cM,bQ (by omega),List.take_left' hdl,h1 L (by omega),EF hl0,
    bQ ⟨by rw [iQ,hhl],by omega⟩,bQ ⟨trivial,by rw [zlD hhl]; omega⟩,zf7 hhl,cM,bQ ⟨ny hhl,by omega⟩]
   rw [show ([(QQe (0:Int))]++Wad 32 (QQa (0:Int))++[(V.gs 37 ([]:Ls))])=zb6 from rfl,L8 _ (ny hhl),cM,GW,h2 L (by omega),jZ hb4,WcP,bQ (by omega)];rfl
  rcases Ps hm hpl hpd ht hx4 hr hhl tl.length 0 (by omega) most cs [] hc (by omega) (by simp) (by simp) with ⟨e,g1,L3,g2⟩ | ⟨m2,cs2,us2,g1,g2,g3,g4,L3,g5⟩
  ·refine ⟨zlr,zur,e,hzl,hzu,g1,L0+L1+L2+L3+10,λL hL Y k=>?_⟩;rw [key L (by omega),g2 L (by omega) L (by omega),m6,bQ ⟨rfl,rfl,by decide⟩,bQ ⟨rfl,rfl,by decide⟩]
  ·obtain ⟨r1,r2,e,q1,q2,L4,q3⟩:=zhR (us:=us2) ht hx1 hdl hr hhl g1 g2 m2;refine ⟨r1,r2,e,?_,?_,q2,L0+L1+L2+L3+L4+10,λL hL Y k=>?_⟩
   ·rcases q1 with ⟨rfl,rfl⟩ | ⟨rfl,q,rfl⟩
    ·exact hzl
    ·exact λN W=>ZN hr hhl hhb g1 q
   ·rcases q1 with ⟨rfl,rfl⟩ | ⟨rfl,q,rfl⟩
    ·exact hzu
    ·exact λN W=>zfD g3 g4
   ·rw [key L (by omega),g5 L (by omega) L (by omega),q3 L (by omega)]
theorem zbi:eY (dl rows) 310 X8:=by
 refine zcw (D':=301) (by decide) (λL=>P3 L) (λws hw=>?_);obtain ⟨v1,r,rfl,a1,h0⟩:=jk (hw 0 (λ_=>0));obtain ⟨v2,r,rfl,a2,h0⟩:=jk h0;obtain ⟨v3,r,rfl,a3,h0⟩:=jk h0;obtain rfl:=wB h0;obtain ⟨p,rfl,_⟩:=Gl a1;obtain ⟨l,rfl,_⟩:=Gl a2;obtain ⟨b,rfl,_⟩:=Gl a3;have hp:∀ N W,GL N W vI p:=λN W=>by obtain ⟨_,e,h⟩:=Gl ((hw N W).2 0 _ _ rfl rfl); cases e; exact h
 have hl:∀ N W,GL N W vP l:=λN W=>by obtain ⟨_,e,h⟩:=Gl ((hw N W).2 1 _ _ rfl rfl); cases e; exact h
 have hb:∀ N W,GL N W vB b:=λN W=>by obtain ⟨_,e,h⟩:=Gl ((hw N W).2 2 _ _ rfl rfl); cases e; exact h
 obtain ⟨r1,r2,e,q1,q2,q3,L0,q⟩:=zh2 hp hl hb;refine ⟨.ae [.agg r1,.agg r2,.sc (.int .i64 e)],λN W=>?_,L0,λL hL=>q L hL (V × Bor) λp0 p1 p2=>some (V.ae [.agg p0,.agg p1,.sc (.int .i64 p2)],[])⟩;have:GL N W [sZ,UC,vS] [.agg r1,.agg r2,.sc (.int .i64 e)]:=.cons (q1 N W) (.cons (q2 N W) (gl1 (.iv .i64 _ _ e q3)));exact .ae _ _ this.1 this.2
end
section
variable {l:List OwT}{v:OwT}
variable {Y:Type}
theorem Mn{v:OwT}(hv:v.h.length=32){due:List (List Int)}(hd:∀ b∈due,ed b)(hdn:due.length<=10000000)(x:Int):∀ (m i:Nat) (l:List OwT),(∀ w∈l,OwOk w)->l.length<=1000000->l.length-i=m->∃ l':List OwT,(∀ w∈l',OwOk w)/\l'.length=l.length/\∀ (L n:Nat),20000000<=L->m<n->∀ (Y:Type) (kx:Nat->List V->Option Y),
  fo bP L kx n (fi due) x l.length (i:Int) (ic v) (l.map cH).flatten=kx l'.length (l'.map cH).flatten
 | 0,i,l,hl,hn,hi=>⟨l,hl,rfl,λL n hL hn Y kx=>by
  obtain ⟨n,rfl⟩:∃ k,n=k+1:=⟨n-1,by omega⟩;rw [fo,rk,di (by omega)]⟩
 | m+1,i,l,hl,hn,hi=>by
  have h:i<l.length:=by omega
  have hw:=hl _ (WaV h);have hll:∀ w∈l,w.h.length=32:=λw hw=>(hl w hw).hl;have h2:(0:Int)<=(i:Int)/\(i:Int)<((l.length:Nat):Int):=by omega
  have a37:(l.map cH).flatten[(0+(WcM (i:Int))*38)+37]?=some (QQe l[i].sp):=by
   rw [show ((0+(WcM (i:Int))*38)+37)=i*38+(33+4) by simp,zff hll h (by omega)]; rfl
  have a34:(l.map cH).flatten[(((0+(WcM (i:Int))*38)+0)+33)+1]?=some (V.sl 1 (eQ .u8 l[i].an)):=by
   rw [show ((((0+(WcM (i:Int))*38)+0)+33)+1)=i*38+(33+1) by simp,zff hll h (by omega)]; rfl
  have a33:WcL 33 (WcN (((0+((WcM (i:Int))*38))+0)+0) (l.map cH).flatten)=ic l[i]:=by
   rw [show (((0+((WcM (i:Int))*38))+0)+0)=i*38 by simp,Ot (o9 hll) (by omega) (eH h),pI hw.hl]
  obtain ⟨l1,g1,g2,g3⟩:=Mn hv hd hdn x m (i+1) l hl hn (by omega);obtain ⟨l2,k1,k2,k3⟩:=Mn hv hd hdn x m (i+1) (l.set i (spd l[i] x)) (zbd hl h x) (by simpa using hn) (by simp; omega);have step:∀ (L n:Nat),20000000<=L->∀ (Y:Type) (kx:Nat->List V->Option Y),fo bP L kx (n+1) (fi due) x l.length (i:Int) (ic v) (l.map cH).flatten =
    ifb (xa l[i] v) (ifb (l[i].sp==0) (ifb (((due.length:Nat):Int)==0) (fo bP L kx n (fi due) x l.length ((i+1:Nat):Int) (ic v) ((l.set i (spd l[i] x)).map cH).flatten) (ifb (ME due l[i].an) (fo bP L kx n (fi due) x l.length ((i+1:Nat):Int) (ic v) ((l.set i (spd l[i] x)).map cH).flatten) (fo bP L kx n (fi due) x l.length ((i+1:Nat):Int) (ic v) (l.map cH).flatten))) (fo bP L kx n (fi due) x l.length ((i+1:Nat):Int) (ic v) (l.map cH).flatten)) (fo bP L kx n (fi due) x l.length ((i+1:Nat):Int) (ic v) (l.map cH).flatten):=by
   intro L n hL Y kx;rw [fo,rk,cY h2.2,bQ h2,bQ (by rw [s8 hll]; simp; omega),bQ (by rw [im hv]; omega),a33,WbR (by rw [im hv]; omega),Ha hw.hl hv,bQ h2,dg a37,EI,bQ h2,bQ ⟨rfl,by rw [s8 hll]; simp; omega⟩,zgz hll h,jZ a34,zaX hL hdn hd hw.s];simp only [cM,up (show i<=1000000000 by omega)];rw [bQ h2]
  have no:(∀ (L n:Nat),20000000<=L->∀ (Y:Type) (kx:Nat->List V->Option Y),fo bP L kx (n+1) (fi due) x l.length (i:Int) (ic v) (l.map cH).flatten=fo bP L kx n (fi due) x l.length ((i+1:Nat):Int) (ic v) (l.map cH).flatten)->∃ l':List OwT,(∀ w∈l',OwOk w)/\l'.length=l.length/\∀ (L n:Nat),20000000<=L->m+1<n->∀ (Y:Type) (kx:Nat->List V->Option Y),fo bP L kx n (fi due) x l.length (i:Int) (ic v) (l.map cH).flatten=kx l'.length (l'.map cH).flatten:=by
   intro q;refine ⟨l1,g1,g2,λL n hL hn Y kx=>?_⟩;obtain ⟨n,rfl⟩:∃ k,n=k+1:=⟨n-1,by omega⟩;rw [q L n hL,g3 L n hL (by omega)]
  have yes:(∀ (L n:Nat),20000000<=L->∀ (Y:Type) (kx:Nat->List V->Option Y),fo bP L kx (n+1) (fi due) x l.length (i:Int) (ic v) (l.map cH).flatten=fo bP L kx n (fi due) x l.length ((i+1:Nat):Int) (ic v) ((l.set i (spd l[i] x)).map cH).flatten)->∃ l':List OwT,(∀ w∈l',OwOk w)/\l'.length=l.length/\∀ (L n:Nat),20000000<=L->m+1<n->∀ (Y:Type) (kx:Nat->List V->Option Y),fo bP L kx n (fi due) x l.length (i:Int) (ic v) (l.map cH).flatten=kx l'.length (l'.map cH).flatten:=by
   intro q;refine ⟨l2,k1,by simpa using k2,λL n hL hn Y kx=>?_⟩;obtain ⟨n,rfl⟩:∃ k,n=k+1:=⟨n-1,by omega⟩;have:=k3 L n hL (by omega) Y kx;rw [List.length_set] at this;rw [q L n hL,this]
  cases hs:xa l[i] v with
  | false=>exact no λL n hL Y kx=>by rw [step L n hL,hs]; rfl
  | true=>
   by_cases c1:l[i].sp=0
   ·by_cases c2:((due.length:Nat):Int)=0
    ·exact yes λL n hL Y kx=>by rw [step L n hL,hs,ii,eW c1,eW c2]
    ·cases hh:ME due l[i].an with
     | true=>exact yes λL n hL Y kx=>by rw [step L n hL,hs,ii,eW c1,dT c2,hh]; rfl
     | false=>exact no λL n hL Y kx=>by rw [step L n hL,hs,ii,eW c1,dT c2,hh]; rfl
   ·exact no λL n hL Y kx=>by rw [step L n hL,hs,ii,dT c1]
theorem zhc(hl:∀ w∈l,OwOk w)(hn:l.length<=1000000)(hv:v.h.length=32){due:List (List Int)}(hd:∀ b∈due,ed b)(hdn:due.length<=10000000)(x:Int):∃ l':List OwT,(∀ w∈l',OwOk w)/\l'.length=l.length/\∀ (L:Nat),20000000<=L->∀ (Y:Type) (k:Ls->Option Y),
  bX Y L (l.map cH) (ic v) (fi due) x k=k (l'.map cH):=by
 obtain ⟨l',g1,g2,g3⟩:=Mn hv hd hdn x _ 0 l hl hn rfl;refine ⟨l',g1,g2,λL hL Y k=>?_⟩;have hll:∀ w∈l',w.h.length=32:=λw hw=>(g1 w hw).hl;simp only [bX,y7,Fh,WcP];rw [bQ (by simp only [cN]; omega)];refine (g3 L L hL (by omega) Y _).trans ?_;rw [tV,bQ (by rw [s8 hll]; by_cases h:l'.length=0 <;> simp [h]),Ap hll]
theorem Yv{l:List OwT}(hl:∀ w∈l,OwOk w)(hn:l.length<=1000000){v:OwT}(hv:v.h.length=32):∀ (m i:Nat),l.length-i=m->i<=l.length->∃ j:Nat,j<=l.length/\∀ (L n:Nat),40<=L->m<n->∀ (Y:Type) (kx:Ls->Int->List V->Option Y),
  mg bV L kx n (l.map cH) (i:Int) (cH v)=kx (l.map cH) (j:Int) (cH v)
 | 0,i,hi,hil=>⟨i,hil,λL n hL hn Y kx=>by
  obtain ⟨n,rfl⟩:∃ k,n=k+1:=⟨n-1,by omega⟩;rw [mg,vd,WcP,di (by omega)]⟩
 | m+1,i,hi,hil=>by
  have h:i<l.length:=by omega
  have hw:=hl _ (WaV h);obtain ⟨b,hb⟩:=zf5 hw.hl hv;have step:∀ (L n:Nat),40<=L->∀ (Y:Type) (kx:Ls->Int->List V->Option Y),mg bV L kx (n+1) (l.map cH) (i:Int) (cH v)=ifb b (mg bV L kx n (l.map cH) ((i+1:Nat):Int) (cH v)) (kx (l.map cH) (i:Int) (cH v)):=by
   intro L n hL Y kx;rw [mg,vd,WcP,cY (by omega),fj (eH h),bQ (by rw [eG hv]; omega),jd hw.hl,jd hv,rL,rL,hb L hL,cM,up (by omega)]
  cases b with
  | false=>
   refine ⟨i,hil,λL n hL hn Y kx=>?_⟩;obtain ⟨n,rfl⟩:∃ k,n=k+1:=⟨n-1,by omega⟩;rw [step L n hL]; rfl
  | true=>
   obtain ⟨j,q1,q2⟩:=Yv hl hn hv m (i+1) (by omega) (by omega);refine ⟨j,q1,λL n hL hn Y kx=>?_⟩;obtain ⟨n,rfl⟩:∃ k,n=k+1:=⟨n-1,by omega⟩;rw [step L n hL,ii,q2 L n hL (by omega)]
theorem YE{l:List OwT}(hl:∀ w∈l,OwOk w)(hn:l.length<=1000000){v:OwT}(hv:v.h.length=32)(p:Int):∀ (m i:Nat),l.length-i=m->∃ b:Bool,∀ (L n:Nat),m<n->∀ (Y:Type) (kr:Ls->Int->Option Y) (kx:Ls->Int->List V->Option Y),
  nG bV L kr kx n (l.map cH) p (i:Int) (cH v)=ifb b (kr [] 91) (kx (l.map cH) p (cH v))
 | 0,i,hi=>⟨false,λL n hn Y kr kx=>by
  obtain ⟨n,rfl⟩:∃ k,n=k+1:=⟨n-1,by omega⟩;rw [nG,sB,WcP,di (by omega)]; rfl⟩
 | m+1,i,hi=>by
  have h:i<l.length:=by omega
  have hw:=hl _ (WaV h);have h37:(WcN 37 (cH l[i]))[0]?=some (QQe l[i].sp):=by rw [List.getElem?_drop]; exact f8 hw.hl 4
  obtain ⟨b,hb⟩:=YE hl hn hv p m (i+1) (by omega);refine ⟨cond (xa l[i] v) (cond (l[i].sp==0) true b) b,λL n hn Y kr kx=>?_⟩;obtain ⟨n,rfl⟩:∃ k,n=k+1:=⟨n-1,by omega⟩;have:=hb L n (by omega) Y kr kx;rw [nG,sB,WcP,cY (by omega),fj (eH h),bQ (by rw [eG hv]; omega),pI hw.hl,pI hv,Ha hw.hl hv,fj (eH h),dg h37,cM,up (by omega),this];cases xa l[i] v <;> cases (l[i].sp==0) <;> rfl
theorem zkl(hl:∀ w∈l,OwOk w)(hn:l.length<=100000)(hv:OwOk v):∃ (l':List OwT) (e:Int),(∀ w∈l',OwOk w)/\l'.length<=l.length+1/\∀ (L:Nat),2000000<=L->∀ (Y:Type) (k:Ls->Int->Option Y),
  cj Y L (l.map cH) (cH v) k=k (l'.map cH) e:=by
 obtain ⟨j,h1,h2⟩:=Yv hl (by omega) hv.hl _ 0 rfl (by omega);obtain ⟨b,h3⟩:=YE hl (by omega) hv.hl (j:Int) _ 0 rfl;have e:∀ (L:Nat),2000000<=L->∀ (Y:Type) (k:Ls->Int->Option Y),cj Y L (l.map cH) (cH v) k=ifb b (k [] 91) (k ((l.take j++v::l.drop j).map cH) 0):=by
  intro L hL Y k;simp only [cj,DV,Jl];refine (h2 L L (by omega) (by omega) Y _).trans ?_;simp only [qT,yn];refine (h3 L L (by omega) Y _ _).trans ?_;have hj:0<=(j:Int)/\(j:Int)<=(((List.map cH l).length:Nat):Int):=by simp; omega
  have e2:WcL (WcK (l.map cH)-j) (WcN j (l.map cH))=WcN j (l.map cH):=WbR (by simp);simp only [tI,uW,Int.toNat_natCast,Nat.sub_zero,List.drop_zero,WcS,cM];rw [bQ hj,bQ (by simp [cN]; omega),bQ (by rw [eG hv.hl]; omega),jd hv.hl,bQ ⟨eG hv.hl,by omega⟩,KY hv.hl,PS hv.hl,bQ (by simp [cN]; omega),e2,bQ (by simp [cN]; omega),bQ (by simp [cN]; omega),show ((l.take j++v::l.drop j).map cH)=WcL j (l.map cH)++[cH v]++WcN j (l.map cH) by simp [List.map_take,List.map_drop]]
 cases b with
 | true=>exact ⟨[],91,by simp,by simp,λL hL Y k=>(e L hL Y k).trans rfl⟩
 | false=>
  refine ⟨l.take j++v::l.drop j,0,λw hw=>?_,by simp; omega,λL hL Y k=>(e L hL Y k).trans rfl⟩;rcases Wbt.1 hw with h | h
  ·exact hl w (WaI h)
  ·rcases WbL.1 h with rfl | h
   ·exact hv
   ·exact hl w (WaP h)
end
section
variable {v:V}{t:TxS}{h:List Int}
variable {Y:Type}
def Fj(o:Int × List Int):List V:=[V.sc (.int .i64 o.1),V.sl 1 (eQ .u8 o.2)]
theorem zk0{a:A}(ha:a=.int .u8 ⟨1,[]⟩∨a=.int .u8 ⟨5,[]⟩∨a=.iv .u8 1 6)(h:G 0 (λ_=>0) a v):∃ n:Int,v=.sc (.int .u8 n)/\0<=n/\n<=255:=by
 rcases ha with rfl | rfl | rfl
 ·generalize hc:A.int .u8 ⟨1,[]⟩=c at h;cases h <;> first | (cases hc; done) | skip
  cases hc;exact ⟨_,rfl,by decide,by decide⟩
 ·generalize hc:A.int .u8 ⟨5,[]⟩=c at h;cases h <;> first | (cases hc; done) | skip
  cases hc;exact ⟨_,rfl,by decide,by decide⟩
 ·obtain ⟨n,rfl,h1,h2⟩:=tu h;exact ⟨n,rfl,by omega,by omega⟩
theorem zfE(h:G 0 (λ_=>0) KG v):∃ l:List Int,v=.sl 1 (eQ .u8 l)/\ed l/\l.length=4:=by
 have key:∃ es:Ls,v=.sl 1 es/\es.length=4/\∀ (j:Nat) (row:List A) (r:List V),([[A.int .u8 ⟨1,[]⟩],[.int .u8 ⟨1,[]⟩],[.iv .u8 1 6],[.int .u8 ⟨5,[]⟩]]:List (List A))[j]?=some row->es[j]?=some r->GL 0 (λ_=>0) row r:=by
  generalize hc:KG=c at h;unfold KG at hc;cases h <;> first | (cases hc; done) | skip
  rename_i es hl hr hh;cases hc;exact ⟨es,rfl,hl.symm,λj row r a b=>⟨hr j row r a b,hh j row r a b⟩⟩
 obtain ⟨es,rfl,hl,hk⟩:=key
 match es,hl with
 | [r0,r1,r2,r3],_=>
  have one:∀ {a:A} {r:List V},(a=.int .u8 ⟨1,[]⟩∨a=.int .u8 ⟨5,[]⟩∨a=.iv .u8 1 6)->GL 0 (λ_=>0) [a] r->∃ n:Int,r=[.sc (.int .u8 n)]/\0<=n/\n<=255:=by
   intro a r ha h;obtain ⟨v,r,rfl,g,h2⟩:=jk h;obtain rfl:=wB h2;obtain ⟨n,rfl,hn⟩:=zk0 ha g;exact ⟨n,rfl,hn⟩
  obtain ⟨n0,rfl,h0⟩:=one (.inl rfl) (hk 0 _ _ rfl rfl);obtain ⟨n1,rfl,h1⟩:=one (.inl rfl) (hk 1 _ _ rfl rfl);obtain ⟨n2,rfl,h2⟩:=one (.inr (.inr rfl)) (hk 2 _ _ rfl rfl);obtain ⟨n3,rfl,h3⟩:=one (.inr (.inl rfl)) (hk 3 _ _ rfl rfl);refine ⟨[n0,n1,n2,n3],rfl,λx hx=>?_,rfl⟩;simp only [WbL,List.not_mem_nil,or_false] at hx;rcases hx with rfl | rfl | rfl | rfl <;> assumption
structure OsOk (os:List (Int × List Int)):Prop where
 n:os.length<=2
 b:∀ o∈os,ed o.2
 l:∀ o∈os,o.2.length=4
theorem zjj(ht:TxSOk t):∃ os:List (Int × List Int),t.outs=os.map Fj/\OsOk os:=by
 have g:=(ht.g 0 (λ_=>0)).2 2 (.ai 0 2 1 2 Xj) (.sl 2 t.outs) rfl rfl;obtain ⟨es,e,e1,e2,e3⟩:=U9 g;have:t.outs=es:=by simpa [mkL] using e
 subst this;have key:∀ (es:Ls),(∀ r∈es,GL 0 (λ_=>0) Xj r)->∃ os:List (Int × List Int),es=os.map Fj/\(∀ o∈os,ed o.2)/\∀ o∈os,o.2.length=4:=by
  intro es
  induction es with
  | nil=>exact λ_=>⟨[],rfl,by simp,by simp⟩
  | cons r es ih=>
   intro h;obtain ⟨os,rfl,h1,h2⟩:=ih λr hr=>h r (WcC _ hr);obtain ⟨v,s,rfl,q1,q2⟩:=jk (h r (Wcz ..));obtain ⟨u,s,rfl,q3,q4⟩:=jk q2;obtain rfl:=wB q4;obtain ⟨n,rfl,_⟩:=tu q1;obtain ⟨l,rfl,hb,hl⟩:=zfE q3;refine ⟨(n,l)::os,rfl,λo ho=>?_,λo ho=>?_⟩
   ·rcases WbL.1 ho with rfl | ho
    ·exact hb
    ·exact h1 o ho
   ·rcases WbL.1 ho with rfl | ho
    ·exact hl
    ·exact h2 o ho
 obtain ⟨os,e,h1,h2⟩:=key t.outs e3;exact ⟨os,e,by have:=congrArg WcK e; rw [WcP] at this; omega,h1,h2⟩
theorem zkd(ht:TxSOk t):∃ l:List Int,l.length=32/\ed l/\Fin2 λL=>∀ (Y:Type) k,cx Y L (txr t) k=k (row .u8 l):=by
 obtain ⟨v,g,L0,h⟩:=yI (dj (D':=300) (by decide) PW) (ws:=[.agg (txr t)]) (λN W=>gl1 (zey ht N W));obtain ⟨l,rfl,hl,hb⟩:=zc3 g;exact ⟨l,hl,hb,L0,λL hL Y k=>(h L hL Y _).trans (zee _ _)⟩
theorem zbV{b:List V}(hb:∀ N W,GL N W vB b):∃ e,(0<=e/\e<=999)/\Fin2 λL=>∀ (Y:Type) k,io Y L b k=k e:=by
 obtain ⟨v,g,L0,h⟩:=yI (dj (D':=300) (by decide) Ui) (ws:=[.agg b]) (λN W=>gl1 (.agg _ _ (hb N W).1 (hb N W).2));obtain ⟨e,rfl,he⟩:=tu (g 0 (λ_=>0));exact ⟨e,he,L0,λL hL Y k=>(h L hL Y _).trans (DR _ _ _)⟩
def ZV(h:List Int)(ix:Int)(o:Int × List Int)(x:Int)(cb:Bool):List V:=row .u8 h++[V.sc (.int .u32 ix),V.sc (.int .i64 o.1),V.sl 1 (eQ .u8 o.2),V.sc (.int .i64 x),V.sc (.bool cb)]
theorem zmu(hl:h.length=32)(ix:Int):cq (cq (Wad 32 (QQa (0:Int))++[(QQc (0:Int))]) 0 (row .u8 h)) 32 [(QQc ix)]=row .u8 h++[V.sc (.int .u32 ix)]:=by
 match h,hl with
 | [x0,x1,x2,x3,x4,x5,x6,x7,x8,x9,x10,x11,x12,x13,x14,x15,x16,x17,x18,x19,x20,x21,x22,x23,x24,x25,x26,x27,x28,x29,x30,x31],_=>rfl
def z37:List V:=(Wad 32 (QQa (0:Int))++[(QQc (0:Int)),(QQe (0:Int)),(V.sl 1 ([]:Ls)),(QQe (0:Int)),(V.sc (.bool false))])
theorem zmg(hl:h.length=32)(ix:Int)(o:Int × List Int)(x:Int)(cb:Bool):cq (cq (cq (cq z37 0 (row .u8 h++[V.sc (.int .u32 ix)])) 33 (Fj o)) 35 [(QQe x)]) 36 [(V.sc (.bool cb))]=ZV h ix o x cb:=by
 match h,hl with
 | [x0,x1,x2,x3,x4,x5,x6,x7,x8,x9,x10,x11,x12,x13,x14,x15,x16,x17,x18,x19,x20,x21,x22,x23,x24,x25,x26,x27,x28,x29,x30,x31],_=>rfl
theorem Va(hl:h.length=32)(ix:Int)(o:Int × List Int)(x:Int)(cb:Bool):(ZV h ix o x cb).length=37:=by simp [ZV,iQ,hl]
theorem zl0(hl:h.length=32)(ix:Int)(o:Int × List Int)(x:Int)(cb:Bool):cq (Wad 32 (QQa (0:Int))++[(QQc (0:Int)),(QQe (0:Int)),(V.sl 1 ([]:Ls)),(QQe (0:Int)),(V.sc (.bool false)),(QQe (0:Int))]) 0 (ZV h ix o x cb)=cH ⟨h,ix,o.1,o.2,x,cb,0⟩:=by
 match h,hl with
 | [x0,x1,x2,x3,x4,x5,x6,x7,x8,x9,x10,x11,x12,x13,x14,x15,x16,x17,x18,x19,x20,x21,x22,x23,x24,x25,x26,x27,x28,x29,x30,x31],_=>rfl
end
section
variable {Y:Type}
section
variable {due scs:List (List Int)} {x:Int}
theorem OH(hs:∀ b∈scs,ed b)(hsn:scs.length<=10000000){t:TxS}(ht:TxSOk t){os:List (Int × List Int)}(ho:t.outs=os.map Fj)(hos:OsOk os)(b8:List V)(c:Int):∀ (m i:Nat),i+m=os.length->∀ (l:List OwT),(∀ w∈l,OwOk w)->l.length+m<=90000 ->
  (∃ (l':List OwT) (e:Int),(∀ w∈l',OwOk w)/\l'.length=0/\Fin2 λL=>∀ (n:Nat),m<n->∀ (Y:Type) (kr:Ls->Int->Option Y) (kx:s6 Y),
   fX bX bP cx cj L kr kx n (l.map cH) (fi due) (fi scs) x c (i:Int) b8 (txr t)=kr (l'.map cH) e) ∨
  (∃ l':List OwT,(∀ w∈l',OwOk w)/\l'.length<=l.length+m/\Fin2 λL=>∀ (n:Nat),m<n->∀ (Y:Type) (kr:Ls->Int->Option Y) (kx:s6 Y),
   fX bX bP cx cj L kr kx n (l.map cH) (fi due) (fi scs) x c (i:Int) b8 (txr t)=kx (l'.map cH) (fi due) (fi scs) x c b8)
 | 0,i,hi,l,hl,hn=>by
  refine .inr ⟨l,hl,by omega,0,λL _ n hn Y kr kx=>?_⟩;obtain ⟨n,rfl⟩:∃ k,n=k+1:=⟨n-1,by omega⟩;have h2:∀ (k:Ls->Option Y),cLd 2 (txr t) 2 k=k t.outs:=λk=>jZ rfl k;rw [fX,nr,h2,ho,WcP,di (by omega)]
 | m+1,i,hi,l,hl,hn=>by
  have hio:i<os.length:=by omega
  have hb:=hos.b _ (WaV hio);have hl4:=hos.l _ (WaV hio);obtain ⟨h,hh,hhb,L1,h1⟩:=zkd ht;have hn2:=hos.n;have hoi:t.outs[i]?=some (Fj os[i]):=by rw [ho]; simp [hio]
  have hix:=Ms .u32 (i:Int);have hix:0<=Wbf .u32 (i:Int)/\Wbf .u32 (i:Int)<=4294967295:=hix;have hw:OwOk ⟨h,Wbf .u32 (i:Int),os[i].1,os[i].2,x,c==0,0⟩:=⟨hh,hhb,hix,hb,by show os[i].2.length<=1000; omega⟩;obtain ⟨l1,e1,g1,g2,g3⟩:=zkl hl (by omega) hw;have step:∀ (L:Nat),20000000+L1<=L->∀ (n:Nat) (Y:Type) (kr:Ls->Int->Option Y) (kx:s6 Y),fX bX bP cx cj L kr kx (n+1) (l.map cH) (fi due) (fi scs) x c (i:Int) b8 (txr t) =
    ifb (!ME scs os[i].2) (fX bX bP cx cj L kr kx n (l.map cH) (fi due) (fi scs) x c ((i+1:Nat):Int) b8 (txr t)) (if e1=0 then fX bX bP cx cj L kr kx n (l1.map cH) (fi due) (fi scs) x c ((i+1:Nat):Int) b8 (txr t) else kr [] e1):=by
   intro L hL n Y kr kx;have h2:∀ (k:Ls->Option Y),cLd 2 (txr t) 2 k=k t.outs:=λk=>jZ rfl k;have h3:∀ (k:Ls->Option Y),cL 1 (WcN 1 (Fj os[i])) 0 k=k (eQ .u8 os[i].2):=λk=>uD rfl k;have hp:((row .u8 h++[V.sc (.int .u32 (Wbf .u32 (i:Int)))]):List V).length=33:=by simp [iQ,hh]
   have hr:WcL 2 (Fj os[i])=Fj os[i]:=rfl;have hz:z37.length=37:=rfl;have q1:(cq z37 0 (row .u8 h++[V.sc (.int .u32 (Wbf .u32 (i:Int)))])).length=37:=by rw [Jd (by rw [hp,hz]; omega),hz]
   have q2:(cq (cq z37 0 (row .u8 h++[V.sc (.int .u32 (Wbf .u32 (i:Int)))])) 33 (Fj os[i])).length=37:=by rw [Jd (by rw [q1]; show 33+2<=37; omega),q1]
   have q3:(cq (cq (cq z37 0 (row .u8 h++[V.sc (.int .u32 (Wbf .u32 (i:Int)))])) 33 (Fj os[i])) 35 [(QQe x)]).length=37:=by rw [Jd (by rw [q2]; show 35+1<=37; omega),q2]
   rw [fX,nr,h2,ho,WcP,cY (by omega),h2,ho,fj (c:=Fj os[i]) (by simp [hio]),h3,zaX (by omega) hsn hs hb];refine congr (congrArg _ ?_) ?_
   ·rw [cM,up (by omega)]
   ·rw [bQ (by rw [T5]; omega),NY,zar,h1 L (by omega),cM,bQ ⟨by rw [iQ,hh],by omega⟩,bQ ⟨rfl,by rw [Jd (by rw [iQ,hh]; decide)]; decide⟩,zmu hh,cM,h2,ho,fj (c:=Fj os[i]) (by simp [hio]),hr,bQ ⟨hp,by omega⟩,
     show (Wad 32 (QQa (0:Int))++[(QQc (0:Int)),(QQe (0:Int)),(V.sl 1 ([]:Ls)),(QQe (0:Int)),(V.sc (.bool false))])=z37 from rfl,
     bQ ⟨rfl,by rw [q1]; omega⟩,bQ ⟨rfl,by rw [q2]; omega⟩,bQ ⟨rfl,by rw [q3]; omega⟩,zmg hh,cM,bQ ⟨Va hh _ _ _ _,by omega⟩,mc (new:=ZV h (Wbf .u32 (i:Int)) os[i] x (c==0)) (by rw [Va hh]; rfl),cM,bQ (by rw [Va hh]; omega),WbR (by rw [Va hh]; omega),bQ ⟨Va hh _ _ _ _,by omega⟩,zl0 hh,cM,rL,g3 L (by omega),ip,cM,up (by omega)]
  cases hq:ME scs os[i].2 with
  | false=>
   rcases OH hs hsn ht ho hos b8 c m (i+1) (by omega) l hl (by omega) with ⟨l2,e2,k1,k2,L2,k3⟩ | ⟨l2,k1,k2,L2,k3⟩
   ·refine .inl ⟨l2,e2,k1,k2,20000000+L1+L2,λL hL n hn Y kr kx=>?_⟩;obtain ⟨n,rfl⟩:∃ k,n=k+1:=⟨n-1,by omega⟩;rw [step L (by omega),hq,Bool.not_false,ii,k3 L (by omega) n (by omega)]
   ·refine .inr ⟨l2,k1,by omega,20000000+L1+L2,λL hL n hn Y kr kx=>?_⟩;obtain ⟨n,rfl⟩:∃ k,n=k+1:=⟨n-1,by omega⟩;rw [step L (by omega),hq,Bool.not_false,ii,k3 L (by omega) n (by omega)]
  | true=>
   by_cases he:e1=0
   ·rcases OH hs hsn ht ho hos b8 c m (i+1) (by omega) l1 g1 (by omega) with ⟨l2,e2,k1,k2,L2,k3⟩ | ⟨l2,k1,k2,L2,k3⟩
    ·refine .inl ⟨l2,e2,k1,k2,20000000+L1+L2,λL hL n hn Y kr kx=>?_⟩;obtain ⟨n,rfl⟩:∃ k,n=k+1:=⟨n-1,by omega⟩;rw [step L (by omega),hq,WcQ,eI,if_pos he,k3 L (by omega) n (by omega)]
    ·refine .inr ⟨l2,k1,by omega,20000000+L1+L2,λL hL n hn Y kr kx=>?_⟩;obtain ⟨n,rfl⟩:∃ k,n=k+1:=⟨n-1,by omega⟩;rw [step L (by omega),hq,WcQ,eI,if_pos he,k3 L (by omega) n (by omega)]
   ·refine .inl ⟨[],e1,by simp,rfl,20000000+L1,λL hL n hn Y kr kx=>?_⟩;obtain ⟨n,rfl⟩:∃ k,n=k+1:=⟨n-1,by omega⟩;rw [step L (by omega),hq,WcQ,eI,if_neg he]; rfl
theorem zhT(hd:∀ b∈due,ed b)(hdn:due.length<=10000000){t:TxS}(ht:TxSOk t)(b8:List V)(sc:Ls)(i:Nat){l:List OwT}(hl:∀ w∈l,OwOk w)(hn:l.length<=1000000):∃ l':List OwT,(∀ w∈l',OwOk w)/\l'.length=l.length/\∀ (L:Nat),20000000<=L->∀ (Y:Type) (kx:Dd Y),
  jb bX bP cx cj L kx L (l.map cH) (fi due) sc x (i:Int) 0 b8 (txr t)=kx (l'.map cH) (fi due) sc x (i:Int) b8 (txr t):=by
 have h1:∀ {Y:Type} (k:Ls->Option Y),cLd 35 (txr t) 1 k=k [ipt t++t.r]:=λk=>zkw t k;have hone:((([ipt t++t.r]:Ls).length:Nat):Int)=1:=rfl;by_cases h0:i=0
 ·subst h0;refine ⟨l,hl,rfl,λL hL Y kx=>?_⟩;obtain ⟨n,rfl⟩:∃ k,L=k+1:=⟨L-1,by omega⟩;rw [jb,lu,h1,hone,cY (by omega),di (by omega)]
 ·let v:OwT:=⟨t.h,t.ix,0,[],0,false,0⟩
  obtain ⟨l',g1,g2,g3⟩:=zhc hl hn (v:=v) ht.hl hd hdn x;refine ⟨l',g1,g2,λL hL Y kx=>?_⟩;obtain ⟨n,rfl⟩:∃ k,L=k+2:=⟨L-2,by omega⟩;have g:=λ(k:Ls->Option Y)=>g3 (n+2) hL Y k;have hv:WcL 33 (ipt t++t.r)=ic v:=ze1 ht;rw [jb,lu,h1,hone,cY (by omega),cY (by omega),h1,zW (by decide) (c:=ipt t++t.r) rfl,hv,g,cM,jb,lu,h1,hone,di (by decide)]
end
end
section
variable {s:ScT}
variable {Y:Type}
theorem zkQ(t:TxS):cq [(QQc (0:Int)),(V.gs 35 ([]:Ls)),(V.gs 2 ([]:Ls)),(QQc (0:Int))] 0 (WcL 4 (txr t))=txr t:=rfl
section
variable {due scs:List (List Int)} {x:Int}
theorem X7(hd:∀ b∈due,ed b)(hdn:due.length<=10000000)(hs:∀ b∈scs,ed b)(hsn:scs.length<=10000000){hdr:List V}(hh:hdr.length=68){tl:List TxS}(ht:∀ t∈tl,TxSOk t)(ht4:tl.length<=4):∀ (m i:Nat),i+m=tl.length->∀ (l:List OwT),(∀ w∈l,OwOk w)->l.length<=5000+2*i ->
  (∃ (l':List OwT) (e:Int),(∀ w∈l',OwOk w)/\l'.length=0/\Fin2 λL=>∀ (n:Nat),m<n->∀ (Y:Type) (kx:Ls->Option Y) (kr:Ls->Int->Option Y),
   i8 bX bP cx cj L kx kr n (l.map cH) (fi due) (fi scs) x (i:Int) (hdr++[V.sl 4 (tl.map txr)])=kr (l'.map cH) e) ∨
  (∃ l':List OwT,(∀ w∈l',OwOk w)/\l'.length<=5008/\Fin2 λL=>∀ (n:Nat),m<n->∀ (Y:Type) (kx:Ls->Option Y) (kr:Ls->Int->Option Y),
   i8 bX bP cx cj L kx kr n (l.map cH) (fi due) (fi scs) x (i:Int) (hdr++[V.sl 4 (tl.map txr)])=kx (l'.map cH))
 | 0,i,hi,l,hl,hn=>by
  have hb:(hdr++[V.sl 4 (tl.map txr)])[68]?=some (V.sl 4 (tl.map txr)):=by
   rw [Wal (by omega),hh]; rfl
  refine .inr ⟨l,hl,by omega,0,λL _ n hn Y kx kr=>?_⟩;obtain ⟨n,rfl⟩:∃ k,n=k+1:=⟨n-1,by omega⟩;rw [i8,ph,tM,jZ hb,WcP,di (by omega)]
 | m+1,i,hi,l,hl,hn=>by
  have hb:(hdr++[V.sl 4 (tl.map txr)])[68]?=some (V.sl 4 (tl.map txr)):=by
   rw [Wal (by omega),hh]; rfl
  have hit:i<tl.length:=by omega
  have hti:=ht _ (WaV hit);obtain ⟨os,ho,hos⟩:=zjj hti;have hos2:=hos.n;obtain ⟨l1,g1,g2,g3⟩:=zhT (x:=x) hd hdn hti (hdr++[V.sl 4 (tl.map txr)]) (fi scs) i hl (by omega);have step:∀ (L:Nat),20000000<=L->∀ (n:Nat) (Y:Type) (kx:Ls->Option Y) (kr:Ls->Int->Option Y),i8 bX bP cx cj L kx kr (n+1) (l.map cH) (fi due) (fi scs) x (i:Int) (hdr++[V.sl 4 (tl.map txr)]) =
    fX bX bP cx cj L (λp10 p11=>oL bX bP cx cj L p10 p11 kr) (λp0 p1 p2 p4 p12 b8=>mG bX bP cx cj L p0 p1 p2 p4 p12 b8 (λp0 p1 p2 p4 p12 b8=>i8 bX bP cx cj L kx kr n p0 p1 p2 p4 p12 b8)) L (l1.map cH) (fi due) (fi scs) x (i:Int) ((0:Nat):Int) (hdr++[V.sl 4 (tl.map txr)]) (txr tl[i]):=by
   intro L hL n Y kx kr;rw [i8,ph,tM,jZ hb,WcP,cY (by omega),jZ hb,fj (eH hit),bQ ⟨rfl,by omega⟩,zkQ,cM];refine (g3 L hL Y _).trans ?_;rfl
  rcases OH (x:=x) (due:=due) hs hsn hti ho hos (hdr++[V.sl 4 (tl.map txr)]) (i:Int) os.length 0 (by omega) l1 g1 (by omega) with ⟨l2,e2,k1,k2,L2,k3⟩ | ⟨l2,k1,k2,L2,k3⟩
  ·refine .inl ⟨l2,e2,k1,k2,20000000+L2,λL hL n hn Y kx kr=>?_⟩;obtain ⟨n,rfl⟩:∃ k,n=k+1:=⟨n-1,by omega⟩;rw [step L (by omega),k3 L (by omega) L (by omega)]; rfl
  ·have next:∀ (L:Nat),20000000+L2<=L->∀ (n:Nat) (Y:Type) (kx:Ls->Option Y) (kr:Ls->Int->Option Y),i8 bX bP cx cj L kx kr (n+1) (l.map cH) (fi due) (fi scs) x (i:Int) (hdr++[V.sl 4 (tl.map txr)]) =
     i8 bX bP cx cj L kx kr n (l2.map cH) (fi due) (fi scs) x ((i+1:Nat):Int) (hdr++[V.sl 4 (tl.map txr)]):=by
    intro L hL n Y kx kr;rw [step L (by omega),k3 L (by omega) L (by omega),mG,cM,up (by omega)]
   rcases X7 hd hdn hs hsn hh ht ht4 m (i+1) (by omega) l2 k1 (by omega) with ⟨l3,e3,q1,q2,L3,q3⟩ | ⟨l3,q1,q2,L3,q3⟩
   ·refine .inl ⟨l3,e3,q1,q2,20000000+L2+L3,λL hL n hn Y kx kr=>?_⟩;obtain ⟨n,rfl⟩:∃ k,n=k+1:=⟨n-1,by omega⟩;rw [next L (by omega),q3 L (by omega) n (by omega)]
   ·refine .inr ⟨l3,q1,q2,20000000+L2+L3,λL hL n hn Y kx kr=>?_⟩;obtain ⟨n,rfl⟩:∃ k,n=k+1:=⟨n-1,by omega⟩;rw [next L (by omega),q3 L (by omega) n (by omega)]
theorem zjc(hd:∀ b∈due,ed b)(hdn:due.length<=10000000)(hs:∀ b∈scs,ed b)(hsn:scs.length<=10000000){hdr:List V}(hh:hdr.length=68){tl:List TxS}(ht:∀ t∈tl,TxSOk t)(ht4:tl.length<=4){l:List OwT}(hl:∀ w∈l,OwOk w)(hn:l.length<=4096) :
  ∃ (l':List OwT) (e:Int),(∀ w∈l',OwOk w)/\l'.length<=4096/\Fin2 λL=>∀ (Y:Type) (k:Ls->Int->Option Y),gT Y L (l.map cH) (fi due) (fi scs) (hdr++[V.sl 4 (tl.map txr)]) x k=k (l'.map cH) e:=by
 rcases X7 (x:=x) hd hdn hs hsn hh ht ht4 tl.length 0 (by omega) l hl (by omega) with ⟨l2,e2,k1,k2,L2,k3⟩ | ⟨l2,k1,k2,L2,k3⟩
 ·refine ⟨l2,e2,k1,by omega,L2+10,λL hL Y k=>?_⟩;simp only [gT,te,wz];exact (k3 L (by omega) L (by omega) Y _ _).trans rfl
 ·by_cases hc:((l2.length:Nat):Int)>4096
  ·refine ⟨[],380,by simp,by simp,L2+10,λL hL Y k=>?_⟩;simp only [gT,te,wz];refine (k3 L (by omega) L (by omega) Y _ _).trans ?_;rw [rq,WcP,cY hc]; rfl
  ·refine ⟨l2,0,k1,by omega,L2+10,λL hL Y k=>?_⟩;simp only [gT,te,wz];refine (k3 L (by omega) L (by omega) Y _ _).trans ?_;rw [rq,WcP,di hc,bQ (by simp [cN]; omega),WcS,cM]
end
theorem zgh(hs:ScOk s)(r:Int):(∀ b∈B7 r s.tk,ed b)/\(B7 r s.tk).length<=1000:=by
 refine ⟨λb hb=>?_,Nat.le_trans (zgU r s.tk) hs.tl⟩;simp only [B7,List.mem_map,List.mem_filter] at hb;obtain ⟨t,⟨ht,_⟩,rfl⟩:=hb;exact (hs.tk t ht).s
theorem zig(hs:ScOk s){x:Int}(hx:0<=x/\x<=1000){b:List V}(hb:∀ N W,GL N W vB b):∃ (s':ScT) (e:Int),ScOk s'/\Fin2 λL=>∀ (Y:Type) (k:List V->Int->Option Y),dD Y L (eU s) x b k=k (eU s') e:=by
 obtain ⟨e0,_,h0⟩:=zjw hs x;have htl:=hs.tl;have hol:=hs.ol;have z:([(V.sl 3 ([]:Ls)),(V.sl 38 ([]:Ls))]:List V)=eU ⟨[],[]⟩:=rfl;have hbl:b.length=69:=(hb 0 (λ_=>0)).1.symm;have hbd:b.map V.ag=b:=Km (by rfl) (hb 0 (λ_=>0));have hb69:WcL 69 b=b:=WbR (by omega);by_cases he0:e0=0;rotate_left
 ·refine ⟨⟨[],[]⟩,e0,uq,2000000,λL hL Y k=>?_⟩;simp only [dD,qK,s_c,s_d,z];rw [h0 L hL,ip,if_neg he0,cM,bQ ⟨trivial,rfl,by decide⟩]
 obtain ⟨e1,_,L1,h1⟩:=zbV hb;by_cases he1:e1=0;rotate_left
 ·refine ⟨⟨[],[]⟩,e1,uq,2000000+L1,λL hL Y k=>?_⟩;simp only [dD,qK,s_c,s_d,z];rw [h0 L (by omega),ip,if_pos he0,bQ (by omega),hb69,hbd,h1 L (by omega),ip,if_neg he1,cM,bQ ⟨trivial,rfl,by decide⟩]
 obtain ⟨d1,d2⟩:=zgh hs (nX s.tk);obtain ⟨hdr,tl,rfl,q1,_,q2,_,q3⟩:=ZJ hb;obtain ⟨ow,e2,g1,g2,L2,g3⟩:=zjc (x:=x) d1 (by omega) d1 (by omega) q1 q2 q3 hs.ow hol;by_cases he2:e2=0;rotate_left
 ·refine ⟨⟨[],[]⟩,e2,uq,2000000+L1+L2,λL hL Y k=>?_⟩;simp only [dD,qK,s_c,s_d,z];rw [h0 L (by omega),ip,if_pos he0,bQ (by omega),hb69,hbd,h1 L (by omega),ip,if_pos he1,s_1,Ov (by omega) (by omega),Ov (by omega) (by omega),bQ (by omega),g3 L (by omega),ip,if_neg he2,cM,bQ ⟨trivial,rfl,by decide⟩]
 ·obtain ⟨tk,t1,t2,t3⟩:=zk5 hs (x:=x) (by omega);refine ⟨⟨tk,ow⟩,0,⟨t1,by show tk.length<=1000; omega,g1,g2⟩,2000000+L1+L2,λL hL Y k=>?_⟩;simp only [dD,qK,s_c,s_d,z];rw [h0 L (by omega),ip,if_pos he0,bQ (by omega),hb69,hbd,h1 L (by omega),ip,if_pos he1,s_1,Ov (by omega) (by omega),Ov (by omega) (by omega),bQ (by omega),g3 L (by omega),ip,if_pos he2,t3 L (by omega),bQ (show (eU _).length=2 from rfl),D6,DP,cM,bQ ⟨trivial,rfl,by decide⟩];rfl
end
end Go.Proofs.YtipklgbboecciaaGreat
