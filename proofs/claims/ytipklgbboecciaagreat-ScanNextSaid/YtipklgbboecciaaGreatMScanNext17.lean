/- Part 17 of the proof of ScanNext: an abstract machine over plain values, its soundness, and the functions of the program on plain values. -/
import Derived.Test.YtipklgbboecciaaGreatMScanNext16
namespace Go.Proofs.YtipklgbboecciaaGreat
set_option maxRecDepth 100000
set_option linter.unusedVariables false
set_option linter.unusedSimpArgs false
open List renaming take_of_length_le->WbR,length_map->WcO,replicate->Wad,getElem_mem->WaV,getElem?_append_right->Wal,length->WcJ,take->WcK,nil_append->WcQ,drop->WcM,mem_cons->WbL,length_nil->WcT,mem_append->Wbt,mem_of_mem_take->WaI,mem_of_mem_drop->WaP,mem_cons_of_mem->WcB,mem_singleton->WcF,mem_cons_self->Wcy
open IntKind renaming wrap->Wbf
open Int renaming toNat->WcL
open Bool renaming not_true->WcR
section
variable {v:V}{n:Int}{t:TxS}{cs:List CoT}
variable {Y:Type}
theorem zbP(sz:Nat)(l:Ls)(k:Ls->Option Y):aGs sz (.gs sz l) k=k l:=by show chk (sz=sz) (k l)=k l; exact bT rfl _
theorem zaE{a b:A}(h:∀ N W,G N W (.ah [a,b]) v):∃ x y,v=.ah [x,y]/\(∀ N W,G N W a x)/\∀ N W,G N W b y:=by
 have key:∀ N W,∃ vs,v=.ah vs/\GL N W [a,b] vs:=by
  intro N W;have h:=h N W;generalize hc:A.ah [a,b]=c at h;cases h <;> first | (cases hc; done) | skip
  rename_i vs hl hh;cases hc;exact ⟨vs,rfl,hl,hh⟩
 obtain ⟨vs,rfl,h0⟩:=key 0 (λ_=>0);obtain ⟨x,r,rfl,_,h0⟩:=hY h0;obtain ⟨y,r,rfl,_,h0⟩:=hY h0;obtain rfl:=ta h0;refine ⟨x,y,rfl,λN W=>?_,λN W=>?_⟩
 ·obtain ⟨vs,e,h⟩:=key N W;cases e;exact h.2 0 _ _ rfl rfl
 ·obtain ⟨vs,e,h⟩:=key N W;cases e;exact h.2 1 _ _ rfl rfl
theorem X2(h:∀ N W,G N W vy v):∃ l,v=.agg (row .u8 l)/\l.length=32/\dG l:=by
 obtain ⟨vs,rfl,h1⟩:=Cq (h 0 (λ_=>0));obtain ⟨l,rfl,hl,hb⟩:=JS h1;exact ⟨l,rfl,hl,hb⟩
theorem zdJ{hd:List V}(hh:∀ N W,G N W DW (.agg hd)):∃ l,l.length=32/\dG l/\Fin2 λL=>∀ (Y:Type) k,co Y L hd k=k (row .u8 l):=by
 obtain ⟨v,g,L0,h⟩:=vw (cH (D':=300) (by decide) EP) (ws:=[.agg hd]) (λN W=>gl1 (hh N W));obtain ⟨l,rfl,hl,hb⟩:=X2 g;exact ⟨l,hl,hb,L0,λL hL Y k=>(h L hL Y _).trans (Zr _ _)⟩
theorem zay{p l b:List V}(hp:∀ N W,G N W mN (.agg p))(hl:∀ N W,G N W pD (.agg l))(hb:∀ N W,G N W zZ (.agg b)):∃ e,(0<=e/\e<=999)/\Fin2 λL=>∀ (Y:Type) k,cj Y L p l b k=k e:=by
 obtain ⟨v,g,L0,h⟩:=vw (cH (D':=300) (by decide) Zz) (ws:=[.agg p,.agg l,.agg b]) (λN W=>.cons (hp N W) (.cons (hl N W) (gl1 (hb N W))));obtain ⟨e,rfl,he⟩:=qh (g 0 (λ_=>0));exact ⟨e,he,L0,λL hL Y k=>(h L hL Y _).trans (EZ _ _ _)⟩
theorem Xi{p:List V}(hp:∀ N W,G N W mN (.agg p))(hn:-9223372036854775808<=n/\n<=9223372036854775807):∃ e,Fin2 λL=>∀ (Y:Type) k,bV Y L p n k=k e:=by
 obtain ⟨v,g,L0,h⟩:=vw (cH (D':=300) (by decide) K4) (ws:=[.agg p,.sc (.int .i64 n)]) (λN W=>.cons (hp N W) (gl1 (.iv .i64 _ _ n hn)));obtain ⟨e,rfl,he⟩:=qh (g 0 (λ_=>0));exact ⟨e,L0,λL hL Y k=>(h L hL Y _).trans (EZ _ _ _)⟩
theorem ZK(h:TxSOk t)(N:Nat)(W:Nat->Int):G N W wm (.agg (txr t)):=.agg _ _ (h.g N W).1 (h.g N W).2
theorem Xj(ht:TxSOk t){c:CoT}(hc:CoOk c)(hn:-9223372036854775808<=n/\n<=9223372036854775807):∃ f e,(-9223372036854775808<=f/\f<=9223372036854775807)/\(0<=e/\e<=999)/\Fin2 λL=>∀ (Y:Type) k,cg Y L (txr t) [dJ c] n k=k f e:=by
 obtain ⟨v,g,L0,h⟩:=vw (cH (D':=300) (by decide) VL) (ws:=[.agg (txr t),.sl 37 [dJ c],.sc (.int .i64 n)]) (λN W=>.cons (ZK ht N W) (.cons (OS (q:=0) (by simp) (by simp) (λr hr=>by rw [WcF.1 hr]; exact hc.g N W)) (gl1 (.iv .i64 _ _ n hn))));obtain ⟨x,y,rfl,h1,h2⟩:=zaE g;obtain ⟨f,rfl,hf⟩:=qh (h1 0 (λ_=>0));obtain ⟨e,rfl,he⟩:=qh (h2 0 (λ_=>0));refine ⟨f,e,hf,he,L0,λL hL Y k=>(h L hL Y _).trans ?_⟩;simp only [AT2,AI,EZ]
theorem zgm(g:∀ N W,G N W (.ah [.ai 1 37 0 n oC,sX]) v):∃ (cs:List CoT) (e:Int),v=.ah [.gs 37 (cs.map dJ),.sc (.int .i64 e)]/\(∀ c∈cs,CoOk c)/\(cs.length:Int)<=n/\(0<=e/\e<=999):=by
 obtain ⟨x,y,rfl,h1,h2⟩:=zaE g;obtain ⟨es,rfl,_,hn,hr⟩:=Lj (by omega) h1;obtain ⟨l,rfl,hl⟩:=Oo hr;obtain ⟨e,rfl,he⟩:=qh (h2 0 (λ_=>0));exact ⟨l,e,rfl,hl,by simpa using hn,he⟩
theorem Yy(ht:TxSOk t)(hc:∀ c∈cs,CoOk c)(hn:-9223372036854775808<=n/\n<=9223372036854775807){j:Nat}(hj:j<=3)(hl:cs.length<=100000+2*j) :
  ∃ (cs':List CoT) (e:Int),(∀ c∈cs',CoOk c)/\cs'.length<=100000+2*(j+1)/\(0<=e/\e<=999)/\Fin2 λL=>∀ (Y:Type) k,cw Y L (cs.map dJ) (txr t) n k=k (cs'.map dJ) e:=by
 have fin:∀ {i:Inst} {m:Int},d9 (cN rows) 300 i->i.g=481->i.args=[q7 (100000+2*j:Nat),wm,oO]->i.res=.ah [.ai 1 37 0 m oC,sX]->m<=(100000+2*(j+1):Nat)->∃ (cs':List CoT) (e:Int),(∀ c∈cs',CoOk c)/\cs'.length<=100000+2*(j+1)/\(0<=e/\e<=999)/\Fin2 λL=>∀ (Y:Type) k,cw Y L (cs.map dJ) (txr t) n k=k (cs'.map dJ) e:=by
  intro i m hi hg ha hres hm;obtain ⟨v,g,L0,h⟩:=vw hi (ws:=[.sl 37 (cs.map dJ),.agg (txr t),.sc (.int .i64 n)]) (λN W=>by
   rw [ha];exact .cons (Lt hc (by exact_mod_cast hl)) (.cons (ZK ht N W) (gl1 (.iv .i64 _ _ n hn))))
  rw [hres] at g;obtain ⟨cs',e,rfl,q1,q2,q3⟩:=zgm g;rw [hg] at h;refine ⟨cs',e,q1,by omega,q3,L0,λL hL Y k=>(h L hL Y _).trans ?_⟩;simp only [AT2,AI,AGs,EZ,zbP]
 match j,hj with
 | 0,_=>exact fin (cH (by decide) Ev) rfl rfl rfl (by decide)
 | 1,_=>exact fin (cH (by decide) KY) rfl rfl rfl (by decide)
 | 2,_=>exact fin (cH (by decide) Uo) rfl rfl rfl (by decide)
 | 3,_=>exact fin (cH (by decide) zaQ) rfl rfl rfl (by decide)
theorem Xw(ht:TxSOk t)(hn:-9223372036854775808<=n/\n<=9223372036854775807):∃ cs:List CoT,(∀ c∈cs,CoOk c)/\cs.length<=2/\Fin2 λL=>∀ (Y:Type) k,bW Y L (txr t) n k=k (cs.map dJ):=by
 obtain ⟨v,g,L0,h⟩:=vw (cH (D':=300) (by decide) s8) (ws:=[.agg (txr t),.sc (.int .i64 n)]) (λN W=>.cons (ZK ht N W) (gl1 (.iv .i64 _ _ n hn)));obtain ⟨es,rfl,_,hm,hr⟩:=Lj (by omega) g;obtain ⟨l,rfl,hl⟩:=Oo hr;refine ⟨l,hl,by simp at hm; omega,L0,λL hL Y k=>(h L hL Y _).trans ?_⟩;exact zbP 37 _ _
theorem T6(hc:∀ c∈cs,CoOk c)(hl:cs.length<=100008):∃ n,Fin2 λL=>∀ (Y:Type) k,ch Y L (cs.map dJ) k=k n:=by
 obtain ⟨v,g,L0,h⟩:=vw (cH (D':=300) (by decide) Y0) (ws:=[.sl 37 (cs.map dJ)]) (λN W=>gl1 (Lt hc (by omega)));obtain ⟨n,rfl,_⟩:=qh (g 0 (λ_=>0));exact ⟨n,L0,λL hL Y k=>(h L hL Y _).trans (EZ _ _ _)⟩
end
section
variable {L:Nat}{c:CoT}{t:TxS}
variable {Y:Type}
theorem zhq(hL:3<=L){s:Ls}(hs:s.length<=1000)(k:Ls->Option Y):f0 Y L [[V.sl 1 s]] k=k s:=by
 obtain ⟨n,rfl⟩:∃ n,L=n+3:=⟨L-3,by omega⟩;have hj:∀ (k:Ls->Option Y),cA Y (n+3) [] s k=k s:=by
  intro k;simp only [cA,ue,cJ,WcT];rw [kJ (by omega) (by omega),bT (by simp only [cy]; omega),bT (by simp [cy]),
   List.replicate_zero,WcQ,bT (by simp only [WcT,cy]; omega),WcQ]
 simp only [f0,yG,Dx,o9,u7,cJ];rw [du (by simp),wc (by decide) (c:=[V.sl 1 s]) rfl,rm rfl,hj,dt (by exact (by decide:¬ Wbf .i64 ((0:Int)+1)<((1:Nat):Int)))];rfl
theorem zcF(c:CoT)(hl:c.h.length=32)(L:Nat)(k:List V->Option Y):bX Y L (dJ c) k=f0 Y L [[V.sl 1 c.s]] (λv=>k (dJ { c with s:=v })):=by
 obtain ⟨h,ix,val,s,ht,cb⟩:=c
 match h,hl with
 | [x0,x1,x2,x3,x4,x5,x6,x7,x8,x9,x10,x11,x12,x13,x14,x15,x16,x17,x18,x19,x20,x21,x22,x23,x24,x25,x26,x27,x28,x29,x30,x31],_=>rfl
theorem zeb(hc:CoOk c)(hL:3<=L)(k:List V->Option Y):bX Y L (dJ c) k=k (dJ c):=by
 rw [zcF c hc.hl,zhq hL (by rw [hc.sl]; omega)]
theorem zd5(h:c.h.length=32):cD (Wad 32 (QQa (0:Int))++[(QQc (0:Int)),(QQe (0:Int)),(V.gs 1 ([]:Ls)),(QQe (0:Int)),(V.sc (.bool false))]) 0 (dJ c)=dJ c:=j9 (by rw [wl h]; rfl)
theorem zgj(h:c.h.length=32):cD (Wad 32 (QQa (0:Int))++[(QQc (0:Int)),(QQe (0:Int)),(V.sl 1 ([]:Ls)),(QQe (0:Int)),(V.sc (.bool false))]) 0 (dJ c)=dJ c:=j9 (by rw [wl h]; rfl)
theorem zhh(h:c.h.length=32):cz 37 1 (dJ c)=[dJ c]:=by
 simp only [cz,HV h]
theorem zd9(t:TxS):cD [(QQc (0:Int)),(V.gs 35 ([]:Ls)),(V.gs 2 ([]:Ls)),(QQc (0:Int))] 0 (WcK 4 (txr t))=txr t:=rfl
theorem zgH(t:TxS)(k:Ls->Option Y):cLd 35 (txr t) 1 k=k [ipt t++t.r]:=j4 rfl k
theorem QH(ht:TxSOk t):(ipt t++t.r).length=35:=by rw [List.length_append,XZ ht.hl,ht.rl]
theorem zhL(ht:TxSOk t):cD (Wad 32 (QQa (0:Int))++[(QQc (0:Int)),(QQc (0:Int)),(V.gs 1 ([]:Ls))]) 0 (WcK 35 (ipt t++t.r))=ipt t++t.r:=by
 rw [WbR (by rw [QH ht]; omega)];exact j9 (by rw [QH ht]; rfl)
theorem zbg(ht:TxSOk t):WcK 33 (ipt t++t.r)=row .u8 t.h++[V.sc (.int .u32 t.ix)]:=by
 rw [<- XZ ht.hl,List.take_left]; rfl
theorem zaO{p:List V}{mat:Int}(hp:p[79]?=some (QQe mat)){cs:List CoT}(hc:∀ c∈cs,CoOk c)(hn:cs.length<=1000000)(ht:TxSOk t)(n:Int) :
  ∃ (out:List CoT) (e:Int),(∀ L,2000000<=L->∀ (Y:Type) (k:Ls->Int->Option Y),ce Y L p (cs.map dJ) (txr t) n k=k (out.map dJ) e)/\(0<=e/\e<=999)/\((e≠0/\out=[])∨(e=0/\∃ c∈cs,out=[c])):=by
 have hf:∀ (L:Nat),2000000<=L->∀ (Y:Type) (k:Int->Option Y),bP Y L (cs.map dJ) (row .u8 t.h++[V.sc (.int .u32 t.ix)]) k=k (lH (λc=>pf c t.h t.ix) cs 0):=λL hL Y k=>XL hL (λc h=>(hc c h).hl) hn ht.hl k;have e1:∀ (L:Nat),2000000<=L->∀ (Y:Type) (k:Ls->Int->Option Y),ce Y L p (cs.map dJ) (txr t) n k =
   (ifb (decide (lH (λc=>pf c t.h t.ix) cs 0<0)) (k [] 101) (idx (cs.map dJ) (lH (λc=>pf c t.h t.ix) cs 0) λc4=>bX Y L (List.map V.ag (WcK 37 c4)) λv5=>
    chk ((WcJ v5)=37/\0+37<=37) (
    chk ((WcJ ([]:Ls)+WcJ (cz 37 1 (cD (Wad 32 (QQa (0:Int))++[(QQc (0:Int)),(QQe (0:Int)),(V.sl 1 ([]:Ls)),(QQe (0:Int)),(V.sc (.bool false))]) 0 v5)))*88<=cy/\WcJ ([]:Ls)+WcJ (cz 37 1 (cD (Wad 32 (QQa (0:Int))++[(QQc (0:Int)),(QQe (0:Int)),(V.sl 1 ([]:Ls)),(QQe (0:Int)),(V.sc (.bool false))]) 0 v5))<=cy) (
    jE bP bX L n ([]++(cz 37 1 (cD (Wad 32 (QQa (0:Int))++[(QQc (0:Int)),(QQe (0:Int)),(V.sl 1 ([]:Ls)),(QQe (0:Int)),(V.sc (.bool false))]) 0 v5))) p k)))):=by
  intro L hL Y k;obtain ⟨m,rfl⟩:∃ m,L=m+2:=⟨L-2,by omega⟩;simp only [ce,vQ,BT,zgH];rw [oF,sU,du (by simp),wc (by decide) (c:=ipt t++t.r) rfl,bT ⟨by rw [WbR (by rw [QH ht]; omega),QH ht],by omega⟩,zhL ht,cJ,bT (by rw [QH ht]; omega),zbg ht,hf _ hL];congr 1
 rcases w7 (λc=>pf c t.h t.ix) cs 0 with ⟨e,_⟩ | ⟨i,hi,e,_⟩
 ·refine ⟨[],101,λL hL Y k=>?_,by omega,.inl ⟨by omega,rfl⟩⟩;rw [e1 L hL,e,du (by omega)]; rfl
 ·have hci:=hc _ (WaV hi);have e2:∀ (L:Nat),2000000<=L->∀ (Y:Type) (k:Ls->Int->Option Y),ce Y L p (cs.map dJ) (txr t) n k=jE bP bX L n [dJ cs[i]] p k:=by
   intro L hL Y k;rw [e1 L hL,e,dt (by omega),Nat.zero_add,fe (fm hi),HV hci.hl,zcA,zeb hci (by omega),bT ⟨wl hci.hl,by omega⟩,zgj hci.hl,zhh hci.hl,bT (by simp [cy]),WcQ]
  have e3:∀ (L:Nat),2000000<=L->∀ (Y:Type) (k:Ls->Int->Option Y),ce Y L p (cs.map dJ) (txr t) n k=ifb cs[i].cb (ifb (decide (Wbf .i64 (n-cs[i].ht)<mat)) (k [] 230) (k [dJ cs[i]] 0)) (k [dJ cs[i]] 0):=by
   intro L hL Y k;rw [e2 L hL];obtain ⟨m,rfl⟩:∃ m,L=m+2:=⟨L-2,by omega⟩;have h36:(dJ cs[i])[36]?=some (V.sc (.bool cs[i].cb)):=YA hci.hl 3;have h35:(dJ cs[i])[35]?=some (QQe cs[i].ht):=YA hci.hl 2;simp only [jE,qV];rw [kl,nV,du (by simp),wc (by decide) (c:=dJ cs[i]) rfl,HV hci.hl,bT ⟨wl hci.hl,by omega⟩,zd5 hci.hl,cJ,zfj h36];have hx:∀ (x:Int),x=Wbf .i64 ((0:Int)+1)->kl bP bX (m+2) (λp8 p9=>oY bP bX (m+2) p8 p9 k) (λp10=>pR bP bX (m+2) p10 k) (m+1) n [dJ cs[i]] [dJ cs[i]] ((WcJ [dJ cs[i]]:Nat):Int) x p=k [dJ cs[i]] 0:=by
    rintro x rfl
    rw [kl,nV,dt (by exact (by decide:¬ Wbf .i64 ((0:Int)+1)<((1:Nat):Int)))]; rfl
   cases cs[i].cb with
   | true=>
    rw [gZ,gZ,eQ h35,cJ,eQ hp];by_cases hm:Wbf .i64 (n-cs[i].ht)<mat
    ·rw [du hm,du hm]; rfl
    ·rw [dt hm,dt hm,cJ,hx _ rfl]
   | false=>rw [eD,eD,cJ,hx _ rfl]
  by_cases hcond:cs[i].cb=true/\Wbf .i64 (n-cs[i].ht)<mat
  ·refine ⟨[],230,λL hL Y k=>?_,by omega,.inl ⟨by omega,rfl⟩⟩;rw [e3 L hL,hcond.1,gZ,du hcond.2]; rfl
  ·refine ⟨[cs[i]],0,λL hL Y k=>?_,by omega,.inr ⟨rfl,_,WaV hi,rfl⟩⟩;rw [e3 L hL];cases hb:cs[i].cb with
   | true=>
    rw [gZ,dt (λh=>hcond ⟨hb,h⟩)]; rfl
   | false=>rfl
end
section
variable {cs:List CoT}
variable {Y:Type}
def ZU:A->Bool
 | .int _ _ | .iv _ _ _ | .bool | .agg _=>true
 | .ak 0 _ _ _ | .ai 0 _ _ _ _ | .am 0 _ _=>true
 | _=>false
theorem zhv{N:Nat}{W:Nat->Int}{a:A}{v:V}(h:G N W a v)(ha:ZU a=true):v.ag=v:=by
 cases h <;> first | rfl | (simp [ZU] at ha; done) | skip
 all_goals
  unfold ZU at ha;split at ha <;> first | rfl | (cases ha; done) | skip
  all_goals first | rfl | (rename_i e; cases e; rfl) | simp_all [mkL]
theorem G7{N:Nat}{W:Nat->Int}:∀ {xs:List A} {vs:List V},xs.all ZU=true->GL N W xs vs->vs.map V.ag=vs
 | [],vs,_,h=>by rw [ta h]; rfl
 | a::xs,vs,ha,h=>by
  obtain ⟨v,r,e,g,h2⟩:=hY h;subst e;rw [List.all_cons,Bool.and_eq_true] at ha;rw [List.map_cons,zhv g ha.1,G7 ha.2 h2]
theorem Zb{L:Nat}(hn:cs.length<=1000000){i:Nat}(hi:i<cs.length)(k:Ls->Option Y):bU Y L (cs.map dJ) (i:Int) k=k ((cs.take i++cs.drop (i+1)).map dJ):=by
 have e2:WcK (cs.length-(i+1)) (WcM (i+1) (cs.map dJ))=WcM (i+1) (cs.map dJ):=WbR (by simp);simp only [bU,xC,cJ,WcO,up (show i<=1000000000 by omega),Int.toNat_natCast,WcQ,WcT,List.drop_zero,Nat.sub_zero];rw [bT (by omega),bT (by simp only [List.length_take,WcO,cy]; omega),bT (by omega),bT (by simp only [List.length_take,List.length_drop,WcO,cy]; omega),e2,List.map_append,List.map_take,List.map_drop]
def zlr:List V:=j6 0 (Wad 32 0) []
def zur:List V:=[V.sl 37 []]
def zb6:List V:=[(QQe (0:Int))]++Wad 32 (QQa (0:Int))++[(V.gs 37 ([]:Ls))]
theorem G1:([(QQe (0:Int))]++Wad 32 (QQa (0:Int))++[(V.sl 37 ([]:Ls))])=zlr:=rfl
theorem He:zlr.length=34:=rfl
theorem HQ(l:List V)(h:l.length=34):cD zb6 0 l=l:=j9 (by rw [h]; rfl)
theorem QS(t:TxS):(txr t).length=4:=rfl
theorem K8(t:TxS):WcK 4 (txr t)=txr t:=rfl
theorem V5(t:TxS):List.map V.ag (txr t)=txr t:=rfl
theorem zcy(hc:∀ c∈cs,CoOk c)(hn:cs.length<=1000000){c:CoT}(hm:c∈cs):∃ cs':List CoT,(∀ c∈cs',CoOk c)/\cs'.length<=cs.length /\
  ∀ (L:Nat),3000000<=L->∀ (Y:Type) (kx:u6 Y) (p12:Int) (p15:Ls) (p17:Int) (p46:Ls) (p47 p48:Int) (b3 b5 b6:List V) (b7:Ls) (ht:Int) (hh:List Int) (us:Ls) (b14:List V),hh.length=32 ->
   e9 cj co bV ce cg cw bW ch bP bU L kx L p12 p15 p17 p46 p47 p48 [dJ c] 1 0 b3 b5 b6 b7 (j6 ht hh (cs.map dJ)) us b14=kx p12 p15 p17 p46 p47 p48 b3 b5 b6 b7 (j6 ht hh (cs'.map dJ)) us b14:=by
 rcases w7 (λx=>pf x c.h c.ix) cs 0 with ⟨_,h⟩ | ⟨i,hi,e,_⟩
 ·have:=h c hm;simp [pf] at this
 ·refine ⟨cs.take i++cs.drop (i+1),λx hx=>?_,by simp; omega,λL hL Y kx p12 p15 p17 p46 p47 p48 b3 b5 b6 b7 ht hh us b14 hhl=>?_⟩
  ·rcases Wbt.1 hx with h | h
   ·exact hc x (WaI h)
   ·exact hc x (WaP h)
  ·have hl:=(hc c hm).hl;obtain ⟨m,rfl⟩:∃ m,L=m+2:=⟨L-2,by omega⟩;rw [e9,hP,du (by decide),wc (by decide) (c:=dJ c) rfl,HV hl,bT ⟨wl hl,by omega⟩,zd5 hl,cJ,Bl hhl,Bl hhl,bT (by rw [wl hl]; omega),TO hl,
    show cpt c=row .u8 c.h++[V.sc (.int .u32 c.ix)] from rfl,XL (by omega) (λx hx=>(hc x hx).hl) hn hl,e,Nat.zero_add,Zb hn hi,bT (by rw [kZ hhl]; omega),Nz hhl,cJ,cJ,e9,hP,dt (by decide)]
section
variable {p:List V} {mat:Int}
theorem Jr(hp:p[79]?=some (QQe mat))(hpl:p.length=80)(hpd:p.map V.ag=p){l:List TxS}(hl:∀ t∈l,TxSOk t)(hll:l.length<=4){ht:Int}(hr:-9223372036854775808<=ht/\ht<=9223372036854775807){hh:List Int}(hhl:hh.length=32) :
  ∀ (m i:Nat),i+m=l.length->∀ (most:Int) (cs us:List CoT),(∀ c∈cs,CoOk c)->cs.length<=100000+2*i->(∀ c∈us,CoOk c)->us.length<=i-1 ->
  (∃ e:Int,(0<=e/\e<=999)/\Fin2 λL=>∀ (n:Nat),m<n->∀ (Y:Type) (kr:Int->List V->List V->Option Y) (kx:jf Y) (b5:List V),eB cj co bV ce cg cw bW ch bP bU L kr kx n most (l.map txr) (l.length:Int) (i:Int) p b5 zb6 [] (j6 ht hh (cs.map dJ)) (us.map dJ)=kr e zlr zur) ∨
  (∃ (most':Int) (cs' us':List CoT),(∀ c∈cs',CoOk c)/\cs'.length<=100008/\(∀ c∈us',CoOk c)/\us'.length<=3/\Fin2 λL=>∀ (n:Nat),m<n->∀ (Y:Type) (kr:Int->List V->List V->Option Y) (kx:jf Y) (b5:List V),eB cj co bV ce cg cw bW ch bP bU L kr kx n most (l.map txr) (l.length:Int) (i:Int) p b5 zb6 [] (j6 ht hh (cs.map dJ)) (us.map dJ)=kx most' b5 zb6 [] (j6 ht hh (cs'.map dJ)) (us'.map dJ))
 | 0,i,hi,most,cs,us,hc,hn,hu,hul=>by
  refine .inr ⟨most,cs,us,hc,by omega,hu,by omega,0,λL _ n hn Y kr kx b5=>?_⟩;obtain ⟨n,rfl⟩:∃ k,n=k+1:=⟨n-1,by omega⟩;rw [eB,iQ,kn,dt (by omega)]
 | m+1,i,hi,most,cs,us,hc,hn,hu,hul=>by
  have hil:i<l.length:=by omega
  have ht1:=hl _ (WaV hil);have hi3:i<=3:=by omega
  by_cases h0:i=0
  ·obtain ⟨cs1,e,hc1,hn1,he,L1,h1⟩:=Yy (n:=ht) ht1 hc hr (j:=i) hi3 hn;have step:∀ (L:Nat),L1<=L->∀ (n:Nat) (Y:Type) (kr:Int->List V->List V->Option Y) (kx:jf Y) (b5:List V),eB cj co bV ce cg cw bW ch bP bU L kr kx (n+1) most (l.map txr) (l.length:Int) (i:Int) p b5 zb6 [] (j6 ht hh (cs.map dJ)) (us.map dJ) =
     if e=0 then eB cj co bV ce cg cw bW ch bP bU L kr kx n most (l.map txr) (l.length:Int) ((i+1:Nat):Int) p b5 zb6 [] (j6 ht hh (cs1.map dJ)) (us.map dJ) else kr e zlr zur:=by
    intro L hL n Y kr kx b5;rw [eB,iQ,kn,du (by omega),fe (fm hil),bT ⟨rfl,by omega⟩,zd9,cJ,dt (by omega),Bl hhl,bT (by rw [QS]; omega),CY,K8,V5,h1 L hL,iN];by_cases he0:e=0
    ·rw [if_pos he0,if_pos he0,bT (by rw [kZ hhl]; omega),Nz hhl,cJ,cJ,up (by omega)]
    ·rw [if_neg he0,if_neg he0,bT ⟨rfl,by decide⟩,G1,HQ _ He,cJ,cJ]; rfl
   by_cases he0:e=0
   ·rcases Jr hp hpl hpd hl hll hr hhl m (i+1) (by omega) most cs1 us hc1 hn1 hu (by omega) with ⟨e2,g1,L2,g2⟩ | ⟨m2,cs2,us2,g1,g2,g3,g4,L2,g5⟩
    ·refine .inl ⟨e2,g1,L1+L2,λL hL n hn Y kr kx b5=>?_⟩;obtain ⟨n,rfl⟩:∃ k,n=k+1:=⟨n-1,by omega⟩;rw [step L (by omega),if_pos he0,g2 L (by omega) n (by omega)]
    ·refine .inr ⟨m2,cs2,us2,g1,g2,g3,g4,L1+L2,λL hL n hn Y kr kx b5=>?_⟩;obtain ⟨n,rfl⟩:∃ k,n=k+1:=⟨n-1,by omega⟩;rw [step L (by omega),if_pos he0,g5 L (by omega) n (by omega)]
   ·refine .inl ⟨e,he,L1,λL hL n hn Y kr kx b5=>?_⟩;obtain ⟨n,rfl⟩:∃ k,n=k+1:=⟨n-1,by omega⟩;rw [step L hL,if_neg he0]
  ·obtain ⟨out,e,h1,he,hout⟩:=zaO hp hc (by omega) ht1 ht;have ky:∀ (L:Nat),3000000<=L->∀ (n:Nat) (Y:Type) (kr:Int->List V->List V->Option Y) (kx:jf Y) (b5:List V),eB cj co bV ce cg cw bW ch bP bU L kr kx (n+1) most (l.map txr) (l.length:Int) (i:Int) p b5 zb6 [] (j6 ht hh (cs.map dJ)) (us.map dJ) =
     if e=0 then cg Y L (txr l[i]) (out.map dJ) ht (λv21 v22=>if v22=0 then e9 cj co bV ce cg cw bW ch bP bU L (λp12 p15 p17 p46 p47 p48 b3 b5 b6 b7_0 b10 b11_0 b14=>gK cj co bV ce cg cw bW ch bP bU L p12 p15 p17 p46 p47 p48 b3 b5 b6 b7_0 b10 b11_0 b14 kr (λp12 p46 p47 p48 b3 b5 b6 b7_0 b10 b11_0=>eB cj co bV ce cg cw bW ch bP bU L kr kx n p12 p46 p47 p48 b3 b5 b6 b7_0 b10 b11_0)) L most (out.map dJ) v21 (l.map txr) (l.length:Int) (i:Int) (out.map dJ) (((out.map dJ).length:Nat):Int) 0 p b5 zb6 [] (j6 ht hh (cs.map dJ)) (us.map dJ) (txr l[i]) else kr v22 zlr zur) else kr e zlr zur:=by
    intro L hL n Y kr kx b5;rw [eB,iQ,kn,du (by omega),fe (fm hil),bT ⟨rfl,by omega⟩,zd9,cJ,du (by omega),bT (by omega),Bl hhl,bT (by rw [QS]; omega),CY,K8,V5,WbR (by omega),hpd,h1 L (by omega),iN];by_cases he0:e=0
    ·rw [if_pos he0,if_pos he0,bT (by rw [QS]; omega),CY];refine congrArg _ (funext λv21=>funext λv22=>?_);rw [iN];by_cases hv:v22=0
     ·rw [if_pos hv,if_pos hv]
     ·rw [if_neg hv,if_neg hv,bT ⟨rfl,by decide⟩,G1,HQ _ He,cJ,cJ]; rfl
    ·rw [if_neg he0,if_neg he0,bT ⟨rfl,by decide⟩,G1,HQ _ He,cJ,cJ]; rfl
   rcases hout with ⟨he0,rfl⟩ | ⟨rfl,c,hcm,rfl⟩
   ·refine .inl ⟨e,he,3000000,λL hL n hn Y kr kx b5=>?_⟩;obtain ⟨n,rfl⟩:∃ k,n=k+1:=⟨n-1,by omega⟩;rw [ky L hL,if_neg he0]
   ·obtain ⟨f,e2,_,he2,L2,h2⟩:=Xj (n:=ht) ht1 (hc c hcm) hr;by_cases hz:e2=0
    ·obtain ⟨cs1,hc1,hn1,h3⟩:=zcy hc (by omega) hcm;obtain ⟨cs2,e3,hc2,hn2,he3,L3,h4⟩:=Yy (n:=ht) ht1 hc1 hr (j:=i) hi3 (by omega);have stepB:∀ (L:Nat),3000000+L2+L3<=L->∀ (n:Nat) (Y:Type) (kr:Int->List V->List V->Option Y) (kx:jf Y) (b5:List V),eB cj co bV ce cg cw bW ch bP bU L kr kx (n+1) most (l.map txr) (l.length:Int) (i:Int) p b5 zb6 [] (j6 ht hh (cs.map dJ)) (us.map dJ) =
       if e3=0 then eB cj co bV ce cg cw bW ch bP bU L kr kx n (Wbf .i64 (most+f)) (l.map txr) (l.length:Int) ((i+1:Nat):Int) p b5 zb6 [] (j6 ht hh (cs2.map dJ)) ((us++[c]).map dJ) else kr e3 zlr zur:=by
      intro L hL n Y kr kx b5;rw [ky L (by omega),if_pos rfl];show cg Y L (txr l[i]) [dJ c] ht _=_;rw [h2 L (by omega),if_pos hz];refine (h3 L (by omega) Y _ most [dJ c] f (l.map txr) (l.length:Int) (i:Int) p b5 zb6 [] ht hh (us.map dJ) (txr l[i]) hhl).trans ?_;rw [gK,cJ,bT (by simp only [WcO,List.length_cons,WcT,cy]; omega),cJ,Bl hhl,bT (by rw [QS]; omega),CY,K8,V5,h4 L (by omega),iN];by_cases he0:e3=0
      ·rw [if_pos he0,if_pos he0,bT (by rw [kZ hhl]; omega),Nz hhl,cJ,cJ,up (by omega),List.map_append]; rfl
      ·rw [if_neg he0,if_neg he0,bT ⟨rfl,by decide⟩,G1,HQ _ He,cJ,cJ]; rfl
     by_cases he0:e3=0
     ·rcases Jr hp hpl hpd hl hll hr hhl m (i+1) (by omega) (Wbf .i64 (most+f)) cs2 (us++[c]) hc2 hn2 (λx hx=>(Wbt.1 hx).elim (hu x) λh=>(WcF.1 h) ▸ hc c hcm) (by simp; omega) with ⟨e4,g1,L4,g2⟩ | ⟨m2,cs3,us3,g1,g2,g3,g4,L4,g5⟩
      ·refine .inl ⟨e4,g1,3000000+L2+L3+L4,λL hL n hn Y kr kx b5=>?_⟩;obtain ⟨n,rfl⟩:∃ k,n=k+1:=⟨n-1,by omega⟩;rw [stepB L (by omega),if_pos he0,g2 L (by omega) n (by omega)]
      ·refine .inr ⟨m2,cs3,us3,g1,g2,g3,g4,3000000+L2+L3+L4,λL hL n hn Y kr kx b5=>?_⟩;obtain ⟨n,rfl⟩:∃ k,n=k+1:=⟨n-1,by omega⟩;rw [stepB L (by omega),if_pos he0,g5 L (by omega) n (by omega)]
     ·refine .inl ⟨e3,he3,3000000+L2+L3,λL hL n hn Y kr kx b5=>?_⟩;obtain ⟨n,rfl⟩:∃ k,n=k+1:=⟨n-1,by omega⟩;rw [stepB L hL,if_neg he0]
    ·refine .inl ⟨e2,he2,3000000+L2,λL hL n hn Y kr kx b5=>?_⟩;obtain ⟨n,rfl⟩:∃ k,n=k+1:=⟨n-1,by omega⟩;rw [ky L (by omega),if_pos rfl];show cg Y L (txr l[i]) [dJ c] ht _=_;rw [h2 L (by omega),if_neg hz]
end
end
section
variable {b:List V}{x:Int}{h:List Int}
variable {Y:Type}
theorem Wl(h:∀ N W,GL N W tz b):∃ (hd:List V) (l:List TxS),b=hd++[V.sl 4 (l.map txr)]/\hd.length=68/\(∀ N W,GL N W CV hd)/\(∀ t∈l,TxSOk t)/\1<=l.length/\l.length<=4:=by
 have h':∀ N W,GL N W (CV++[.ai 0 4 1 4 aTx]) b:=h;obtain ⟨hd,s,rfl,h1,h2⟩:=G9 (h' 0 (λ_=>0));have hdl:hd.length=68:=h1.1.symm;obtain ⟨v,r,rfl,g,h3⟩:=hY h2;obtain rfl:=ta h3;have hs:∀ N W,GL N W CV hd/\G N W (.ai 0 4 1 4 aTx) v:=by
  intro N W;obtain ⟨hd',s',e,q1,q2⟩:=G9 (h' N W);obtain ⟨rfl,rfl⟩:=List.append_inj e (by rw [hdl,<- q1.1]; rfl);obtain ⟨v',r',e',q3,_⟩:=hY q2;cases e';exact ⟨q1,q3⟩
 obtain ⟨es,rfl,e1,e2,e3⟩:=Lj (by omega) λN W=>(hs N W).2;have:∃ l:List TxS,es=l.map txr/\∀ t∈l,TxSOk t:=by
  clear h h' h1 h2 h3 g hs e1 e2
  induction es with
  | nil=>exact ⟨[],rfl,by simp⟩
  | cons e es ih=>
   obtain ⟨t,rfl,ht⟩:=zgP (e3 _ (Wcy ..));obtain ⟨l,rfl,hl⟩:=ih λr hr=>e3 r (WcB _ hr);exact ⟨t::l,rfl,λx hx=>(WbL.1 hx).elim (λe=>e ▸ ht) (hl x)⟩
 obtain ⟨l,rfl,hl⟩:=this;rw [WcO] at e1 e2;exact ⟨hd,l,rfl,hdl,λN W=>(hs N W).1,hl,by omega,by omega⟩
theorem zbO(h:∀ N W,GL N W tu b):∃ (ht:Int) (hh:List Int) (cs:List CoT),b=j6 ht hh (cs.map dJ)/\(-9223372036854775808<=ht/\ht<=9223372036854775807)/\hh.length=32/\dG hh/\(∀ c∈cs,CoOk c)/\cs.length<=100000:=by
 have h':∀ N W,GL N W (oO::(vV++[q7 100000])) b:=h;obtain ⟨v,r,rfl,g,h1⟩:=hY (h' 0 (λ_=>0));obtain ⟨ht,rfl,hr⟩:=qh g;obtain ⟨a,s,rfl,h2,h3⟩:=G9 h1;obtain ⟨hh,rfl,hl,hb⟩:=JS h2;obtain ⟨w,s,rfl,g2,h4⟩:=hY h3;obtain rfl:=ta h4;have hs:∀ N W,G N W (q7 100000) w:=by
  intro N W;refine (h' N W).2 33 _ _ rfl ?_;rw [show 33=32+1 from rfl,List.getElem?_cons_succ,Wal (by rw [fV]; omega),fV,hl]; rfl
 obtain ⟨es,rfl,_,e2,e3⟩:=Lj (by omega) hs;obtain ⟨cs,rfl,hc⟩:=Oo e3;rw [WcO] at e2;exact ⟨ht,hh,cs,rfl,hr,hl,hb,hc,by omega⟩
theorem zaP{cs:Ls}(hl:h.length=32):cD (cD ([(QQe x)]++Wad 32 (QQa (0:Int))++[(V.sl 37 ([]:Ls))]) 1 (row .u8 h)) 33 [(V.sl 37 cs)]=j6 x h cs:=by
 match h,hl with
 | [x0,x1,x2,x3,x4,x5,x6,x7,x8,x9,x10,x11,x12,x13,x14,x15,x16,x17,x18,x19,x20,x21,x22,x23,x24,x25,x26,x27,x28,x29,x30,x31],_=>rfl
theorem zgy(hl:h.length=32):(cD ([(QQe x)]++Wad 32 (QQa (0:Int))++[(V.sl 37 ([]:Ls))]) 1 (row .u8 h)).length=34:=by
 match h,hl with
 | [x0,x1,x2,x3,x4,x5,x6,x7,x8,x9,x10,x11,x12,x13,x14,x15,x16,x17,x18,x19,x20,x21,x22,x23,x24,x25,x26,x27,x28,x29,x30,x31],_=>rfl
theorem zcs{l:List TxS}(hl:∀ t∈l,TxSOk t)(h0:0<l.length){hd:List V}(hdl:hd.length=68){ht:Int}(hr:-9223372036854775808<=ht/\ht<=9223372036854775807){hh:List Int}(hhl:hh.length=32){cs us:List CoT}(hc:∀ c∈cs,CoOk c)(hn:cs.length<=100008)(most:Int) :
  ∃ (r1 r2:List V) (e:Int),((r1=zlr/\r2=zur)∨(r1=j6 ht hh (cs.map dJ)/\cs.length<=100000/\r2=[V.sl 37 (us.map dJ)]))/\(0<=e/\e<=999)/\Fin2 λL=>∀ (Y:Type) (k:List V->List V->Int->Option Y),
   iK cj co bV ce cg cw bW ch bP bU L most (hd++[V.sl 4 (l.map txr)]) zb6 [] (j6 ht hh (cs.map dJ)) (us.map dJ) k=k r1 r2 e:=by
 obtain ⟨outs,ho,hol,L1,h1⟩:=Xw (hl _ (WaV h0)) hr;obtain ⟨n1,L2,h2⟩:=T6 ho (by omega);obtain ⟨n2,L3,h3⟩:=T6 hc hn;have hb:(hd++[V.sl 4 (l.map txr)])[68]?=some (V.sl 4 (l.map txr)):=by
  rw [Wal (by omega),hdl]; rfl
 have hz:(l.map txr)[(0:Int).toNat]?=some (txr l[0]):=fm h0;have key:∀ (L:Nat),L1+L2+L3<=L->∀ (Y:Type) (k:List V->List V->Int->Option Y),iK cj co bV ce cg cw bW ch bP bU L most (hd++[V.sl 4 (l.map txr)]) zb6 [] (j6 ht hh (cs.map dJ)) (us.map dJ) k =
   ifb (decide (n1>most)) (k zlr zur 231) (ifb (decide (n2>2100000000000000)) (k zlr zur 90) (ifb (decide (((cs.map dJ).length:Int)>100000)) (k zlr zur 4) (k (j6 ht hh (cs.map dJ)) [V.sl 37 (us.map dJ)] 0))):=by
  intro L hL Y k;have z1:∀ (e:Int),chk (34=34/\0+34<=(WcJ zb6)) (lt (cD zb6 0 ([(QQe (0:Int))]++Wad 32 (QQa (0:Int))++[(V.sl 37 ([]:Ls))])) λr38=>lt [(V.sl 37 ([]:Ls))] λr39=>chk (0=0/\(WcJ r38)=34/\34≠0) (chk (0=0/\(WcJ r39)=1/\1≠0) (k r38 r39 e)))=k zlr zur e:=by
   intro e;rw [bT ⟨rfl,by decide⟩,G1,HQ _ He,cJ,cJ,bT ⟨rfl,rfl,by decide⟩,bT ⟨rfl,rfl,by decide⟩]; rfl
  rw [iK,j4 hb,wc (by decide) hz,CY,K8,V5,h1 L (by omega),h2 L (by omega),z1,Bl hhl,h3 L (by omega),z1,Bl hhl,z1,
   bT (by rw [kZ hhl]; omega),WbR (by rw [kZ hhl]; omega),bT ⟨kZ hhl,by decide⟩,HQ _ (kZ hhl),cJ,cJ,bT ⟨rfl,kZ hhl,by decide⟩,bT ⟨rfl,rfl,by decide⟩]
 by_cases q1:n1>most
 ·exact ⟨zlr,zur,231,.inl ⟨rfl,rfl⟩,by omega,L1+L2+L3,λL hL Y k=>by rw [key L hL,du q1]⟩
 by_cases q2:n2>2100000000000000
 ·exact ⟨zlr,zur,90,.inl ⟨rfl,rfl⟩,by omega,L1+L2+L3,λL hL Y k=>by rw [key L hL,dt q1,du q2]⟩
 by_cases q3:((cs.map dJ).length:Int)>100000
 ·exact ⟨zlr,zur,4,.inl ⟨rfl,rfl⟩,by omega,L1+L2+L3,λL hL Y k=>by rw [key L hL,dt q1,dt q2,du q3]⟩
 ·exact ⟨_,_,0,.inr ⟨rfl,by rw [WcO] at q3; omega,rfl⟩,by omega,L1+L2+L3,λL hL Y k=>by rw [key L hL,dt q1,dt q2,dt q3]⟩
theorem zcz{p l:List V}(hp:∀ N W,GL N W sN p)(hl:∀ N W,GL N W tu l)(hb:∀ N W,GL N W tz b) :
  ∃ (r1 r2:List V) (e:Int),(∀ N W,G N W pD (.agg r1))/\(∀ N W,G N W Pf (.agg r2))/\(0<=e/\e<=999)/\Fin2 λL=>∀ (Y:Type) (k:List V->List V->Int->Option Y),j8 Y L p l b k=k r1 r2 e:=by
 have hpl:p.length=80:=(hp 0 (λ_=>0)).1.symm;have hpd:p.map V.ag=p:=G7 (by rfl) (hp 0 (λ_=>0));have hbd:b.map V.ag=b:=G7 (by rfl) (hb 0 (λ_=>0));have hbl:b.length=69:=(hb 0 (λ_=>0)).1.symm;obtain ⟨mat,hm⟩:∃ mat,p[79]?=some (QQe mat):=by
  have h79:p[79]?=some p[79]:=List.getElem?_eq_getElem (by omega);obtain ⟨n,e,_⟩:=qh ((hp 0 (λ_=>0)).2 79 (.iv .i64 0 2) _ rfl h79);exact ⟨n,by rw [h79,e]⟩
 have hA:∀ N W,G N W mN (.agg p):=λN W=>.agg _ _ (hp N W).1 (hp N W).2;obtain ⟨e0,he0,L0,h0⟩:=zay hA (λN W=>.agg _ _ (hl N W).1 (hl N W).2) (λN W=>.agg _ _ (hb N W).1 (hb N W).2);obtain ⟨ht0,hh0,cs,rfl,hr0,hl0,hb0,hc,hn⟩:=zbO hl;obtain ⟨hd,tl,rfl,hdl,hhd,ht,hx1,hx4⟩:=Wl hb;have hzl:∀ N W,G N W pD (.agg zlr):=λN W=>VF (cs:=[]) (by omega) (by simp) (by intro x hx; rw [List.eq_of_mem_replicate hx]; omega) (by simp) (by simp);have hzu:∀ N W,G N W Pf (.agg zur):=λN W=>zbF (cs:=[]) (by simp) (by simp);by_cases hz:e0=0;rotate_left
 ·refine ⟨zlr,zur,e0,hzl,hzu,he0,L0,λL hL Y k=>?_⟩;simp only [j8,oI,so];rw [bT (by omega),bT (by rw [kZ hl0]; omega),bT (by omega),WbR (by omega),hpd,WbR (by rw [kZ hl0]; omega),VA,WbR (by omega),hbd,h0 L hL,iN,if_neg hz,cJ,cJ,G1,bT ⟨trivial,rfl,by decide⟩,bT ⟨trivial,rfl,by decide⟩]; rfl
 ·have hr:=Ij .i64 (ht0+1);have hr:-9223372036854775808<=Wbf .i64 (ht0+1)/\Wbf .i64 (ht0+1)<=9223372036854775807:=hr;obtain ⟨hh,hhl,hhb,L1,h1⟩:=zdJ (λN W=>.agg _ _ (hhd N W).1 (hhd N W).2);obtain ⟨most,L2,h2⟩:=Xi hA hr;have hb4:(hd++[V.sl 4 (tl.map txr)])[68]?=some (V.sl 4 (tl.map txr)):=by
   rw [Wal (by omega),hdl]; rfl
  have key:∀ (L:Nat),L0+L1+L2<=L->∀ (Y:Type) (k:List V->List V->Int->Option Y),j8 Y L p (j6 ht0 hh0 (cs.map dJ)) (hd++[V.sl 4 (tl.map txr)]) k =
    eB cj co bV ce cg cw bW ch bP bU L (λp8 b6 b7=>kS cj co bV ce cg cw bW ch bP bU L p8 b6 b7 k) (λp12 b5 b6 b7_0 b10 b11_0=>iK cj co bV ce cg cw bW ch bP bU L p12 b5 b6 b7_0 b10 b11_0 k) L most (tl.map txr) (tl.length:Int) ((0:Nat):Int) p (hd++[V.sl 4 (tl.map txr)]) zb6 [] (j6 (Wbf .i64 (ht0+1)) hh (cs.map dJ)) (([]:List CoT).map dJ):=by
   intro L hL Y k;simp only [j8,oI,so];rw [bT (by omega),bT (by rw [kZ hl0]; omega),bT (by omega),WbR (by omega),hpd,WbR (by rw [kZ hl0]; omega),VA,WbR (by omega),hbd,h0 L (by omega),iN,if_pos hz,CY,cJ,bT (by omega),List.take_left' hdl,h1 L (by omega),Bl hl0,
    bT ⟨by rw [fV,hhl],by omega⟩,bT ⟨trivial,by rw [zgy hhl]; omega⟩,zaP hhl,cJ,bT ⟨kZ hhl,by omega⟩]
   rw [show ([(QQe (0:Int))]++Wad 32 (QQa (0:Int))++[(V.gs 37 ([]:Ls))])=zb6 from rfl,HQ _ (kZ hhl),cJ,CY,h2 L (by omega),j4 hb4,WcO,bT (by omega)];rfl
  rcases Jr hm hpl hpd ht hx4 hr hhl tl.length 0 (by omega) most cs [] hc (by omega) (by simp) (by simp) with ⟨e,g1,L3,g2⟩ | ⟨m2,cs2,us2,g1,g2,g3,g4,L3,g5⟩
  ·refine ⟨zlr,zur,e,hzl,hzu,g1,L0+L1+L2+L3+10,λL hL Y k=>?_⟩;rw [key L (by omega),g2 L (by omega) L (by omega),kS,bT ⟨rfl,rfl,by decide⟩,bT ⟨rfl,rfl,by decide⟩]
  ·obtain ⟨r1,r2,e,q1,q2,L4,q3⟩:=zcs (us:=us2) ht hx1 hdl hr hhl g1 g2 m2;refine ⟨r1,r2,e,?_,?_,q2,L0+L1+L2+L3+L4+10,λL hL Y k=>?_⟩
   ·rcases q1 with ⟨rfl,rfl⟩ | ⟨rfl,q,rfl⟩
    ·exact hzl
    ·exact λN W=>VF hr hhl hhb g1 q
   ·rcases q1 with ⟨rfl,rfl⟩ | ⟨rfl,q,rfl⟩
    ·exact hzu
    ·exact λN W=>zbF g3 g4
   ·rw [key L (by omega),g5 L (by omega) L (by omega),q3 L (by omega)]
theorem Ws:d9 (cN rows) 310 Ug:=by
 refine YQ (D':=301) (by decide) (λL=>Mo L) (λws hw=>?_);obtain ⟨v1,r,rfl,a1,h0⟩:=hY (hw 0 (λ_=>0));obtain ⟨v2,r,rfl,a2,h0⟩:=hY h0;obtain ⟨v3,r,rfl,a3,h0⟩:=hY h0;obtain rfl:=ta h0;obtain ⟨p,rfl,_⟩:=Cq a1;obtain ⟨l,rfl,_⟩:=Cq a2;obtain ⟨b,rfl,_⟩:=Cq a3;have hp:∀ N W,GL N W sN p:=λN W=>by obtain ⟨_,e,h⟩:=Cq ((hw N W).2 0 _ _ rfl rfl); cases e; exact h
 have hl:∀ N W,GL N W tu l:=λN W=>by obtain ⟨_,e,h⟩:=Cq ((hw N W).2 1 _ _ rfl rfl); cases e; exact h
 have hb:∀ N W,GL N W tz b:=λN W=>by obtain ⟨_,e,h⟩:=Cq ((hw N W).2 2 _ _ rfl rfl); cases e; exact h
 obtain ⟨r1,r2,e,q1,q2,q3,L0,q⟩:=zcz hp hl hb;refine ⟨.ah [.agg r1,.agg r2,.sc (.int .i64 e)],λN W=>?_,L0,λL hL=>q L hL (V × Bor) λp0 p1 p2=>some (V.ah [.agg p0,.agg p1,.sc (.int .i64 p2)],[])⟩;have:GL N W [pD,Pf,sX] [.agg r1,.agg r2,.sc (.int .i64 e)]:=.cons (q1 N W) (.cons (q2 N W) (gl1 (.iv .i64 _ _ e q3)));exact .ah _ _ this.1 this.2
end
section
variable {l:List OwT}{v:OwT}
variable {Y:Type}
theorem HI{v:OwT}(hv:v.h.length=32){due:List (List Int)}(hd:∀ b∈due,dG b)(hdn:due.length<=10000000)(x:Int):∀ (m i:Nat) (l:List OwT),(∀ w∈l,OwOk w)->l.length<=1000000->l.length-i=m->∃ l':List OwT,(∀ w∈l',OwOk w)/\l'.length=l.length/\∀ (L n:Nat),20000000<=L->m<n->∀ (Y:Type) (kx:Nat->List V->Option Y),
  eI bM L kx n (dS due) x l.length (i:Int) (gH v) (l.map dC).flatten=kx l'.length (l'.map dC).flatten
 | 0,i,l,hl,hn,hi=>⟨l,hl,rfl,λL n hL hn Y kx=>by
  obtain ⟨n,rfl⟩:∃ k,n=k+1:=⟨n-1,by omega⟩;rw [eI,og,dt (by omega)]⟩
 | m+1,i,l,hl,hn,hi=>by
  have h:i<l.length:=by omega
  have hw:=hl _ (WaV h);have hll:∀ w∈l,w.h.length=32:=λw hw=>(hl w hw).hl;have h2:(0:Int)<=(i:Int)/\(i:Int)<((l.length:Nat):Int):=by omega
  have a37:(l.map dC).flatten[(0+(WcL (i:Int))*38)+37]?=some (QQe l[i].sp):=by
   rw [show ((0+(WcL (i:Int))*38)+37)=i*38+(33+4) by simp,zbp hll h (by omega)]; rfl
  have a34:(l.map dC).flatten[(((0+(WcL (i:Int))*38)+0)+33)+1]?=some (V.sl 1 (eA .u8 l[i].aA)):=by
   rw [show ((((0+(WcL (i:Int))*38)+0)+33)+1)=i*38+(33+1) by simp,zbp hll h (by omega)]; rfl
  have a33:WcK 33 (WcM (((0+((WcL (i:Int))*38))+0)+0) (l.map dC).flatten)=gH l[i]:=by
   rw [show (((0+((WcL (i:Int))*38))+0)+0)=i*38 by simp,zbr (DC hll) (by omega) (fm h),pZ hw.hl]
  obtain ⟨l1,g1,g2,g3⟩:=HI hv hd hdn x m (i+1) l hl hn (by omega);obtain ⟨l2,k1,k2,k3⟩:=HI hv hd hdn x m (i+1) (l.set i (spd l[i] x)) (zcf hl h x) (by simpa using hn) (by simp; omega);have step:∀ (L n:Nat),20000000<=L->∀ (Y:Type) (kx:Nat->List V->Option Y),eI bM L kx (n+1) (dS due) x l.length (i:Int) (gH v) (l.map dC).flatten =
    ifb (ES l[i] v) (ifb (l[i].sp==0) (ifb (((due.length:Nat):Int)==0) (eI bM L kx n (dS due) x l.length ((i+1:Nat):Int) (gH v) ((l.set i (spd l[i] x)).map dC).flatten) (ifb (jM due l[i].aA) (eI bM L kx n (dS due) x l.length ((i+1:Nat):Int) (gH v) ((l.set i (spd l[i] x)).map dC).flatten) (eI bM L kx n (dS due) x l.length ((i+1:Nat):Int) (gH v) (l.map dC).flatten))) (eI bM L kx n (dS due) x l.length ((i+1:Nat):Int) (gH v) (l.map dC).flatten)) (eI bM L kx n (dS due) x l.length ((i+1:Nat):Int) (gH v) (l.map dC).flatten):=by
   intro L n hL Y kx;rw [eI,og,du h2.2,bT h2,bT (by rw [Ww hll]; simp; omega),bT (by rw [i5 hv]; omega),a33,WbR (by rw [i5 hv]; omega),OW hw.hl hv,bT h2,eQ a37,w6,bT h2,bT ⟨rfl,by rw [Ww hll]; simp; omega⟩,zfN hll h,j4 a34,Xf hL hdn hd hw.s];simp only [cJ,up (show i<=1000000000 by omega)];rw [bT h2]
  have no:(∀ (L n:Nat),20000000<=L->∀ (Y:Type) (kx:Nat->List V->Option Y),eI bM L kx (n+1) (dS due) x l.length (i:Int) (gH v) (l.map dC).flatten=eI bM L kx n (dS due) x l.length ((i+1:Nat):Int) (gH v) (l.map dC).flatten)->∃ l':List OwT,(∀ w∈l',OwOk w)/\l'.length=l.length/\∀ (L n:Nat),20000000<=L->m+1<n->∀ (Y:Type) (kx:Nat->List V->Option Y),eI bM L kx n (dS due) x l.length (i:Int) (gH v) (l.map dC).flatten=kx l'.length (l'.map dC).flatten:=by
   intro q;refine ⟨l1,g1,g2,λL n hL hn Y kx=>?_⟩;obtain ⟨n,rfl⟩:∃ k,n=k+1:=⟨n-1,by omega⟩;rw [q L n hL,g3 L n hL (by omega)]
  have yes:(∀ (L n:Nat),20000000<=L->∀ (Y:Type) (kx:Nat->List V->Option Y),eI bM L kx (n+1) (dS due) x l.length (i:Int) (gH v) (l.map dC).flatten=eI bM L kx n (dS due) x l.length ((i+1:Nat):Int) (gH v) ((l.set i (spd l[i] x)).map dC).flatten)->∃ l':List OwT,(∀ w∈l',OwOk w)/\l'.length=l.length/\∀ (L n:Nat),20000000<=L->m+1<n->∀ (Y:Type) (kx:Nat->List V->Option Y),eI bM L kx n (dS due) x l.length (i:Int) (gH v) (l.map dC).flatten=kx l'.length (l'.map dC).flatten:=by
   intro q;refine ⟨l2,k1,by simpa using k2,λL n hL hn Y kx=>?_⟩;obtain ⟨n,rfl⟩:∃ k,n=k+1:=⟨n-1,by omega⟩;have:=k3 L n hL (by omega) Y kx;rw [List.length_set] at this;rw [q L n hL,this]
  cases hs:ES l[i] v with
  | false=>exact no λL n hL Y kx=>by rw [step L n hL,hs]; rfl
  | true=>
   by_cases c1:l[i].sp=0
   ·by_cases c2:((due.length:Nat):Int)=0
    ·exact yes λL n hL Y kx=>by rw [step L n hL,hs,gZ,fd c1,fd c2]
    ·cases hh:jM due l[i].aA with
     | true=>exact yes λL n hL Y kx=>by rw [step L n hL,hs,gZ,fd c1,ew c2,hh]; rfl
     | false=>exact no λL n hL Y kx=>by rw [step L n hL,hs,gZ,fd c1,ew c2,hh]; rfl
   ·exact no λL n hL Y kx=>by rw [step L n hL,hs,gZ,ew c1]
theorem zcK(hl:∀ w∈l,OwOk w)(hn:l.length<=1000000)(hv:v.h.length=32){due:List (List Int)}(hd:∀ b∈due,dG b)(hdn:due.length<=10000000)(x:Int):∃ l':List OwT,(∀ w∈l',OwOk w)/\l'.length=l.length/\∀ (L:Nat),20000000<=L->∀ (Y:Type) (k:Ls->Option Y),
  bS Y L (l.map dC) (gH v) (dS due) x k=k (l'.map dC):=by
 obtain ⟨l',g1,g2,g3⟩:=HI hv hd hdn x _ 0 l hl hn rfl;refine ⟨l',g1,g2,λL hL Y k=>?_⟩;have hll:∀ w∈l',w.h.length=32:=λw hw=>(g1 w hw).hl;simp only [bS,vW,B5,WcO];rw [bT (by simp only [cy]; omega)];refine (g3 L L hL (by omega) Y _).trans ?_;rw [qy,bT (by rw [Ww hll]; by_cases h:l'.length=0 <;> simp [h]),SU hll]
theorem Ui{l:List OwT}(hl:∀ w∈l,OwOk w)(hn:l.length<=1000000){v:OwT}(hv:v.h.length=32):∀ (m i:Nat),l.length-i=m->i<=l.length->∃ j:Nat,j<=l.length/\∀ (L n:Nat),40<=L->m<n->∀ (Y:Type) (kx:Ls->Int->List V->Option Y),
  j7 bQ L kx n (l.map dC) (i:Int) (dC v)=kx (l.map dC) (j:Int) (dC v)
 | 0,i,hi,hil=>⟨i,hil,λL n hL hn Y kx=>by
  obtain ⟨n,rfl⟩:∃ k,n=k+1:=⟨n-1,by omega⟩;rw [j7,sF,WcO,dt (by omega)]⟩
 | m+1,i,hi,hil=>by
  have h:i<l.length:=by omega
  have hw:=hl _ (WaV h);obtain ⟨b,hb⟩:=zao hw.hl hv;have step:∀ (L n:Nat),40<=L->∀ (Y:Type) (kx:Ls->Int->List V->Option Y),j7 bQ L kx (n+1) (l.map dC) (i:Int) (dC v)=ifb b (j7 bQ L kx n (l.map dC) ((i+1:Nat):Int) (dC v)) (kx (l.map dC) (i:Int) (dC v)):=by
   intro L n hL Y kx;rw [j7,sF,WcO,du (by omega),fe (fm h),bT (by rw [fM hv]; omega),kK hw.hl,kK hv,zT,zT,hb L hL,cJ,up (by omega)]
  cases b with
  | false=>
   refine ⟨i,hil,λL n hL hn Y kx=>?_⟩;obtain ⟨n,rfl⟩:∃ k,n=k+1:=⟨n-1,by omega⟩;rw [step L n hL]; rfl
  | true=>
   obtain ⟨j,q1,q2⟩:=Ui hl hn hv m (i+1) (by omega) (by omega);refine ⟨j,q1,λL n hL hn Y kx=>?_⟩;obtain ⟨n,rfl⟩:∃ k,n=k+1:=⟨n-1,by omega⟩;rw [step L n hL,gZ,q2 L n hL (by omega)]
theorem Tv{l:List OwT}(hl:∀ w∈l,OwOk w)(hn:l.length<=1000000){v:OwT}(hv:v.h.length=32)(p:Int):∀ (m i:Nat),l.length-i=m->∃ b:Bool,∀ (L n:Nat),m<n->∀ (Y:Type) (kr:Ls->Int->Option Y) (kx:Ls->Int->List V->Option Y),
  lE bQ L kr kx n (l.map dC) p (i:Int) (dC v)=ifb b (kr [] 91) (kx (l.map dC) p (dC v))
 | 0,i,hi=>⟨false,λL n hn Y kr kx=>by
  obtain ⟨n,rfl⟩:∃ k,n=k+1:=⟨n-1,by omega⟩;rw [lE,pj,WcO,dt (by omega)]; rfl⟩
 | m+1,i,hi=>by
  have h:i<l.length:=by omega
  have hw:=hl _ (WaV h);have h37:(WcM 37 (dC l[i]))[0]?=some (QQe l[i].sp):=by rw [List.getElem?_drop]; exact kk hw.hl 4
  obtain ⟨b,hb⟩:=Tv hl hn hv p m (i+1) (by omega);refine ⟨cond (ES l[i] v) (cond (l[i].sp==0) true b) b,λL n hn Y kr kx=>?_⟩;obtain ⟨n,rfl⟩:∃ k,n=k+1:=⟨n-1,by omega⟩;have:=hb L n (by omega) Y kr kx;rw [lE,pj,WcO,du (by omega),fe (fm h),bT (by rw [fM hv]; omega),pZ hw.hl,pZ hv,OW hw.hl hv,fe (fm h),eQ h37,cJ,up (by omega),this];cases ES l[i] v <;> cases (l[i].sp==0) <;> rfl
theorem zgv(hl:∀ w∈l,OwOk w)(hn:l.length<=100000)(hv:OwOk v):∃ (l':List OwT) (e:Int),(∀ w∈l',OwOk w)/\l'.length<=l.length+1/\∀ (L:Nat),2000000<=L->∀ (Y:Type) (k:Ls->Int->Option Y),
  bY Y L (l.map dC) (dC v) k=k (l'.map dC) e:=by
 obtain ⟨j,h1,h2⟩:=Ui hl (by omega) hv.hl _ 0 rfl (by omega);obtain ⟨b,h3⟩:=Tv hl (by omega) hv.hl (j:Int) _ 0 rfl;have e:∀ (L:Nat),2000000<=L->∀ (Y:Type) (k:Ls->Int->Option Y),bY Y L (l.map dC) (dC v) k=ifb b (k [] 91) (k ((l.take j++v::l.drop j).map dC) 0):=by
  intro L hL Y k;simp only [bY,AB,Fs];refine (h2 L L (by omega) (by omega) Y _).trans ?_;simp only [oH,vo];refine (h3 L L (by omega) Y _ _).trans ?_;have hj:0<=(j:Int)/\(j:Int)<=(((List.map dC l).length:Nat):Int):=by simp; omega
  have e2:WcK (WcJ (l.map dC)-j) (WcM j (l.map dC))=WcM j (l.map dC):=WbR (by simp);simp only [qP,sm,Int.toNat_natCast,Nat.sub_zero,List.drop_zero,WcQ,cJ];rw [bT hj,bT (by simp [cy]; omega),bT (by rw [fM hv.hl]; omega),kK hv.hl,bT ⟨fM hv.hl,by omega⟩,Vj hv.hl,ZO hv.hl,bT (by simp [cy]; omega),e2,bT (by simp [cy]; omega),bT (by simp [cy]; omega),show ((l.take j++v::l.drop j).map dC)=WcK j (l.map dC)++[dC v]++WcM j (l.map dC) by simp [List.map_take,List.map_drop]]
 cases b with
 | true=>exact ⟨[],91,by simp,by simp,λL hL Y k=>(e L hL Y k).trans rfl⟩
 | false=>
  refine ⟨l.take j++v::l.drop j,0,λw hw=>?_,by simp; omega,λL hL Y k=>(e L hL Y k).trans rfl⟩;rcases Wbt.1 hw with h | h
  ·exact hl w (WaI h)
  ·rcases WbL.1 h with rfl | h
   ·exact hv
   ·exact hl w (WaP h)
end
section
variable {v:V}{t:TxS}{h:List Int}
variable {Y:Type}
def Bw(o:Int × List Int):List V:=[V.sc (.int .i64 o.1),V.sl 1 (eA .u8 o.2)]
theorem zfW{a:A}(ha:a=.int .u8 ⟨1,[]⟩∨a=.int .u8 ⟨5,[]⟩∨a=.iv .u8 1 6)(h:G 0 (λ_=>0) a v):∃ n:Int,v=.sc (.int .u8 n)/\0<=n/\n<=255:=by
 rcases ha with rfl | rfl | rfl
 ·generalize hc:A.int .u8 ⟨1,[]⟩=c at h;cases h <;> first | (cases hc; done) | skip
  cases hc;exact ⟨_,rfl,by decide,by decide⟩
 ·generalize hc:A.int .u8 ⟨5,[]⟩=c at h;cases h <;> first | (cases hc; done) | skip
  cases hc;exact ⟨_,rfl,by decide,by decide⟩
 ·obtain ⟨n,rfl,h1,h2⟩:=qh h;exact ⟨n,rfl,by omega,by omega⟩
theorem zaz(h:G 0 (λ_=>0) GZ v):∃ l:List Int,v=.sl 1 (eA .u8 l)/\dG l/\l.length=4:=by
 have key:∃ es:Ls,v=.sl 1 es/\es.length=4/\∀ (j:Nat) (row:List A) (r:List V),([[A.int .u8 ⟨1,[]⟩],[.int .u8 ⟨1,[]⟩],[.iv .u8 1 6],[.int .u8 ⟨5,[]⟩]]:List (List A))[j]?=some row->es[j]?=some r->GL 0 (λ_=>0) row r:=by
  generalize hc:GZ=c at h;unfold GZ at hc;cases h <;> first | (cases hc; done) | skip
  rename_i es hl hr hh;cases hc;exact ⟨es,rfl,hl.symm,λj row r a b=>⟨hr j row r a b,hh j row r a b⟩⟩
 obtain ⟨es,rfl,hl,hk⟩:=key
 match es,hl with
 | [r0,r1,r2,r3],_=>
  have one:∀ {a:A} {r:List V},(a=.int .u8 ⟨1,[]⟩∨a=.int .u8 ⟨5,[]⟩∨a=.iv .u8 1 6)->GL 0 (λ_=>0) [a] r->∃ n:Int,r=[.sc (.int .u8 n)]/\0<=n/\n<=255:=by
   intro a r ha h;obtain ⟨v,r,rfl,g,h2⟩:=hY h;obtain rfl:=ta h2;obtain ⟨n,rfl,hn⟩:=zfW ha g;exact ⟨n,rfl,hn⟩
  obtain ⟨n0,rfl,h0⟩:=one (.inl rfl) (hk 0 _ _ rfl rfl);obtain ⟨n1,rfl,h1⟩:=one (.inl rfl) (hk 1 _ _ rfl rfl);obtain ⟨n2,rfl,h2⟩:=one (.inr (.inr rfl)) (hk 2 _ _ rfl rfl);obtain ⟨n3,rfl,h3⟩:=one (.inr (.inl rfl)) (hk 3 _ _ rfl rfl);refine ⟨[n0,n1,n2,n3],rfl,λx hx=>?_,rfl⟩;simp only [WbL,List.not_mem_nil,or_false] at hx;rcases hx with rfl | rfl | rfl | rfl <;> assumption
structure OsOk (os:List (Int × List Int)):Prop where
 n:os.length<=2
 b:∀ o∈os,dG o.2
 l:∀ o∈os,o.2.length=4
theorem zfk(ht:TxSOk t):∃ os:List (Int × List Int),t.outs=os.map Bw/\OsOk os:=by
 have g:=(ht.g 0 (λ_=>0)).2 2 (.ai 0 2 1 2 Sv) (.sl 2 t.outs) rfl rfl;obtain ⟨es,e,e1,e2,e3⟩:=Ra g;have:t.outs=es:=by simpa [mkL] using e
 subst this;have key:∀ (es:Ls),(∀ r∈es,GL 0 (λ_=>0) Sv r)->∃ os:List (Int × List Int),es=os.map Bw/\(∀ o∈os,dG o.2)/\∀ o∈os,o.2.length=4:=by
  intro es
  induction es with
  | nil=>exact λ_=>⟨[],rfl,by simp,by simp⟩
  | cons r es ih=>
   intro h;obtain ⟨os,rfl,h1,h2⟩:=ih λr hr=>h r (WcB _ hr);obtain ⟨v,s,rfl,q1,q2⟩:=hY (h r (Wcy ..));obtain ⟨u,s,rfl,q3,q4⟩:=hY q2;obtain rfl:=ta q4;obtain ⟨n,rfl,_⟩:=qh q1;obtain ⟨l,rfl,hb,hl⟩:=zaz q3;refine ⟨(n,l)::os,rfl,λo ho=>?_,λo ho=>?_⟩
   ·rcases WbL.1 ho with rfl | ho
    ·exact hb
    ·exact h1 o ho
   ·rcases WbL.1 ho with rfl | ho
    ·exact hl
    ·exact h2 o ho
 obtain ⟨os,e,h1,h2⟩:=key t.outs e3;exact ⟨os,e,by have:=congrArg WcJ e; rw [WcO] at this; omega,h1,h2⟩
theorem zgL(ht:TxSOk t):∃ l:List Int,l.length=32/\dG l/\Fin2 λL=>∀ (Y:Type) k,ci Y L (txr t) k=k (row .u8 l):=by
 obtain ⟨v,g,L0,h⟩:=vw (cH (D':=300) (by decide) Lx) (ws:=[.agg (txr t)]) (λN W=>gl1 (ZK ht N W));obtain ⟨l,rfl,hl,hb⟩:=X2 g;exact ⟨l,hl,hb,L0,λL hL Y k=>(h L hL Y _).trans (Zr _ _)⟩
theorem Xu{b:List V}(hb:∀ N W,GL N W tz b):∃ e,(0<=e/\e<=999)/\Fin2 λL=>∀ (Y:Type) k,f9 Y L b k=k e:=by
 obtain ⟨v,g,L0,h⟩:=vw (cH (D':=300) (by decide) QC) (ws:=[.agg b]) (λN W=>gl1 (.agg _ _ (hb N W).1 (hb N W).2));obtain ⟨e,rfl,he⟩:=qh (g 0 (λ_=>0));exact ⟨e,he,L0,λL hL Y k=>(h L hL Y _).trans (EZ _ _ _)⟩
def Vg(h:List Int)(ix:Int)(o:Int × List Int)(x:Int)(cb:Bool):List V:=row .u8 h++[V.sc (.int .u32 ix),V.sc (.int .i64 o.1),V.sl 1 (eA .u8 o.2),V.sc (.int .i64 x),V.sc (.bool cb)]
theorem zhS(hl:h.length=32)(ix:Int):cD (cD (Wad 32 (QQa (0:Int))++[(QQc (0:Int))]) 0 (row .u8 h)) 32 [(QQc ix)]=row .u8 h++[V.sc (.int .u32 ix)]:=by
 match h,hl with
 | [x0,x1,x2,x3,x4,x5,x6,x7,x8,x9,x10,x11,x12,x13,x14,x15,x16,x17,x18,x19,x20,x21,x22,x23,x24,x25,x26,x27,x28,x29,x30,x31],_=>rfl
def z37:List V:=(Wad 32 (QQa (0:Int))++[(QQc (0:Int)),(QQe (0:Int)),(V.sl 1 ([]:Ls)),(QQe (0:Int)),(V.sc (.bool false))])
theorem zhE(hl:h.length=32)(ix:Int)(o:Int × List Int)(x:Int)(cb:Bool):cD (cD (cD (cD z37 0 (row .u8 h++[V.sc (.int .u32 ix)])) 33 (Bw o)) 35 [(QQe x)]) 36 [(V.sc (.bool cb))]=Vg h ix o x cb:=by
 match h,hl with
 | [x0,x1,x2,x3,x4,x5,x6,x7,x8,x9,x10,x11,x12,x13,x14,x15,x16,x17,x18,x19,x20,x21,x22,x23,x24,x25,x26,x27,x28,x29,x30,x31],_=>rfl
theorem RI(hl:h.length=32)(ix:Int)(o:Int × List Int)(x:Int)(cb:Bool):(Vg h ix o x cb).length=37:=by simp [Vg,fV,hl]
theorem zhi(hl:h.length=32)(ix:Int)(o:Int × List Int)(x:Int)(cb:Bool):cD (Wad 32 (QQa (0:Int))++[(QQc (0:Int)),(QQe (0:Int)),(V.sl 1 ([]:Ls)),(QQe (0:Int)),(V.sc (.bool false)),(QQe (0:Int))]) 0 (Vg h ix o x cb)=dC ⟨h,ix,o.1,o.2,x,cb,0⟩:=by
 match h,hl with
 | [x0,x1,x2,x3,x4,x5,x6,x7,x8,x9,x10,x11,x12,x13,x14,x15,x16,x17,x18,x19,x20,x21,x22,x23,x24,x25,x26,x27,x28,x29,x30,x31],_=>rfl
end
section
variable {Y:Type}
section
variable {due scs:List (List Int)} {x:Int}
theorem JQ(hs:∀ b∈scs,dG b)(hsn:scs.length<=10000000){t:TxS}(ht:TxSOk t){os:List (Int × List Int)}(ho:t.outs=os.map Bw)(hos:OsOk os)(b8:List V)(c:Int):∀ (m i:Nat),i+m=os.length->∀ (l:List OwT),(∀ w∈l,OwOk w)->l.length+m<=90000 ->
  (∃ (l':List OwT) (e:Int),(∀ w∈l',OwOk w)/\l'.length=0/\Fin2 λL=>∀ (n:Nat),m<n->∀ (Y:Type) (kr:Ls->Int->Option Y) (kx:pP Y),
   fj bS bM ci bY L kr kx n (l.map dC) (dS due) (dS scs) x c (i:Int) b8 (txr t)=kr (l'.map dC) e) ∨
  (∃ l':List OwT,(∀ w∈l',OwOk w)/\l'.length<=l.length+m/\Fin2 λL=>∀ (n:Nat),m<n->∀ (Y:Type) (kr:Ls->Int->Option Y) (kx:pP Y),
   fj bS bM ci bY L kr kx n (l.map dC) (dS due) (dS scs) x c (i:Int) b8 (txr t)=kx (l'.map dC) (dS due) (dS scs) x c b8)
 | 0,i,hi,l,hl,hn=>by
  refine .inr ⟨l,hl,by omega,0,λL _ n hn Y kr kx=>?_⟩;obtain ⟨n,rfl⟩:∃ k,n=k+1:=⟨n-1,by omega⟩;have h2:∀ (k:Ls->Option Y),cLd 2 (txr t) 2 k=k t.outs:=λk=>j4 rfl k;rw [fj,lr,h2,ho,WcO,dt (by omega)]
 | m+1,i,hi,l,hl,hn=>by
  have hio:i<os.length:=by omega
  have hb:=hos.b _ (WaV hio);have hl4:=hos.l _ (WaV hio);obtain ⟨h,hh,hhb,L1,h1⟩:=zgL ht;have hn2:=hos.n;have hoi:t.outs[i]?=some (Bw os[i]):=by rw [ho]; simp [hio]
  have hix:=Ij .u32 (i:Int);have hix:0<=Wbf .u32 (i:Int)/\Wbf .u32 (i:Int)<=4294967295:=hix;have hw:OwOk ⟨h,Wbf .u32 (i:Int),os[i].1,os[i].2,x,c==0,0⟩:=⟨hh,hhb,hix,hb,by show os[i].2.length<=1000; omega⟩;obtain ⟨l1,e1,g1,g2,g3⟩:=zgv hl (by omega) hw;have step:∀ (L:Nat),20000000+L1<=L->∀ (n:Nat) (Y:Type) (kr:Ls->Int->Option Y) (kx:pP Y),fj bS bM ci bY L kr kx (n+1) (l.map dC) (dS due) (dS scs) x c (i:Int) b8 (txr t) =
    ifb (!jM scs os[i].2) (fj bS bM ci bY L kr kx n (l.map dC) (dS due) (dS scs) x c ((i+1:Nat):Int) b8 (txr t)) (if e1=0 then fj bS bM ci bY L kr kx n (l1.map dC) (dS due) (dS scs) x c ((i+1:Nat):Int) b8 (txr t) else kr [] e1):=by
   intro L hL n Y kr kx;have h2:∀ (k:Ls->Option Y),cLd 2 (txr t) 2 k=k t.outs:=λk=>j4 rfl k;have h3:∀ (k:Ls->Option Y),cL 1 (WcM 1 (Bw os[i])) 0 k=k (eA .u8 os[i].2):=λk=>rm rfl k;have hp:((row .u8 h++[V.sc (.int .u32 (Wbf .u32 (i:Int)))]):List V).length=33:=by simp [fV,hh]
   have hr:WcK 2 (Bw os[i])=Bw os[i]:=rfl;have hz:z37.length=37:=rfl;have q1:(cD z37 0 (row .u8 h++[V.sc (.int .u32 (Wbf .u32 (i:Int)))])).length=37:=by rw [EA (by rw [hp,hz]; omega),hz]
   have q2:(cD (cD z37 0 (row .u8 h++[V.sc (.int .u32 (Wbf .u32 (i:Int)))])) 33 (Bw os[i])).length=37:=by rw [EA (by rw [q1]; show 33+2<=37; omega),q1]
   have q3:(cD (cD (cD z37 0 (row .u8 h++[V.sc (.int .u32 (Wbf .u32 (i:Int)))])) 33 (Bw os[i])) 35 [(QQe x)]).length=37:=by rw [EA (by rw [q2]; show 35+1<=37; omega),q2]
   rw [fj,lr,h2,ho,WcO,du (by omega),h2,ho,fe (c:=Bw os[i]) (by simp [hio]),h3,Xf (by omega) hsn hs hb];refine congr (congrArg _ ?_) ?_
   ·rw [cJ,up (by omega)]
   ·rw [bT (by rw [QS]; omega),K8,V5,h1 L (by omega),cJ,bT ⟨by rw [fV,hh],by omega⟩,bT ⟨rfl,by rw [EA (by rw [fV,hh]; decide)]; decide⟩,zhS hh,cJ,h2,ho,fe (c:=Bw os[i]) (by simp [hio]),hr,bT ⟨hp,by omega⟩,
     show (Wad 32 (QQa (0:Int))++[(QQc (0:Int)),(QQe (0:Int)),(V.sl 1 ([]:Ls)),(QQe (0:Int)),(V.sc (.bool false))])=z37 from rfl,
     bT ⟨rfl,by rw [q1]; omega⟩,bT ⟨rfl,by rw [q2]; omega⟩,bT ⟨rfl,by rw [q3]; omega⟩,zhE hh,cJ,bT ⟨RI hh _ _ _ _,by omega⟩,j9 (new:=Vg h (Wbf .u32 (i:Int)) os[i] x (c==0)) (by rw [RI hh]; rfl),cJ,bT (by rw [RI hh]; omega),WbR (by rw [RI hh]; omega),bT ⟨RI hh _ _ _ _,by omega⟩,zhi hh,cJ,zT,g3 L (by omega),iN,cJ,up (by omega)]
  cases hq:jM scs os[i].2 with
  | false=>
   rcases JQ hs hsn ht ho hos b8 c m (i+1) (by omega) l hl (by omega) with ⟨l2,e2,k1,k2,L2,k3⟩ | ⟨l2,k1,k2,L2,k3⟩
   ·refine .inl ⟨l2,e2,k1,k2,20000000+L1+L2,λL hL n hn Y kr kx=>?_⟩;obtain ⟨n,rfl⟩:∃ k,n=k+1:=⟨n-1,by omega⟩;rw [step L (by omega),hq,Bool.not_false,gZ,k3 L (by omega) n (by omega)]
   ·refine .inr ⟨l2,k1,by omega,20000000+L1+L2,λL hL n hn Y kr kx=>?_⟩;obtain ⟨n,rfl⟩:∃ k,n=k+1:=⟨n-1,by omega⟩;rw [step L (by omega),hq,Bool.not_false,gZ,k3 L (by omega) n (by omega)]
  | true=>
   by_cases he:e1=0
   ·rcases JQ hs hsn ht ho hos b8 c m (i+1) (by omega) l1 g1 (by omega) with ⟨l2,e2,k1,k2,L2,k3⟩ | ⟨l2,k1,k2,L2,k3⟩
    ·refine .inl ⟨l2,e2,k1,k2,20000000+L1+L2,λL hL n hn Y kr kx=>?_⟩;obtain ⟨n,rfl⟩:∃ k,n=k+1:=⟨n-1,by omega⟩;rw [step L (by omega),hq,WcR,eD,if_pos he,k3 L (by omega) n (by omega)]
    ·refine .inr ⟨l2,k1,by omega,20000000+L1+L2,λL hL n hn Y kr kx=>?_⟩;obtain ⟨n,rfl⟩:∃ k,n=k+1:=⟨n-1,by omega⟩;rw [step L (by omega),hq,WcR,eD,if_pos he,k3 L (by omega) n (by omega)]
   ·refine .inl ⟨[],e1,by simp,rfl,20000000+L1,λL hL n hn Y kr kx=>?_⟩;obtain ⟨n,rfl⟩:∃ k,n=k+1:=⟨n-1,by omega⟩;rw [step L (by omega),hq,WcR,eD,if_neg he]; rfl
theorem zcG(hd:∀ b∈due,dG b)(hdn:due.length<=10000000){t:TxS}(ht:TxSOk t)(b8:List V)(sc:Ls)(i:Nat){l:List OwT}(hl:∀ w∈l,OwOk w)(hn:l.length<=1000000):∃ l':List OwT,(∀ w∈l',OwOk w)/\l'.length=l.length/\∀ (L:Nat),20000000<=L->∀ (Y:Type) (kx:zM Y),
  gQ bS bM ci bY L kx L (l.map dC) (dS due) sc x (i:Int) 0 b8 (txr t)=kx (l'.map dC) (dS due) sc x (i:Int) b8 (txr t):=by
 have h1:∀ {Y:Type} (k:Ls->Option Y),cLd 35 (txr t) 1 k=k [ipt t++t.r]:=λk=>zgH t k;have hone:((([ipt t++t.r]:Ls).length:Nat):Int)=1:=rfl;by_cases h0:i=0
 ·subst h0;refine ⟨l,hl,rfl,λL hL Y kx=>?_⟩;obtain ⟨n,rfl⟩:∃ k,L=k+1:=⟨L-1,by omega⟩;rw [gQ,jL,h1,hone,du (by omega),dt (by omega)]
 ·let v:OwT:=⟨t.h,t.ix,0,[],0,false,0⟩
  obtain ⟨l',g1,g2,g3⟩:=zcK hl hn (v:=v) ht.hl hd hdn x;refine ⟨l',g1,g2,λL hL Y kx=>?_⟩;obtain ⟨n,rfl⟩:∃ k,L=k+2:=⟨L-2,by omega⟩;have g:=λ(k:Ls->Option Y)=>g3 (n+2) hL Y k;have hv:WcK 33 (ipt t++t.r)=gH v:=zbg ht;rw [gQ,jL,h1,hone,du (by omega),du (by omega),h1,wc (by decide) (c:=ipt t++t.r) rfl,hv,g,cJ,gQ,jL,h1,hone,dt (by decide)]
end
end
section
variable {s:ScT}
variable {Y:Type}
theorem zgW(t:TxS):cD [(QQc (0:Int)),(V.gs 35 ([]:Ls)),(V.gs 2 ([]:Ls)),(QQc (0:Int))] 0 (WcK 4 (txr t))=txr t:=rfl
section
variable {due scs:List (List Int)} {x:Int}
theorem Ue(hd:∀ b∈due,dG b)(hdn:due.length<=10000000)(hs:∀ b∈scs,dG b)(hsn:scs.length<=10000000){hdr:List V}(hh:hdr.length=68){tl:List TxS}(ht:∀ t∈tl,TxSOk t)(ht4:tl.length<=4):∀ (m i:Nat),i+m=tl.length->∀ (l:List OwT),(∀ w∈l,OwOk w)->l.length<=5000+2*i ->
  (∃ (l':List OwT) (e:Int),(∀ w∈l',OwOk w)/\l'.length=0/\Fin2 λL=>∀ (n:Nat),m<n->∀ (Y:Type) (kx:Ls->Option Y) (kr:Ls->Int->Option Y),
   g7 bS bM ci bY L kx kr n (l.map dC) (dS due) (dS scs) x (i:Int) (hdr++[V.sl 4 (tl.map txr)])=kr (l'.map dC) e) ∨
  (∃ l':List OwT,(∀ w∈l',OwOk w)/\l'.length<=5008/\Fin2 λL=>∀ (n:Nat),m<n->∀ (Y:Type) (kx:Ls->Option Y) (kr:Ls->Int->Option Y),
   g7 bS bM ci bY L kx kr n (l.map dC) (dS due) (dS scs) x (i:Int) (hdr++[V.sl 4 (tl.map txr)])=kx (l'.map dC))
 | 0,i,hi,l,hl,hn=>by
  have hb:(hdr++[V.sl 4 (tl.map txr)])[68]?=some (V.sl 4 (tl.map txr)):=by
   rw [Wal (by omega),hh]; rfl
  refine .inr ⟨l,hl,by omega,0,λL _ n hn Y kx kr=>?_⟩;obtain ⟨n,rfl⟩:∃ k,n=k+1:=⟨n-1,by omega⟩;rw [g7,mV,qx,j4 hb,WcO,dt (by omega)]
 | m+1,i,hi,l,hl,hn=>by
  have hb:(hdr++[V.sl 4 (tl.map txr)])[68]?=some (V.sl 4 (tl.map txr)):=by
   rw [Wal (by omega),hh]; rfl
  have hit:i<tl.length:=by omega
  have hti:=ht _ (WaV hit);obtain ⟨os,ho,hos⟩:=zfk hti;have hos2:=hos.n;obtain ⟨l1,g1,g2,g3⟩:=zcG (x:=x) hd hdn hti (hdr++[V.sl 4 (tl.map txr)]) (dS scs) i hl (by omega);have step:∀ (L:Nat),20000000<=L->∀ (n:Nat) (Y:Type) (kx:Ls->Option Y) (kr:Ls->Int->Option Y),g7 bS bM ci bY L kx kr (n+1) (l.map dC) (dS due) (dS scs) x (i:Int) (hdr++[V.sl 4 (tl.map txr)]) =
    fj bS bM ci bY L (λp10 p11=>mA bS bM ci bY L p10 p11 kr) (λp0 p1 p2 p4 p12 b8=>kH bS bM ci bY L p0 p1 p2 p4 p12 b8 (λp0 p1 p2 p4 p12 b8=>g7 bS bM ci bY L kx kr n p0 p1 p2 p4 p12 b8)) L (l1.map dC) (dS due) (dS scs) x (i:Int) ((0:Nat):Int) (hdr++[V.sl 4 (tl.map txr)]) (txr tl[i]):=by
   intro L hL n Y kx kr;rw [g7,mV,qx,j4 hb,WcO,du (by omega),j4 hb,fe (fm hit),bT ⟨rfl,by omega⟩,zgW,cJ];refine (g3 L hL Y _).trans ?_;rfl
  rcases JQ (x:=x) (due:=due) hs hsn hti ho hos (hdr++[V.sl 4 (tl.map txr)]) (i:Int) os.length 0 (by omega) l1 g1 (by omega) with ⟨l2,e2,k1,k2,L2,k3⟩ | ⟨l2,k1,k2,L2,k3⟩
  ·refine .inl ⟨l2,e2,k1,k2,20000000+L2,λL hL n hn Y kx kr=>?_⟩;obtain ⟨n,rfl⟩:∃ k,n=k+1:=⟨n-1,by omega⟩;rw [step L (by omega),k3 L (by omega) L (by omega)]; rfl
  ·have next:∀ (L:Nat),20000000+L2<=L->∀ (n:Nat) (Y:Type) (kx:Ls->Option Y) (kr:Ls->Int->Option Y),g7 bS bM ci bY L kx kr (n+1) (l.map dC) (dS due) (dS scs) x (i:Int) (hdr++[V.sl 4 (tl.map txr)]) =
     g7 bS bM ci bY L kx kr n (l2.map dC) (dS due) (dS scs) x ((i+1:Nat):Int) (hdr++[V.sl 4 (tl.map txr)]):=by
    intro L hL n Y kx kr;rw [step L (by omega),k3 L (by omega) L (by omega),kH,cJ,up (by omega)]
   rcases Ue hd hdn hs hsn hh ht ht4 m (i+1) (by omega) l2 k1 (by omega) with ⟨l3,e3,q1,q2,L3,q3⟩ | ⟨l3,q1,q2,L3,q3⟩
   ·refine .inl ⟨l3,e3,q1,q2,20000000+L2+L3,λL hL n hn Y kx kr=>?_⟩;obtain ⟨n,rfl⟩:∃ k,n=k+1:=⟨n-1,by omega⟩;rw [next L (by omega),q3 L (by omega) n (by omega)]
   ·refine .inr ⟨l3,q1,q2,20000000+L2+L3,λL hL n hn Y kx kr=>?_⟩;obtain ⟨n,rfl⟩:∃ k,n=k+1:=⟨n-1,by omega⟩;rw [next L (by omega),q3 L (by omega) n (by omega)]
theorem zfy(hd:∀ b∈due,dG b)(hdn:due.length<=10000000)(hs:∀ b∈scs,dG b)(hsn:scs.length<=10000000){hdr:List V}(hh:hdr.length=68){tl:List TxS}(ht:∀ t∈tl,TxSOk t)(ht4:tl.length<=4){l:List OwT}(hl:∀ w∈l,OwOk w)(hn:l.length<=4096) :
  ∃ (l':List OwT) (e:Int),(∀ w∈l',OwOk w)/\l'.length<=4096/\Fin2 λL=>∀ (Y:Type) (k:Ls->Int->Option Y),fQ Y L (l.map dC) (dS due) (dS scs) (hdr++[V.sl 4 (tl.map txr)]) x k=k (l'.map dC) e:=by
 rcases Ue (x:=x) hd hdn hs hsn hh ht ht4 tl.length 0 (by omega) l hl (by omega) with ⟨l2,e2,k1,k2,L2,k3⟩ | ⟨l2,k1,k2,L2,k3⟩
 ·refine ⟨l2,e2,k1,by omega,L2+10,λL hL Y k=>?_⟩;simp only [fQ,pB,tS];exact (k3 L (by omega) L (by omega) Y _ _).trans rfl
 ·by_cases hc:((l2.length:Nat):Int)>4096
  ·refine ⟨[],380,by simp,by simp,L2+10,λL hL Y k=>?_⟩;simp only [fQ,pB,tS];refine (k3 L (by omega) L (by omega) Y _ _).trans ?_;rw [oh,WcO,du hc]; rfl
  ·refine ⟨l2,0,k1,by omega,L2+10,λL hL Y k=>?_⟩;simp only [fQ,pB,tS];refine (k3 L (by omega) L (by omega) Y _ _).trans ?_;rw [oh,WcO,dt hc,bT (by simp [cy]; omega),WcQ,cJ]
end
theorem QL(hs:ScOk s)(r:Int):(∀ b∈o4 r s.tk,dG b)/\(o4 r s.tk).length<=1000:=by
 refine ⟨λb hb=>?_,Nat.le_trans (zcl r s.tk) hs.tl⟩;simp only [o4,List.mem_map,List.mem_filter] at hb;obtain ⟨t,⟨ht,_⟩,rfl⟩:=hb;exact (hs.tk t ht).s
theorem zcg(hs:ScOk s){x:Int}(hx:0<=x/\x<=1000){b:List V}(hb:∀ N W,GL N W tz b):∃ (s':ScT) (e:Int),ScOk s'/\Fin2 λL=>∀ (Y:Type) (k:List V->Int->Option Y),cY Y L (fE s) x b k=k (fE s') e:=by
 obtain ⟨e0,_,h0⟩:=zex hs x;have htl:=hs.tl;have hol:=hs.ol;have z:([(V.sl 3 ([]:Ls)),(V.sl 38 ([]:Ls))]:List V)=fE ⟨[],[]⟩:=rfl;have hbl:b.length=69:=(hb 0 (λ_=>0)).1.symm;have hbd:b.map V.ag=b:=G7 (by rfl) (hb 0 (λ_=>0));have hb69:WcK 69 b=b:=WbR (by omega);by_cases he0:e0=0;rotate_left
 ·refine ⟨⟨[],[]⟩,e0,rf,2000000,λL hL Y k=>?_⟩;simp only [cY,oe,s_c,s_d,z];rw [h0 L hL,iN,if_neg he0,cJ,bT ⟨trivial,rfl,by decide⟩]
 obtain ⟨e1,_,L1,h1⟩:=Xu hb;by_cases he1:e1=0;rotate_left
 ·refine ⟨⟨[],[]⟩,e1,rf,2000000+L1,λL hL Y k=>?_⟩;simp only [cY,oe,s_c,s_d,z];rw [h0 L (by omega),iN,if_pos he0,bT (by omega),hb69,hbd,h1 L (by omega),iN,if_neg he1,cJ,bT ⟨trivial,rfl,by decide⟩]
 obtain ⟨d1,d2⟩:=QL hs (gV s.tk);obtain ⟨hdr,tl,rfl,q1,_,q2,_,q3⟩:=Wl hb;obtain ⟨ow,e2,g1,g2,L2,g3⟩:=zfy (x:=x) d1 (by omega) d1 (by omega) q1 q2 q3 hs.ow hol;by_cases he2:e2=0;rotate_left
 ·refine ⟨⟨[],[]⟩,e2,rf,2000000+L1+L2,λL hL Y k=>?_⟩;simp only [cY,oe,s_c,s_d,z];rw [h0 L (by omega),iN,if_pos he0,bT (by omega),hb69,hbd,h1 L (by omega),iN,if_pos he1,s_1,Jt (by omega) (by omega),Jt (by omega) (by omega),bT (by omega),g3 L (by omega),iN,if_neg he2,cJ,bT ⟨trivial,rfl,by decide⟩]
 ·obtain ⟨tk,t1,t2,t3⟩:=zfX hs (x:=x) (by omega);refine ⟨⟨tk,ow⟩,0,⟨t1,by show tk.length<=1000; omega,g1,g2⟩,2000000+L1+L2,λL hL Y k=>?_⟩;simp only [cY,oe,s_c,s_d,z];rw [h0 L (by omega),iN,if_pos he0,bT (by omega),hb69,hbd,h1 L (by omega),iN,if_pos he1,s_1,Jt (by omega) (by omega),Jt (by omega) (by omega),bT (by omega),g3 L (by omega),iN,if_pos he2,t3 L (by omega),bT (show (fE _).length=2 from rfl),zdQ,zdW,cJ,bT ⟨trivial,rfl,by decide⟩];rfl
end
end Go.Proofs.YtipklgbboecciaaGreat
