/- Part 14 of the proof of ScanNext: an abstract machine over plain values, its soundness, and the functions of the program on plain values. -/
import Derived.Test.YtipklgbboecciaaGreatMScanNext13
namespace Go.Proofs.YtipklgbboecciaaGreat
set_option maxRecDepth 100000
set_option linter.unusedVariables false
set_option linter.unusedSimpArgs false
open List renaming forall_mem_cons->WcW,forall_mem_nil->WcX,length_map->WcO,replicate->Wad,take_of_length_le->WbR,getElem_mem->WaV,getElem?_append_right->Wal,take->WcK,length->WcJ,map_append->WcY,nil_append->WcQ,mem_cons->WbL,mem_append->Wbt,drop->WcM,length_nil->WcT,mem_singleton->WcF,length_cons->WcZ,mem_cons_of_mem->WcB,mem_cons_self->Wcy,mem_or_eq_of_mem_set->Wda,append_assoc->WcG,eq_of_mem_replicate->Wdb,mem_map->WbX,getElem?_cons_succ->Wbq,length_set->Wdc,take_left->Wdd,drop_zero->WcP,mem_of_mem_take->WaI,mem_of_mem_drop->WaP
open IntKind renaming wrap->Wbf,u8->Wdf
open Bool renaming not_true->WcR
open Int renaming toNat->WcL,tmod->Wde
section
variable {s:ScT}{l:List OwT}{i:Nat}{x:Int}{w:OwT}
variable {Y:Type}
theorem rg:ScOk ⟨[],[]⟩:=⟨by simp,by simp,by simp,by simp⟩
theorem zdU(s:ScT)(k:Ls->Option Y):cL 3 (fE s) 0 k=k (s.tk.map jC):=rC rfl k
theorem zdN(s:ScT)(k:Ls->Option Y):cL 38 (fE s) 1 k=k (s.ow.map dC):=rC rfl k
theorem Ki(L:Nat)(h1:s.tk.length<=1000000)(h2:s.ow.length<=1000000)(k:Nat->Nat->List V->List V->Option Y):ca Y L (fE s) k=k s.tk.length s.ow.length (s.tk.map jC).flatten (s.ow.map dC).flatten:=by
 simp only [ca,zC,zdU,zdN,WcO];rw [bT (show (fE s).length=2 from rfl),bT (by simp only [cy]; omega),bT (by simp only [cy]; omega)]
theorem RS(l:List TkT):cz 3 l.length (l.map jC).flatten=l.map jC:=by
 have:=Az (Al l)
 rwa [WcO] at this
theorem Tb(h:∀ w∈l,w.h.length=32):cz 38 l.length (l.map dC).flatten=l.map dC:=by
 have:=Az (D0 h)
 rwa [WcO] at this
theorem zgb(hs:ScOk s){b:List Int}(hb:dG b)(hl:b.length<=1000)(x:Int):∃ (s':ScT) (e:Int),ScOk s'/\∀ (L:Nat),2000000<=L->∀ (Y:Type) (k:List V->Int->Option Y),dz Y L (fE s) (eB .u8 b) x k=k (fE s') e:=by
 obtain ⟨v,hv⟩:=Oj hs;have htl:=hs.tl;have hol:=hs.ol;have z:([(V.sl 3 ([]:Ls)),(V.sl 38 ([]:Ls))]:List V)=fE ⟨[],[]⟩:=rfl;have e:∀ (L:Nat),2000000<=L->∀ (Y:Type) (k:List V->Int->Option Y),dz Y L (fE s) (eB .u8 b) x k =
   ifb (!v) (k (fE ⟨[],[]⟩) 6) (ifb (decide (((s.tk.length:Nat):Int)>=1000)) (k (fE ⟨[],[]⟩) 4) (ifb (decide (((b.length:Nat):Int)>520)) (k (fE ⟨[],[]⟩) 4) (ifb (((b.length:Nat):Int)==0) (k (fE ⟨[],[]⟩) 93) (ifb (!cond (decide (x>=1)) (decide (x<=16777216)) false) (k (fE ⟨[],[]⟩) 5) (ifb (decide (lH (λt:TkT=>decide (t.aA=b)) s.tk 0>=0)) (k (fE ⟨[],[]⟩) 150) (k (fE ⟨s.tk++[⟨b,x,Wbf .i64 (x-1)⟩],s.ow⟩) 0)))))):=by
  intro L hL Y k;simp only [dz,F7,s_c,s_d,z];rw [hv L hL,s_0,WcO,jl,WP,zf8 hL hs hb,Ki L (by omega) (by omega),WcQ,cH,cH];have h1:cz 3 1 [(V.sl 1 (eB .u8 b)),(QQe x),(QQe (Wbf .i64 (x-1)))]=[jC ⟨b,x,Wbf .i64 (x-1)⟩]:=rfl;rw [h1,bT (by simp [jl,cy]; omega),bT (by simp [cy]; omega),cH];have h2:WcK (s.tk.length*3) (s.tk.map jC).flatten=(s.tk.map jC).flatten:=WbR (by rw [HC (Al _),WcO]; omega);rw [h2,show (s.tk.map jC).flatten++[jC ⟨b,x,Wbf .i64 (x-1)⟩].flatten=((s.tk++[(⟨b,x,Wbf .i64 (x-1)⟩:TkT)]).map jC).flatten by simp,
   show s.tk.length+WcJ [jC ⟨b,x,Wbf .i64 (x-1)⟩]=(s.tk++[(⟨b,x,Wbf .i64 (x-1)⟩:TkT)]).length by simp,RS,Tb λw hw=>(hs.ow w hw).hl]
  rfl
 cases v with
 | false=>exact ⟨⟨[],[]⟩,6,rg,λL hL Y k=>by rw [e L hL]; rfl⟩
 | true=>
 by_cases c1:((s.tk.length:Nat):Int)>=1000
 ·exact ⟨⟨[],[]⟩,4,rg,λL hL Y k=>by rw [e L hL,WcR,eC,dt c1]⟩
 by_cases c2:((b.length:Nat):Int)>520
 ·exact ⟨⟨[],[]⟩,4,rg,λL hL Y k=>by rw [e L hL,WcR,eC,du c1,dt c2]⟩
 by_cases c3:((b.length:Nat):Int)=0
 ·exact ⟨⟨[],[]⟩,93,rg,λL hL Y k=>by rw [e L hL,WcR,eC,du c1,du c2,fd c3]⟩
 cases c4:cond (decide (x>=1)) (decide (x<=16777216)) false with
 | false=>exact ⟨⟨[],[]⟩,5,rg,λL hL Y k=>by rw [e L hL,WcR,eC,du c1,du c2,eA c3,c4]; rfl⟩
 | true=>
 by_cases c5:lH (λt:TkT=>decide (t.aA=b)) s.tk 0>=0
 ·exact ⟨⟨[],[]⟩,150,rg,λL hL Y k=>by rw [e L hL,WcR,eC,du c1,du c2,eA c3,c4,WcR,eC,dt c5]⟩
 ·refine ⟨⟨s.tk++[⟨b,x,Wbf .i64 (x-1)⟩],s.ow⟩,0,⟨λt ht=>?_,by simp; omega,hs.ow,hol⟩,λL hL Y k=>by rw [e L hL,WcR,eC,du c1,du c2,eA c3,c4,WcR,eC,du c5]⟩;rcases Wbt.1 ht with h | h
  ·exact hs.tk t h
  ·obtain rfl:=WcF.1 h;have hx:=X1 c4;refine ⟨hb,hl,by omega,?_⟩;show 0<=Wbf .i64 (x-1)/\Wbf .i64 (x-1)<=16777216;rw [kK (by omega) (by omega)]; omega
theorem zfg(hs:ScOk s)(x:Int):∃ e:Int,(e=0->x<=16777216)/\∀ (L:Nat),2000000<=L->∀ (Y:Type) (k:Int->Option Y),f0 Y L (fE s) x k=k e:=by
 obtain ⟨v,hv⟩:=Oj hs;have htl:=hs.tl;have e:∀ (L:Nat),2000000<=L->∀ (Y:Type) (k:Int->Option Y),f0 Y L (fE s) x k=ifb (!v) (k 6) (ifb (((s.tk.length:Nat):Int)==0) (k 300) (ifb (x != Wbf .i64 (gY s.tk+1)) (k 300) (ifb (decide (x>16777216)) (k 300) (k 0)))):=by
  intro L hL Y k;simp only [f0,Db,s_c,s_d];rw [hv L hL,s_0,WcO,yf hL (by omega),cH]
 cases v with
 | false=>exact ⟨6,by omega,λL hL Y k=>by rw [e L hL]; rfl⟩
 | true=>
 by_cases c1:((s.tk.length:Nat):Int)=0
 ·exact ⟨300,by omega,λL hL Y k=>by rw [e L hL,WcR,eC,fd c1]⟩
 by_cases c2:x=Wbf .i64 (gY s.tk+1);rotate_left
 ·exact ⟨300,by omega,λL hL Y k=>by rw [e L hL,WcR,eC,eA c1,iN,if_neg c2]⟩
 by_cases c3:x>16777216
 ·exact ⟨300,by omega,λL hL Y k=>by rw [e L hL,WcR,eC,eA c1,iN,if_pos c2,dt c3]⟩
 ·exact ⟨0,by omega,λL hL Y k=>by rw [e L hL,WcR,eC,eA c1,iN,if_pos c2,du c3]⟩
theorem zdA{l:List TkT}(h:i<l.length):(l.map jC).flatten[0+((WcL (i:Int))*3)+2]?=some (QQe l[i].r):=by
 rw [show 0+((WcL (i:Int))*3)+2=i*3+2 by simp,Np (by omega) (Al l) (by omega) (fm h)]; rfl
theorem zhl{l:List TkT}(h:i<l.length):(l.map jC).flatten[0+((WcL (i:Int))*3)+1]?=some (QQe l[i].b):=by
 rw [show 0+((WcL (i:Int))*3)+1=i*3+1 by simp,Np (by omega) (Al l) (by omega) (fm h)]; rfl
theorem zd4{l:List TkT}(h:i<l.length)(x:Int):cD (l.map jC).flatten (0+((WcL (i:Int))*3)+2) [V.sc (.int .i64 x)]=((l.set i { l[i] with r:=x }).map jC).flatten:=by
 rw [show 0+((WcL (i:Int))*3)+2=i*3+2 by simp,Wt (by omega) (Al l) (by omega) (fm h),List.map_set]; rfl
theorem zaJ(l:List TkT):(l.map jC).flatten.length=l.length*3:=by rw [HC (Al l),WcO]
theorem XW{l:List TkT}(hl:∀ t∈l,TkOk t)(h:i<l.length)(hx:0<=x/\x<=16777216):∀ t∈l.set i { l[i] with r:=x },TkOk t:=by
 intro t ht;rcases Wda ht with h1 | rfl
 ·exact hl t h1
 ·have:=hl _ (WaV h);exact ⟨this.s,this.l,this.b,hx⟩
theorem Nw{x:Int}(hx:0<=x/\x<=16777216):∀ (m i:Nat) (l:List TkT),(∀ t∈l,TkOk t)->l.length<=1000000->l.length-i=m->∃ l':List TkT,(∀ t∈l',TkOk t)/\l'.length=l.length/\∀ (L n:Nat),m<n->∀ (Y:Type) (kx:ve Y) (a b:Ls) (q:Nat) (c:List V),
  iT ca L kx n x (i:Int) a b l.length q (l.map jC).flatten c=kx a b l'.length q (l'.map jC).flatten c
 | 0,i,l,hl,hn,hi=>⟨l,hl,rfl,λL n hn Y kx a b q c=>by
  obtain ⟨n,rfl⟩:∃ k,n=k+1:=⟨n-1,by omega⟩;rw [iT,kX,du (by omega)]⟩
 | m+1,i,l,hl,hn,hi=>by
  have h:i<l.length:=by omega
  have h2:(0:Int)<=(i:Int)/\(i:Int)<((l.length:Nat):Int):=by omega
  by_cases hr:l[i].r=Wbf .i64 (x-1)
  ·obtain ⟨l',g1,g2,g3⟩:=Nw hx m (i+1) (l.set i { l[i] with r:=x }) (XW hl h hx) (by simpa using hn) (by simp; omega);refine ⟨l',g1,by simpa using g2,λL n hn Y kx a b q c=>?_⟩;obtain ⟨n,rfl⟩:∃ k,n=k+1:=⟨n-1,by omega⟩;have:=g3 L n (by omega) Y kx a b q c;rw [Wdc] at this;rw [iT,kX,dt h2.2,bT h2,eQ (zdA h),cH,fd hr,bT h2,bT ⟨rfl,by rw [zaJ]; simp; omega⟩,zd4 h,cH,cH,up (by omega),this]
  ·obtain ⟨l',g1,g2,g3⟩:=Nw hx m (i+1) l hl hn (by omega);refine ⟨l',g1,g2,λL n hn Y kx a b q c=>?_⟩;obtain ⟨n,rfl⟩:∃ k,n=k+1:=⟨n-1,by omega⟩;rw [iT,kX,dt h2.2,bT h2,eQ (zdA h),cH,eA hr,cH,up (by omega),g3 L n (by omega)]
theorem zgk(hs:ScOk s)(hx:0<=x/\x<=16777216):∃ tk:List TkT,(∀ t∈tk,TkOk t)/\tk.length=s.tk.length/\∀ (L:Nat),2000000<=L->∀ (Y:Type) (k:List V->Option Y),ft Y L (fE s) x k=k (fE ⟨tk,s.ow⟩):=by
 have htl:=hs.tl;have hol:=hs.ol;obtain ⟨tk,g1,g2,g3⟩:=Nw hx _ 0 s.tk hs.tk (by omega) rfl;refine ⟨tk,g1,g2,λL hL Y k=>?_⟩;simp only [ft,sA,xH,s_c,s_d];rw [Ki L (by omega) (by omega)];refine (g3 L L (by omega) Y _ _ _ _ _).trans ?_;rw [oZ,RS,Tb λw hw=>(hs.ow w hw).hl];rfl
theorem zfJ(h:w.h.length=32)(x:Int):cD (dC w) 37 [V.sc (.int .i64 x)]=dC { w with sp:=x }:=by
 rw [KG (by rw [fM h]; omega)];unfold dC;rw [List.set_append_right _ _ (by rw [i5 h]; omega),i5 h];rfl
theorem Y2(h:w.h.length=32):cz 38 1 (dC w)=[dC w]:=by
 simp only [cz,kJ h]
theorem Fa{l:List OwT}(hl:∀ w∈l,OwOk w)(hn:l.length<=100000)(x:Int):∀ (m i:Nat) (acc:List OwT),(∀ w∈acc,OwOk w)->acc.length<=i->l.length-i=m->i<=l.length->∃ l':List OwT,(∀ w∈l',OwOk w)/\l'.length<=l.length/\∀ (L n:Nat),m<n->∀ (Y:Type) (kx:Ls->Option Y),
  je L kx n (l.map dC) x (acc.map dC) (i:Int)=kx (l'.map dC)
 | 0,i,acc,ha,hal,hi,hil=>⟨acc,ha,by omega,λL n hn Y kx=>by
  obtain ⟨n,rfl⟩:∃ k,n=k+1:=⟨n-1,by omega⟩;rw [je,lz,WcO,du (by omega)]⟩
 | m+1,i,acc,ha,hal,hi,hil=>by
  have h:i<l.length:=by omega
  have hw:=hl _ (WaV h);have app:∀ w:OwT,OwOk w->∀ v∈acc++[w],OwOk v:=λw hw v hv=>(Wbt.1 hv).elim (ha v) λh=>(WcF.1 h) ▸ hw;by_cases c1:l[i].ht>x
  ·obtain ⟨l',g1,g2,g3⟩:=Fa hl hn x m (i+1) acc ha (by omega) (by omega) (by omega);refine ⟨l',g1,g2,λL n hn Y kx=>?_⟩;obtain ⟨n,rfl⟩:∃ k,n=k+1:=⟨n-1,by omega⟩;rw [je,lz,WcO,dt (by omega),fe (fm h),kJ hw.hl,bT ⟨fM hw.hl,by omega⟩,Lu hw.hl,cH,eQ (kl hw.hl 2),dt c1,cH,up (by omega),g3 L n (by omega)]
  by_cases c2:l[i].sp>x
  ·have hw2:OwOk { l[i] with sp:=0 }:=⟨hw.hl,hw.hb,hw.ix,hw.s,hw.l⟩;obtain ⟨l',g1,g2,g3⟩:=Fa hl hn x m (i+1) (acc++[{ l[i] with sp:=0 }]) (app _ hw2) (by simp; omega) (by omega) (by omega);refine ⟨l',g1,g2,λL n hn Y kx=>?_⟩;obtain ⟨n,rfl⟩:∃ k,n=k+1:=⟨n-1,by omega⟩;have:=g3 L n (by omega) Y kx;rw [WcY] at this;rw [je,lz,WcO,dt (by omega),fe (fm h),kJ hw.hl,bT ⟨fM hw.hl,by omega⟩,Lu hw.hl,cH,eQ (kl hw.hl 2),du c1,eQ (kl hw.hl 4),dt c2,bT ⟨rfl,by rw [fM hw.hl]; omega⟩,zfJ hw.hl,cH,bT (by rw [fM hw2.hl]; omega),kJ hw2.hl,bT ⟨fM hw2.hl,by omega⟩,VT hw2.hl,Y2 hw2.hl,bT (by simp [cy]; omega),cH,cH,up (by omega)];exact this
  ·obtain ⟨l',g1,g2,g3⟩:=Fa hl hn x m (i+1) (acc++[l[i]]) (app _ hw) (by simp; omega) (by omega) (by omega);refine ⟨l',g1,g2,λL n hn Y kx=>?_⟩;obtain ⟨n,rfl⟩:∃ k,n=k+1:=⟨n-1,by omega⟩;have:=g3 L n (by omega) Y kx;rw [WcY] at this;rw [je,lz,WcO,dt (by omega),fe (fm h),kJ hw.hl,bT ⟨fM hw.hl,by omega⟩,Lu hw.hl,cH,eQ (kl hw.hl 2),du c1,eQ (kl hw.hl 4),du c2,bT (by rw [fM hw.hl]; omega),kJ hw.hl,bT ⟨fM hw.hl,by omega⟩,VT hw.hl,Y2 hw.hl,bT (by simp [cy]; omega),cH,cH,up (by omega)];exact this
theorem zfv(hl:∀ w∈l,OwOk w)(hn:l.length<=100000)(x:Int):∃ l':List OwT,(∀ w∈l',OwOk w)/\l'.length<=l.length/\∀ (L:Nat),2000000<=L->∀ (Y:Type) (k:Ls->Option Y),dy Y L (l.map dC) x k=k (l'.map dC):=by
 obtain ⟨l',g1,g2,g3⟩:=Fa hl hn x _ 0 [] (by simp) (by simp) rfl (by omega);refine ⟨l',g1,g2,λL hL Y k=>?_⟩;simp only [dy,yH,C4];exact (g3 L L (by omega) Y _).trans rfl
theorem Xe{x:Int}(hx:0<=x/\x<=16777216):∀ (m i:Nat) (l:List TkT),(∀ t∈l,TkOk t)->l.length<=1000000->l.length-i=m->∃ l':List TkT,(∀ t∈l',TkOk t)/\l'.length=l.length/\∀ (L n:Nat),m<n->∀ (Y:Type) (kx:wD Y) (d:List V) (a b:Ls) (q:Nat) (c:List V),
  jF cF cd ca dy L kx n x (i:Int) d a b l.length q (l.map jC).flatten c=kx x d a b l'.length q (l'.map jC).flatten c
 | 0,i,l,hl,hn,hi=>⟨l,hl,rfl,λL n hn Y kx d a b q c=>by
  obtain ⟨n,rfl⟩:∃ k,n=k+1:=⟨n-1,by omega⟩;rw [jF,mH,du (by omega)]⟩
 | m+1,i,l,hl,hn,hi=>by
  have h:i<l.length:=by omega
  have h2:(0:Int)<=(i:Int)/\(i:Int)<((l.length:Nat):Int):=by omega
  have ht:=hl _ (WaV h);have hb:=ht.b;have hr:=ht.r;have hv:0<=Wj (JR l[i].r x) (Wbf .i64 (l[i].b-1))/\Wj (JR l[i].r x) (Wbf .i64 (l[i].b-1))<=16777216:=by
   rw [kK (by omega) (by omega)];unfold Wj JR;split <;> split <;> omega
  obtain ⟨l',g1,g2,g3⟩:=Xe hx m (i+1) (l.set i { l[i] with r:=Wj (JR l[i].r x) (Wbf .i64 (l[i].b-1)) }) (XW hl h hv) (by simpa using hn) (by simp; omega);refine ⟨l',g1,by simpa using g2,λL n hn Y kx d a b q c=>?_⟩;obtain ⟨n,rfl⟩:∃ k,n=k+1:=⟨n-1,by omega⟩;have:=g3 L n (by omega) Y kx d a b q c;rw [Wdc] at this;rw [jF,mH,dt h2.2,bT h2,eQ (zdA h),cH,bT h2,eQ (zhl h),cH,cH,bT h2,bT ⟨rfl,by rw [zaJ]; simp; omega⟩,zd4 h,cH,cH,up (by omega),this]
theorem zgx(hs:ScOk s)(x:Int):∃ (s':ScT) (e:Int),ScOk s'/\∀ (L:Nat),2000000<=L->∀ (Y:Type) (k:List V->Int->Option Y),cS Y L (fE s) x k=k (fE s') e:=by
 obtain ⟨v,hv⟩:=Oj hs;have htl:=hs.tl;have hol:=hs.ol;have z:([(V.sl 3 ([]:Ls)),(V.sl 38 ([]:Ls))]:List V)=fE ⟨[],[]⟩:=rfl;cases v with
 | false=>
  refine ⟨⟨[],[]⟩,6,rg,λL hL Y k=>?_⟩;simp only [cS,ny,pM,s_c,s_d,z];rw [hv L hL]; rfl
 | true=>
 cases c4:cond (decide (x>=0)) (decide (x<=16777216)) false with
 | false=>
  refine ⟨⟨[],[]⟩,5,rg,λL hL Y k=>?_⟩;simp only [cS,ny,pM,s_c,s_d,z];rw [hv L hL,WcR,eC,WP,c4]; rfl
 | true=>
  obtain ⟨tk,g1,g2,g3⟩:=Xe (X1 c4) _ 0 s.tk hs.tk (by omega) rfl;obtain ⟨ow,g4,g5,g6⟩:=zfv hs.ow (by omega) x;refine ⟨⟨tk,ow⟩,0,⟨g1,by show tk.length<=1000; omega,g4,by show ow.length<=4096; omega⟩,λL hL Y k=>?_⟩;simp only [cS,ny,pM,s_c,s_d,z];rw [hv L hL,WcR,eC,WP,c4,WcR,eC,Ki L (by omega) (by omega)];refine (g3 L L (by omega) Y _ _ _ _ _ _).trans ?_;rw [n7,s_1,g6 L hL,RS];rfl
def spd(w:OwT)(x:Int):OwT:={ w with sp:=x }
theorem zb8(hl:∀ w∈l,w.h.length=32)(h:i<l.length){j:Nat}(hj:j<5):(l.map dC).flatten[i*38+(33+j)]?=(Ho l[i])[j]?:=by
 rw [Np (by omega) (D0 hl) (by omega) (fm h),kl (hl _ (WaV h))]
theorem zfR(hl:∀ w∈l,w.h.length=32)(h:i<l.length)(x:Int):cD (l.map dC).flatten ((0+(WcL (i:Int))*38)+37) [V.sc (.int .i64 x)]=((l.set i (spd l[i] x)).map dC).flatten:=by
 have hw:=hl _ (WaV h);have e:=zfJ hw x;rw [KG (by rw [fM hw]; omega)] at e;rw [show ((0+(WcL (i:Int))*38)+37)=i*38+37 by simp,Wt (by omega) (D0 hl) (by omega) (fm h),e,List.map_set]; rfl
theorem WB(hl:∀ w∈l,w.h.length=32):(l.map dC).flatten.length=l.length*38:=by rw [HC (D0 hl),WcO]
theorem zcK(hl:∀ w∈l,OwOk w)(h:i<l.length)(x:Int):∀ w∈l.set i (spd l[i] x),OwOk w:=by
 intro t ht;rcases Wda ht with h1 | rfl
 ·exact hl t h1
 ·have hw:=hl _ (WaV h);exact ⟨hw.hl,hw.hb,hw.ix,hw.s,hw.l⟩
theorem zfE(L:Nat)(v n:Int)(hn:1<=n)(hn2:n<=1000000000000):∃ r,0<=r/\r<n/\∀ (Y:Type) (k:Int->Option Y),dg Y L v n k=k r:=by
 by_cases h:Wde v n<0
 ·have h1:=Int.lt_tmod_of_pos v (show 0<n by omega);refine ⟨Wde v n+n,by omega,by omega,λY k=>?_⟩;simp only [dg,Cq,cH];rw [bT (by omega),dt h,kK (by omega) (by omega)]
 ·have h1:=Int.tmod_lt_of_pos v (show 0<n by omega);refine ⟨Wde v n,by omega,h1,λY k=>?_⟩;simp only [dg,Cq,cH];rw [bT (by omega),du h]
theorem X7(v n:Int)(hn:1<=n)(hn2:n<=1000000000000):∃ r,0<=r/\r<n/\∀ (L:Nat) (Y:Type) (k:Int->Option Y),dg Y L v n k=k r:=by
 obtain ⟨r,h1,h2,h3⟩:=zfE 0 v n hn hn2;exact ⟨r,h1,h2,λL Y k=>h3 Y k⟩
def crw(w:OwT):List V:=gF w++[V.sc (.int .i64 w.val),V.sl 1 (eB .u8 w.aA),V.sc (.int .i64 w.ht),V.sc (.bool w.cb)]
theorem zH(h:w.h.length=32):(crw w).length=37:=by simp [crw,i5 h]
theorem zfD(h:w.h.length=32):WcK 37 (dC w)=crw w:=by
 unfold dC crw Ho;rw [List.take_append,i5 h,WbR (by rw [i5 h]; omega)]; rfl
theorem zeU(w:OwT):(crw w).map V.ag=crw w:=by simp only [crw,WcY,Wm]; rfl
theorem zdm(h:w.h.length=32):WcK 33 (crw w)=gF w:=by unfold crw; rw [<- i5 h,Wdd]
theorem zee(h:w.h.length=32):(crw w)[34]?=some (V.sl 1 (eB .u8 w.aA)):=by
 unfold crw;rw [Wal (by rw [i5 h]; omega),i5 h]; rfl
end
section
noncomputable section
def aU8:A:=.iv .u8 0 255
def lu:A:=.iv .u32 0 4294967295
def Vo:A:=.iv .u64 0 18446744073709551615
def oN:A:=.iv .i64 (-9223372036854775808) 9223372036854775807
def tM:A:=.iv .i64 0 999
def vY:List A:=Wad 32 aU8
def vK:A:=.agg vY
def vP:A:=.agg (Wad 4 Vo)
def GQ:A:=.am 0 1 [[.int .u8 ⟨1,[]⟩],[.int .u8 ⟨1,[]⟩],[.iv .u8 1 6],[.int .u8 ⟨5,[]⟩]]
def zhR:A:=.ai 0 1 0 1 [.am 0 1 [[.iv .u8 1 6]]]
def CO:List A:=lu::(vY++(vY++[lu,lu,lu]))
def DN:A:=.agg CO
def tR:List A:=CO++[Vo,Vo,Vo,Vo,.iv .i64 3 7,.int .u32 ⟨5,[]⟩,lu,lu,.am 0 33 [],.int .i64 ⟨1000,[]⟩,.iv .i64 4 6,.iv .i64 0 2]
def mN:A:=.agg tR
def zay:A:=.ai 0 1 0 11 [lu]
def Em:List A:=oN::(vY++[lu,lu,zay])
def Af:A:=.agg Em
def zhm:List A:=vY++[lu]
def Xa:A:=.agg zhm
def zg4:List A:=vY++[lu,lu,zhR]
def S7:List A:=[oN,GQ]
def aTx:List A:=[lu,.ai 0 35 1 1 zg4,.ai 0 2 1 2 S7,lu]
def wN:A:=.agg aTx
def tQ:List A:=CO++[.ai 0 4 1 4 aTx]
def zD:A:=.agg tQ
def oA:List A:=vY++[lu,oN,GQ,oN,.bool]
def zgq:A:=.agg oA
def rh:Int->A:=λn=>.ai 0 37 0 n oA
def tS:List A:=oN::(vY++[rh 100000])
def pI:A:=.agg tS
def Kd:List A:=[rh 3]
def Pe:A:=.agg Kd
def zbp:Int->Int->A:=λn m=>.agg (tR++[.ai 0 69 0 n tQ,.ai 0 34 1 m tS,.ai 0 36 1 m Em,.ai 0 1 0 n Kd])
def zhO:SS:=⟨[(0,3),(-9223372036854775808,9223372036854775807),(0,100003),(0,3),(0,100000)],[⟨0,[(0,1),(3,-1)]⟩,⟨-100000,[(2,1),(3,-1)]⟩],rA 2 (.ex .ae) (aU8::.ptr 3 ⟨0,[]⟩::.ptr 4 ⟨0,[]⟩::rA 3 (.ex .ae) (.ak 1 4 ⟨0,[(0,1)]⟩ aTx::.int .i64 ⟨0,[(1,1)]⟩::.ak 1 37 ⟨0,[(2,1)]⟩ oA::.int .u8 ⟨0,[(3,1)]⟩::rA 101 (.ex .ae) [])),rA 3 .gone (.live true tR::.live true (oN::(vY++[.ak 0 37 ⟨0,[(4,1)]⟩ oA]))::rA 108 .gone [])⟩
def zh5:SS:=⟨[(0,3),(-9223372036854775808,9223372036854775807),(0,100003),(0,3),(0,100000),(0,255),(0,100003)],[⟨0,[(2,-1),(6,1)]⟩,⟨0,[(0,1),(3,-1)]⟩,⟨-100000,[(2,1),(3,-1)]⟩,⟨-2,[(3,1)]⟩],rA 2 (.ex .ae) (.int .u8 ⟨0,[(5,1)]⟩::.ptr 3 ⟨0,[]⟩::.ptr 4 ⟨0,[]⟩::rA 3 (.ex .ae) (.ak 1 4 ⟨0,[(0,1)]⟩ aTx::.int .i64 ⟨0,[(1,1)]⟩::.ak 1 37 ⟨0,[(2,1)]⟩ oA::.int .u8 ⟨0,[(3,1)]⟩::.int .i64 ⟨0,[(2,1)]⟩::.int .i64 ⟨0,[(6,1)]⟩::rA 99 (.ex .ae) [])),rA 3 .gone (.live true tR::.live true (oN::(vY++[.ak 0 37 ⟨0,[(4,1)]⟩ oA]))::rA 108 .gone [])⟩
def mdL:List (Nat × MD):=[(513,[(0,none)]),(566,[(0,none)]),(565,[(0,none)]),(563,[(0,none)]),(533,[(0,none)]),(569,[(0,none),(1,none)]),(473,[(0,none)]),(521,[(0,none)]),(482,[(0,none)]),(470,[(0,some zhO),(1,some zh5)]),(480,[(0,none)]),(525,[(0,none)])]
def mdI(g:Nat):MD:=zfS g mdL
def zdP:Inst:=⟨531,[.iv .u64 0 1000000],.ai 1 1 9 72 [aU8]⟩
def Q7:Inst:=⟨569,[.agg (Wad 64 aU8)],.agg (Wad 64 lu)⟩
def QM:Inst:=⟨533,[.agg (Wad 8 lu),.agg (Wad 64 aU8)],.agg (Wad 8 lu)⟩
def Vd:Inst:=⟨494,[.ai 0 1 0 1000 [aU8]],vK⟩
def HG:Inst:=⟨454,[.ai 0 1 0 1000 [aU8]],vK⟩
def P4:Inst:=⟨429,[DN],vK⟩
def Zp:Inst:=⟨563,[vP,vP,vP],.ah [vP,vP,.bool]⟩
def JE:Inst:=⟨565,[.agg (Wad 4 (.int .u64 ⟨0,[]⟩))],.int .i64 ⟨0,[]⟩⟩
def U3:Inst:=⟨565,[vP],.iv .i64 0 256⟩
def Q3:Inst:=⟨513,[vP,.iv .i64 0 255],vP⟩
def Zu:Inst:=⟨566,[vP,.iv .i64 0 255],vP⟩
def Im:Inst:=⟨527,[lu],.ah [vP,tM]⟩
def Ug:Inst:=⟨564,[vP],lu⟩
def SK:Inst:=⟨485,[vK,lu],.bool⟩
def zT:Inst:=⟨515,[mN],.bool⟩
def OD:Inst:=⟨486,[zay],lu⟩
def Vy:Inst:=⟨526,[mN,lu,lu,lu],.ah [lu,tM]⟩
def Vu:Inst:=⟨484,[mN,Af],.ah [lu,tM]⟩
def zbF:Inst:=⟨473,[mN,Af,vK,lu],DN⟩
def Kt:Inst:=⟨446,[mN,Af,DN],.ah [Af,tM]⟩
def TH:Inst:=⟨445,[mN,Af,DN,lu],tM⟩
def G8:Inst:=⟨149,[wN,.ex (.sc (.bool true))],.ai 1 1 0 500 [aU8]⟩
def JP:Inst:=⟨149,[wN,.ex (.sc (.bool false))],.ai 1 1 0 500 [aU8]⟩
def Dp:Inst:=⟨148,[wN],.bool⟩
def KX:Inst:=⟨132,[wN],tM⟩
def Rm:Inst:=⟨488,[zD],.ai 1 1 0 5000 [aU8]⟩
def XJ:Inst:=⟨558,[zD],.bool⟩
def Za:Inst:=⟨517,[wN],vK⟩
def zba:Inst:=⟨519,[wN],vK⟩
def WJ:Inst:=⟨520,[.ai 0 32 0 4 vY],vK⟩
def WX:Inst:=⟨474,[.ai 0 4 1 4 aTx],vK⟩
def XQ:Inst:=⟨522,[zD],tM⟩
def zaw:Inst:=⟨478,[wN,.ai 0 37 0 1 oA,oN],.ah [oN,tM]⟩
def xl:Inst:=⟨136,[Xa,Xa],.iv .i64 (-1) 1⟩
def XL:Inst:=⟨521,[pI],.bool⟩
def Uh:Inst:=⟨472,[mN,oN],oN⟩
def zeH:Inst:=⟨476,[mN,pI,zD],tM⟩
def AK:Inst:=⟨483,[wN,oN],.ai 1 37 1 2 oA⟩
def J2:Inst:=⟨480,[rh 100008,Xa],.iv .i64 (-1) 100008⟩
def zek:Inst:=⟨482,[rh 100008],oN⟩
def Pk:Inst:=⟨481,[rh 100000,wN,oN],.ah [.ai 1 37 0 100002 oA,tM]⟩
def W7:Inst:=⟨481,[rh 100002,wN,oN],.ah [.ai 1 37 0 100004 oA,tM]⟩
def zal:Inst:=⟨481,[rh 100004,wN,oN],.ah [.ai 1 37 0 100006 oA,tM]⟩
def zgX:Inst:=⟨481,[rh 100006,wN,oN],.ah [.ai 1 37 0 100008 oA,tM]⟩
def XS:Inst:=⟨516,[zgq,aU8],.ah [wN,oN]⟩
def GX:Inst:=⟨470,[mN,pI,aU8],.ah [.ai 1 4 0 3 aTx,oN]⟩
def Yw:Inst:=⟨443,[mN,pI,Af,aU8],zD⟩
def Ue:Inst:=⟨444,[mN,pI,zD],.ah [pI,Pe,tM]⟩
def XP:Inst:=⟨442,[aU8],zbp 0 1⟩
def ze6:Inst:=⟨422,[aU8,.ai 0 1 0 6 [aU8]],zbp 6 7⟩
end
end
section
noncomputable section
theorem UB(L:Nat):FOk (cN rows) L 531 (M5 oY L) 1:=eF (D:=0) (by kernel_rfl) λm hm=>⟨gS,gW L,ep,SO L⟩
theorem QL(L:Nat):FOk (cN rows) L 476 (Bu cj L) 300:=rz (vB 476 L) (NQ L)
theorem R6(L:Nat):FOk (cN rows) L 429 (C5 co L) 300:=rz (vB 429 L) (Rl L)
theorem MN(L:Nat):FOk (cN rows) L 472 (xn bW L) 300:=rz (vB 472 L) (Ln L)
theorem Gt(L:Nat):FOk (cN rows) L 480 (xY bP L) 1:=eF (D:=0) (by kernel_rfl) λm hm=>⟨jR,jO L,ep,QG L⟩
theorem wS(L:Nat):FOk (cN rows) L 193 (pT cA L) 1:=eF (D:=0) (by kernel_rfl) λm hm=>⟨yy,yE L,ep,LW L⟩
theorem Sw(L:Nat):FOk (cN rows) L 453 (CY f6 L) 2:=eF (D:=1) (by kernel_rfl) λm hm=>⟨kz,kH cA L,(cU ep (wS L m (by omega))),QA L⟩
theorem KL(L:Nat):FOk (cN rows) L 441 (wM bX L) 3:=eF (D:=2) (by kernel_rfl) λm hm=>⟨uX,uN f6 L,(cU ep (Sw L m (by omega))),I7 L⟩
theorem PN(L:Nat):FOk (cN rows) L 477 (BE ce L) 4:=eF (D:=3) (by kernel_rfl) λm hm=>⟨fK,fH bP bX L,(cU (cU ep (Gt L m (by omega))) (KL L m (by omega))),NB L⟩
theorem Rt(L:Nat):FOk (cN rows) L 478 (BU cg L) 300:=rz (vB 478 L) (Oi L)
theorem UO(L:Nat):FOk (cN rows) L 481 (Ge cw L) 300:=rz (vB 481 L) (Tq L)
theorem MU(L:Nat):FOk (cN rows) L 483 (xt bV L) 300:=rz (vB 483 L) (J3 L)
theorem Rj(L:Nat):FOk (cN rows) L 482 (B1 ch L) 300:=rz (vB 482 L) (NJ L)
theorem MT(L:Nat):FOk (cN rows) L 479 (yZ bU L) 1:=eF (D:=0) (by kernel_rfl) λm hm=>⟨wv,wq L,ep,Kq L⟩
theorem Me(L:Nat):FOk (cN rows) L 444 (EF j7 L) 301:=eF (D:=300) (by kernel_rfl) λm hm=>⟨eM,eL cj co bW ce cg cw bV ch bP bU L,(cU (cU (cU (cU (cU (cU (cU (cU (cU (cU ep (QL L m (by omega))) (R6 L m (by omega))) (MN L m (by omega))) (PN L m (by omega))) (Rt L m (by omega))) (UO L m (by omega))) (MU L m (by omega))) (Rj L m (by omega))) (Gt L m (by omega))) (MT L m (by omega))),KM L⟩
theorem WC(L:Nat):FOk (cN rows) L 225 (Iu dF L) 1:=eF (D:=0) (by kernel_rfl) λm hm=>⟨FL,FK L,ep,UE L⟩
theorem Ks(L:Nat):FOk (cN rows) L 247 (qR fi L) 1:=eF (D:=0) (by kernel_rfl) λm hm=>⟨uZ,vh L,ep,I3 L⟩
theorem JK(L:Nat):FOk (cN rows) L 217 (Co dg L) 1:=eF (D:=0) (by kernel_rfl) λm hm=>⟨Gf,FZ L,ep,UN L⟩
theorem tI(L:Nat):FOk (cN rows) L 231 (lW bR L) 2:=eF (D:=1) (by kernel_rfl) λm hm=>⟨uW,uK fi dg L,(cU (cU ep (Ks L m (by omega))) (JK L m (by omega))),Je L⟩
theorem Jj(L:Nat):FOk (cN rows) L 423 (pe eY L) 3:=eF (D:=2) (by kernel_rfl) λm hm=>⟨iy,iA bR L,(cU ep (tI L m (by omega))),Ik L⟩
theorem ST(L:Nat):FOk (cN rows) L 422 (DI gG L) 400:=rz (vB 422 L) (PW L)
theorem Si(L:Nat):FOk (cN rows) L 411 (y5 di L) 401:=eF (D:=400) (by kernel_rfl) λm hm=>⟨Bt,BJ bR eY gG L,(cU (cU (cU ep (tI L m (by omega))) (Jj L m (by omega))) (ST L m (by omega))),Qv L⟩
theorem PB(L:Nat):FOk (cN rows) L 448 (BZ dl L) 1:=eF (D:=0) (by kernel_rfl) λm hm=>⟨z6,Aj L,ep,N8 L⟩
theorem L7(L:Nat):FOk (cN rows) L 136 (yJ fu L) 1:=eF (D:=0) (by kernel_rfl) λm hm=>⟨iC,iB L,ep,Kf L⟩
theorem C9(L:Nat):FOk (cN rows) L 800 (uw bQ L) 2:=eF (D:=1) (by kernel_rfl) λm hm=>⟨yQ,yv fu L,(cU ep (L7 L m (by omega))),Ml L⟩
theorem PK(L:Nat):FOk (cN rows) L 792 (Bz cv L) 3:=eF (D:=2) (by kernel_rfl) λm hm=>⟨i9,ja bQ L,(cU ep (C9 L m (by omega))),OM L⟩
theorem DM(L:Nat):FOk (cN rows) L 831 (yk cd L) 1:=eF (D:=0) (by kernel_rfl) λm hm=>⟨Fy,FY L,ep,UV L⟩
theorem GU(L:Nat):FOk (cN rows) L 832 (yb ck L) 1:=eF (D:=0) (by kernel_rfl) λm hm=>⟨jQ,jT L,ep,PX L⟩
theorem Xb(L:Nat):FOk (cN rows) L 791 (Iq hI L) 1:=eF (D:=0) (by kernel_rfl) λm hm=>⟨FV,Fm L,ep,UP L⟩
theorem NW(L:Nat):FOk (cN rows) L 793 (zV cm L) 2:=eF (D:=1) (by kernel_rfl) λm hm=>⟨xC,yV hI L,(cU ep (Xb L m (by omega))),MQ L⟩
theorem xu(L:Nat):FOk (cN rows) L 817 (rj cF L) 4:=eF (D:=3) (by kernel_rfl) λm hm=>⟨fJ,fI cv cd ck cm L,(cU (cU (cU (cU ep (PK L m (by omega))) (DM L m (by omega))) (GU L m (by omega))) (NW L m (by omega))),Oe L⟩
theorem wg(L:Nat):FOk (cN rows) L 829 (pU ca L) 1:=eF (D:=0) (by kernel_rfl) λm hm=>⟨xU,yl L,ep,LV L⟩
theorem UG(L:Nat):FOk (cN rows) L 819 (Fk dz L) 5:=eF (D:=4) (by kernel_rfl) λm hm=>⟨D6,DU cF cd ck ca L,(cU (cU (cU (cU ep (xu L m (by omega))) (DM L m (by omega))) (GU L m (by omega))) (wg L m (by omega))),Sa L⟩
theorem SV(L:Nat):FOk (cN rows) L 797 (Dq dy L) 1:=eF (D:=0) (by kernel_rfl) λm hm=>⟨ky,kF L,ep,PI L⟩
theorem O1(L:Nat):FOk (cN rows) L 827 (Ab cS L) 5:=eF (D:=4) (by kernel_rfl) λm hm=>⟨jq,jv cF cd ca dy L,(cU (cU (cU (cU ep (xu L m (by omega))) (DM L m (by omega))) (wg L m (by omega))) (SV L m (by omega))),L9 L⟩
theorem pc(L:Nat):FOk (cN rows) L 825 (mK bO L) 1:=eF (D:=0) (by kernel_rfl) λm hm=>⟨i4,iU L,ep,JH L⟩
theorem I2(L:Nat):FOk (cN rows) L 837 (AE dc L) 2:=eF (D:=1) (by kernel_rfl) λm hm=>⟨lg,lw bO L,(cU ep (pc L m (by omega))),S8 L⟩
theorem SG(L:Nat):FOk (cN rows) L 130 (Dr dq L) 1:=eF (D:=0) (by kernel_rfl) λm hm=>⟨BV,BF L,ep,Qp L⟩
theorem BC(L:Nat):FOk (cN rows) L 802 (vu bM L) 2:=eF (D:=1) (by kernel_rfl) λm hm=>⟨km,kq dq L,(cU ep (SG L m (by omega))),Te L⟩
theorem H9(L:Nat):FOk (cN rows) L 160 (tq eZ L) 2:=eF (D:=1) (by kernel_rfl) λm hm=>⟨rI,sf cA L,(cU ep (wS L m (by omega))),GG L⟩
theorem Nu(L:Nat):FOk (cN rows) L 194 (Ah fS L) 1:=eF (D:=0) (by kernel_rfl) λm hm=>⟨jy,jt L,ep,My L⟩
theorem I5(L:Nat):FOk (cN rows) L 159 (vn fh L) 2:=eF (D:=1) (by kernel_rfl) λm hm=>⟨tf,tt fS cA L,(cU (cU ep (Nu L m (by omega))) (wS L m (by omega))),Ic L⟩
theorem QP(L:Nat):FOk (cN rows) L 138 (B2 dp L) 3:=eF (D:=2) (by kernel_rfl) λm hm=>⟨Ae,zE eZ fh L,(cU (cU ep (H9 L m (by omega))) (I5 L m (by omega))),NM L⟩
theorem G9(L:Nat):FOk (cN rows) L 822 (yd cr L) 4:=eF (D:=3) (by kernel_rfl) λm hm=>⟨kG,kC bO dc bM dp L,(cU (cU (cU (cU ep (pc L m (by omega))) (I2 L m (by omega))) (BC L m (by omega))) (QP L m (by omega))),Qn L⟩
theorem Td(L:Nat):FOk (cN rows) L 840 (DL f0 L) 5:=eF (D:=4) (by kernel_rfl) λm hm=>⟨BS,B3 cF bO L,(cU (cU ep (xu L m (by omega))) (pc L m (by omega))),QI L⟩
theorem Ql(L:Nat):FOk (cN rows) L 522 (B0 f9 L) 300:=rz (vB 522 L) (Nv L)
theorem RK(L:Nat):FOk (cN rows) L 801 (BM bS L) 3:=eF (D:=2) (by kernel_rfl) λm hm=>⟨jY,jW bM L,(cU ep (BC L m (by omega))),OG L⟩
theorem WN(L:Nat):FOk (cN rows) L 517 (HI ci L) 300:=rz (vB 517 L) (Ur L)
theorem Ut(L:Nat):FOk (cN rows) L 803 (FO bY L) 3:=eF (D:=2) (by kernel_rfl) λm hm=>⟨gI,gH bQ L,(cU ep (C9 L m (by omega))),To L⟩
theorem Tl(L:Nat):FOk (cN rows) L 795 (DF fQ L) 301:=eF (D:=300) (by kernel_rfl) λm hm=>⟨eD,eE bS bM ci bY L,(cU (cU (cU (cU ep (RK L m (by omega))) (BC L m (by omega))) (WN L m (by omega))) (Ut L m (by omega))),Qb L⟩
theorem Ms(L:Nat):FOk (cN rows) L 841 (yu ft L) 2:=eF (D:=1) (by kernel_rfl) λm hm=>⟨iX,iW ca L,(cU ep (wg L m (by omega))),Li L⟩
theorem QX(L:Nat):FOk (cN rows) L 828 (B4 cY L) 302:=eF (D:=301) (by kernel_rfl) λm hm=>⟨zP,zB f0 f9 dc fQ ft L,(cU (cU (cU (cU (cU ep (Td L m (by omega))) (Ql L m (by omega))) (I2 L m (by omega))) (Tl L m (by omega))) (Ms L m (by omega))),NT L⟩
theorem SM(L:Nat):FOk (cN rows) L 814 (yq dm L) 303:=eF (D:=302) (by kernel_rfl) λm hm=>⟨ku,kE bR dl dz cS cr cY L,(cU (cU (cU (cU (cU (cU ep (tI L m (by omega))) (PB L m (by omega))) (UG L m (by omega))) (O1 L m (by omega))) (G9 L m (by omega))) (QX L m (by omega))),Pw L⟩
theorem wB(L:Nat):FOk (cN rows) L 824 (pH bN L) 1:=eF (D:=0) (by kernel_rfl) λm hm=>⟨jr,jB L,ep,Mk L⟩
theorem EY(L:Nat):FOk (cN rows) L 584 (vZ cq L) 1:=eF (D:=0) (by kernel_rfl) λm hm=>⟨zU,zJ L,ep,OO L⟩
theorem WU(L:Nat):FOk (cN rows) L 836 (H8 cR L) 2:=eF (D:=1) (by kernel_rfl) λm hm=>⟨mi,l5 bN L,(cU ep (wB L m (by omega))),Uq L⟩
theorem Ji(L:Nat):FOk (cN rows) L 549 (uY cO L) 2:=eF (D:=1) (by kernel_rfl) λm hm=>⟨tz,sY cq L,(cU ep (EY L m (by omega))),Ih L⟩
theorem MF(L:Nat):FOk (cN rows) L 784 (ya cu L) 3:=eF (D:=2) (by kernel_rfl) λm hm=>⟨i3,iY cO L,(cU ep (Ji L m (by omega))),KQ L⟩
theorem Sv(L:Nat):FOk (cN rows) L 844 (xA cG L) 1:=eF (D:=0) (by kernel_rfl) λm hm=>⟨Br,BD L,ep,RB L⟩
theorem D4(L:Nat):FOk (cN rows) L 191 (ut dP L) 1:=eF (D:=0) (by kernel_rfl) λm hm=>⟨xO,yO L,ep,Mf L⟩
theorem Hn(L:Nat):FOk (cN rows) L 158 (sV e7 L) 2:=eF (D:=1) (by kernel_rfl) λm hm=>⟨rO,rV dP L,(cU ep (D4 L m (by omega))),Hd L⟩
theorem Oo(L:Nat):FOk (cN rows) L 192 (zZ fU L) 1:=eF (D:=0) (by kernel_rfl) λm hm=>⟨jz,ju L,ep,L5 L⟩
theorem Jg(L:Nat):FOk (cN rows) L 157 (vq ff L) 2:=eF (D:=1) (by kernel_rfl) λm hm=>⟨sT,sP fU dP L,(cU (cU ep (Oo L m (by omega))) (D4 L m (by omega))),HE L⟩
theorem Vn(L:Nat):FOk (cN rows) L 137 (Hy cQ L) 3:=eF (D:=2) (by kernel_rfl) λm hm=>⟨FU,FX e7 ff L,(cU (cU ep (Hn L m (by omega))) (Jg L m (by omega))),Uv L⟩
theorem Ux(L:Nat):FOk (cN rows) L 821 (Fp dw L) 4:=eF (D:=3) (by kernel_rfl) λm hm=>⟨gT,gZ bN cq cR cu cG cQ L,(cU (cU (cU (cU (cU (cU ep (wB L m (by omega))) (EY L m (by omega))) (WU L m (by omega))) (MF L m (by omega))) (Sv L m (by omega))) (Vn L m (by omega))),SA L⟩
theorem Ti(L:Nat):FOk (cN rows) L 823 (DT dn L) 1:=eF (D:=0) (by kernel_rfl) λm hm=>⟨jP,jU L,ep,P2 L⟩
end
end
section
variable {N L:Nat}{W:Nat->Int}{v:V}{r:List V}{es cs:Ls}{ht ix:Int}{h:List Int}
variable {Y:Type}
theorem zhF{q sz:Nat}{rows:List (List A)}(h:G N W (.am q sz rows) v):∃ es,v=mkL q sz es/\rows.length=es.length:=by
 generalize ha:A.am q sz rows=a at h;cases h <;> first | (cases ha; done) | skip
 rename_i es hl hr hh;cases ha;exact ⟨es,rfl,hl⟩
theorem zgy(h:G N W .bool v):∃ b,v=.sc (.bool b):=by
 cases h with
 | bool b=>exact ⟨b,rfl⟩
structure CoT where
 h:List Int
 ix:Int
 val:Int
 s:Ls
 ht:Int
 cb:Bool
variable {c:CoT}{l:List CoT}
def cpt(c:CoT):List V:=row .u8 c.h++[V.sc (.int .u32 c.ix)]
def dK(c:CoT):List V:=cpt c++[V.sc (.int .i64 c.val),V.sl 1 c.s,V.sc (.int .i64 c.ht),V.sc (.bool c.cb)]
structure CoOk (c:CoT):Prop where
 hl:c.h.length=32
 sl:c.s.length=4
 g:∀ N W,GL N W oA (dK c)
theorem Gn(h:c.h.length=32):(cpt c).length=33:=by simp [cpt,fV,h]
theorem wd(h:c.h.length=32):(dK c).length=37:=by simp [dK,Gn h]
theorem TF(h:c.h.length=32):WcK 33 (dK c)=cpt c:=by unfold dK; rw [<- Gn h,Wdd]
theorem HP(h:c.h.length=32):WcK 37 (dK c)=dK c:=WbR (by rw [wd h]; omega)
theorem zeb(c:CoT):(cpt c).map V.ag=cpt c:=by simp only [cpt,WcY,Tc]; rfl
theorem zdq(c:CoT):(dK c).map V.ag=dK c:=by simp only [dK,WcY,zeb]; rfl
theorem YB(h:c.h.length=32)(j:Nat):(dK c)[33+j]?=[V.sc (.int .i64 c.val),V.sl 1 c.s,V.sc (.int .i64 c.ht),V.sc (.bool c.cb)][j]?:=by
 unfold dK;rw [Wal (by rw [Gn h]; omega),Gn h];congr 1; omega
theorem ze8(h:∀ N W,GL N W oA r):∃ c,r=dK c/\CoOk c:=by
 have key:∃ c,r=dK c/\c.h.length=32/\c.s.length=4:=by
  obtain ⟨a,r,rfl,h1,h2⟩:=GM (h 0 (λ_=>0));obtain ⟨l,rfl,hl,_⟩:=Jt h1;obtain ⟨v1,r,rfl,g1,h2⟩:=hY h2;obtain ⟨v2,r,rfl,g2,h2⟩:=hY h2;obtain ⟨v3,r,rfl,g3,h2⟩:=hY h2;obtain ⟨v4,r,rfl,g4,h2⟩:=hY h2;obtain ⟨v5,r,rfl,g5,h2⟩:=hY h2;obtain rfl:=te h2;obtain ⟨n1,rfl,_⟩:=qJ g1;obtain ⟨n2,rfl,_⟩:=qJ g2;obtain ⟨s,rfl,hs⟩:=zhF g3;obtain ⟨n4,rfl,_⟩:=qJ g4;obtain ⟨b,rfl⟩:=zgy g5;exact ⟨⟨l,n1,n2,s,n4,b⟩,by simp only [dK,cpt,WcG]; rfl,hl,hs.symm⟩
 obtain ⟨c,rfl,h1,h2⟩:=key;exact ⟨c,rfl,h1,h2,h⟩
theorem Ok(h:∀ r∈es,∀ N W,GL N W oA r):∃ l:List CoT,es=l.map dK/\∀ c∈l,CoOk c:=by
 induction es with
 | nil=>exact ⟨[],rfl,by simp⟩
 | cons e es ih=>
  obtain ⟨c,rfl,hc⟩:=ze8 (h _ (Wcy ..));obtain ⟨l,rfl,hl⟩:=ih λr hr=>h r (WcB _ hr);exact ⟨c::l,rfl,λx hx=>(WbL.1 hx).elim (λe=>e ▸ hc) (hl x)⟩
theorem KO{q sz:Nat}{lo hi:Int}{row:List A}(hq:q<2)(h:∀ N W,G N W (.ai q sz lo hi row) v):∃ es,v=mkL q sz es/\lo<=(es.length:Int)/\(es.length:Int)<=hi/\∀ r∈es,∀ N W,GL N W row r:=by
 obtain ⟨es,rfl,h1,h2,_⟩:=PG (h 0 (λ_=>0));refine ⟨es,rfl,h1,h2,λr hr N W=>?_⟩;obtain ⟨es',e,_,_,h3⟩:=PG (h N W);have:es=es':=by
  match q,hq with
  | 0,_=>simpa [mkL] using e
  | 1,_=>simpa [mkL] using e
 subst this; exact h3 r hr
theorem NN{q sz:Nat}{lo hi:Int}{row:List A}(h1:lo<=(es.length:Int))(h2:(es.length:Int)<=hi)(h:∀ r∈es,GL N W row r):G N W (.ai q sz lo hi row) (mkL q sz es):=
 .ai q sz lo hi row es ⟨h1,h2⟩ (λr hr=>(h r hr).1) (λr hr=>(h r hr).2)
theorem Ly{n:Int}(hl:∀ c∈l,CoOk c)(h:(l.length:Int)<=n):G N W (rh n) (.sl 37 (l.map dK)):=by
 refine NN (q:=0) (by simp) (by simpa using h) (λr hr=>?_);obtain ⟨c,hc,rfl⟩:=WbX.1 hr;exact (hl c hc).g N W
def j5(ht:Int)(h:List Int)(cs:Ls):List V:=V.sc (.int .i64 ht)::(row .u8 h++[V.sl 37 cs])
theorem lp(hl:h.length=32):(j5 ht h cs).length=34:=by simp [j5,fV,hl]
theorem AV(hl:h.length=32)(k:Ls->Option Y):cLd 37 (j5 ht h cs) 33 k=k cs:=by
 refine j4 ?_ k;unfold j5;rw [show 33=32+1 by rfl,Wbq,Wal (by rw [fV]; omega),fV,hl]; rfl
theorem Dx(k:Int->Option Y):cI .i64 (j5 ht h cs) 0 k=k ht:=eQ rfl k
theorem Oq{cs':Ls}(hl:h.length=32):cD (j5 ht h cs) 33 [V.sl 37 cs']=j5 ht h cs':=by
 unfold cD j5;have e:(row Wdf h).length=32:=by rw [fV,hl]
 rw [show (33:Nat)=32+1 by rfl,List.take_succ_cons,List.take_left' e];simp only [WcZ,WcT];rw [show (32+1+(0+1):Nat)=33+1 by rfl,List.drop_succ_cons,show (33:Nat)=(row Wdf h).length+1 by rw [e],List.drop_append];simp
theorem Xd:(j5 ht h cs).map V.ag=j5 ht h cs:=by
 simp only [j5,List.map_cons,WcY,Tc]; rfl
theorem zd3{N:Nat}{W:Nat->Int}{k:IntKind}{lo hi:Int}:∀ {l:List Int},(∀ x∈l,lo<=x/\x<=hi)->GL N W (Wad l.length (.iv k lo hi)) (row k l)
 | [],_=>All2.nil
 | x::l,h=>.cons (.iv k lo hi x (h x (by simp))) (zd3 λy hy=>h y (by simp [hy]))
theorem WY{cs:List CoT}(h1:-9223372036854775808<=ht/\ht<=9223372036854775807)(hl:h.length=32)(hb:dG h)(hc:∀ c∈cs,CoOk c)(hn:cs.length<=100000):G N W pI (.agg (j5 ht h (cs.map dK))):=by
 have:GL N W tS (j5 ht h (cs.map dK)):=by
  refine .cons (.iv .i64 _ _ ht h1) (All2.append ?_ (.cons (Ly hc (by omega)) .nil));have:=zd3 (N:=N) (W:=W) (k:=.u8) (lo:=0) (hi:=255) (l:=h) hb;rw [hl] at this; exact this
 exact .agg _ _ this.1 this.2
theorem zaS{cs:List CoT}(hc:∀ c∈cs,CoOk c)(hn:cs.length<=3):G N W Pe (.agg [V.sl 37 (cs.map dK)]):=by
 have:GL N W Kd [V.sl 37 (cs.map dK)]:=.cons (Ly hc (by omega)) .nil;exact .agg _ _ this.1 this.2
theorem gl1{a:A}(h:G N W a v):GL N W [a] [v]:=.cons h .nil
structure TxS where
 n:Int
 h:List Int
 ix:Int
 r:List V
 outs:Ls
 m:Int
def ipt(t:TxS):List V:=row .u8 t.h++[V.sc (.int .u32 t.ix)]
def txr(t:TxS):List V:=[V.sc (.int .u32 t.n),V.sl 35 [ipt t++t.r],V.sl 2 t.outs,V.sc (.int .u32 t.m)]
structure TxSOk (t:TxS):Prop where
 hl:t.h.length=32
 rl:t.r.length=2
 g:∀ N W,GL N W aTx (txr t)
theorem zge(h:∀ N W,GL N W aTx r):∃ t,r=txr t/\TxSOk t:=by
 have key:∃ t,r=txr t/\t.h.length=32/\t.r.length=2:=by
  obtain ⟨v1,r,rfl,g1,h⟩:=hY (h 0 (λ_=>0));obtain ⟨v2,r,rfl,g2,h⟩:=hY h;obtain ⟨v3,r,rfl,g3,h⟩:=hY h;obtain ⟨v4,r,rfl,g4,h⟩:=hY h;obtain rfl:=te h;obtain ⟨n,rfl,_⟩:=qJ g1;obtain ⟨m,rfl,_⟩:=qJ g4;obtain ⟨es,rfl,e1,e2,e3⟩:=PG g2;obtain ⟨fs,rfl,_⟩:=PG g3;obtain ⟨i,rfl⟩:∃ i,es=[i]:=List.length_eq_one_iff.1 (by omega);obtain ⟨a,r,rfl,h1,h2⟩:=GM (e3 i (by simp));obtain ⟨l,rfl,hl,_⟩:=Jt h1;obtain ⟨w1,r,e4,q1,h3⟩:=hY h2;subst e4;obtain ⟨ix,rfl,_⟩:=qJ q1;exact ⟨⟨n,l,ix,r,fs,m⟩,by simp only [txr,ipt,WcG]; rfl,hl,h3.1.symm⟩
 obtain ⟨t,rfl,h1,h2⟩:=key;exact ⟨t,rfl,h1,h2,h⟩
theorem Yr{t:TxS}(h:t.h.length=32):(ipt t).length=33:=by simp [ipt,fV,h]
def pi(c:CoT)(h:List Int)(ix:Int):Bool:=decide (c.h=h)&&decide (c.ix=ix)
theorem zfq(hc:c.h.length=32)(hh:h.length=32)(k:Bool->Option Y):eqC 33 (cpt c) (row .u8 h++[V.sc (.int .u32 ix)]) k=k (pi c h ix):=by
 unfold eqC;rw [bT ⟨Gn hc,by simp [fV,hh]⟩];have:iQ (cpt c) (row .u8 h++[V.sc (.int .u32 ix)])=some (pi c h ix):=by
  refine FG (by rw [fV,fV,hc,hh]) (C2 .u8 _ _ (by rw [hc,hh])) ?_;simp only [iQ,if_pos,Option.map_some,Bool.and_true];rfl
 rw [this]
theorem zaz(l:List CoT)(hl:∀ c∈l,c.h.length=32)(hn:l.length<=1000000)(hh:h.length=32)(kr:Int->Option Y)(kx:Option Y):∀ (n i:Nat),i<=l.length->l.length-i<n ->
  nB L kr kx n (l.map dK) (l.length:Int) (i:Int) (row .u8 h++[V.sc (.int .u32 ix)])=ifb (decide (lH (λc=>pi c h ix) (l.drop i) i>=0)) (kr (lH (λc=>pi c h ix) (l.drop i) i)) kx:=by
 intro n
 induction n with
 | zero=>intro i h1 h2; omega
 | succ n ih=>
  intro i h1 h2;simp only [nB,wI,cH];by_cases hi:i<l.length
  ·have hc:=hl _ (WaV hi);rw [dt (by omega),fe (fm hi),bT (by simp [fV,hh]),TF hc,WbR (show (row Wdf h++[V.sc (.int .u32 ix)]).length<=33 by simp [fV,hh]),zfq hc hh,up (by omega),ih (i+1) (by omega) (by omega),List.drop_eq_getElem_cons hi];rw [show lH (λc=>pi c h ix) (l[i]::WcM (i+1) l) i=if pi l[i] h ix=true then (i:Int) else lH (λc=>pi c h ix) (WcM (i+1) l) (i+1) from rfl];cases pi l[i] h ix with
   | true=>rw [gV,if_pos rfl,dt (by omega)]
   | false=>rw [eC,if_neg (by simp)]
  ·rw [du (by omega),List.drop_of_length_le (by omega)];rw [du (by simp [lH])]
theorem Yi(hL:2000000<=L)(hl:∀ c∈l,c.h.length=32)(hn:l.length<=1000000)(hh:h.length=32)(k:Int->Option Y):bP Y L (l.map dK) (row .u8 h++[V.sc (.int .u32 ix)]) k=k (lH (λc=>pi c h ix) l 0):=by
 simp only [bP,yY,C7,WcO];have:=zaz (L:=L) l hl hn (ix:=ix) hh (λp4=>nV L p4 k) (oh L k) L 0 (by omega) (by omega);rw [show ((0:Int))=((0:Nat):Int) from rfl,this,WcP];simp only [nV,oh];rcases w5 (λc=>pi c h ix) l 0 with ⟨e,_⟩ | ⟨i,hi,e,_⟩
 ·rw [e,du (by omega)]
 ·rw [e,dt (by omega)]
end
section
variable {Y:Type}
def zs(n:Nat):Nat:=(64-(n+9) % 64) % 64
def pb(n i:Nat):Int:=Wbf .u8 (JV .u64 (Wbf .u64 ((8:Int)*(n:Int))) ((56-8*i:Nat):Int))
def pbs(n:Nat):Nat->Nat->List Int
 | 0,_=>[]
 | m+1,i=>pb n i::pbs n m (i+1)
theorem Yk(n:Nat):∀ m i:Nat,(pbs n m i).length=m
 | 0,_=>rfl
 | m+1,i=>by rw [pbs,WcZ,Yk n m]
theorem UT(n:Int):0<=Wbf .u8 n/\Wbf .u8 n<=255:=by
 unfold Wbf;simp only [IntKind.signed,Bool.false_and,Bool.false_eq_true,if_false];have h1:=Int.emod_nonneg n (show (2:Int) ^ IntKind.bits .u8≠0 by decide);have h2:=Int.emod_lt_of_pos n (show (0:Int)<2 ^ IntKind.bits .u8 by decide);exact ⟨h1,Int.le_of_lt_add_one h2⟩
theorem zaG(n:Nat):∀ m i:Nat,∀ x∈pbs n m i,0<=x/\x<=255
 | 0,_=>λx h=>by simp [pbs] at h
 | m+1,i=>λx h=>by
  rw [pbs,WbL] at h;rcases h with rfl | h
  ·exact UT _
  ·exact zaG n m (i+1) x h
def NK(n:Nat):List Int:=(128::Wad (zs n) 0)++pbs n 8 0
theorem Wq(n:Nat):(NK n).length=9+zs n:=by simp [NK,Yk]; omega
theorem zeL(n:Nat):∀ x∈NK n,0<=x/\x<=255:=by
 intro x hx;rw [NK,Wbt,WbL] at hx;rcases hx with (rfl | hx) | hx
 ·exact ⟨by decide,by decide⟩
 ·rw [Wdb hx]; exact ⟨by decide,by decide⟩
 ·exact zaG n 8 0 x hx
theorem ZH(n:Nat):zs n<64:=Nat.mod_lt _ (by decide)
theorem zg2(n:Nat):(n+9+zs n) % 64=0:=by unfold zs; omega
theorem zgB(n k:Nat)(h:k<zs n):(n+9+k) % 64≠0:=by unfold zs at h; omega
theorem Wz(x:Int):cz 1 1 [V.sc (.int .u8 x)]=eB .u8 [x]:=rfl
theorem Pa{Y:Type}(L:Nat){n:Nat}(hn:n<=100000000)(kx:Int->Ls->Option Y):∀ (f m k:Nat),k+m=zs n->m<f->oG L kx f (n:Int) (eB .u8 (128::Wad k 0))=kx (n:Int) (eB .u8 (128::Wad (zs n) 0))
 | 0,m,k,_,h=>by omega
 | f+1,m,k,h1,h2=>by
  have z64:=ZH n;unfold oG yn;have e0:Wbf .u64 (((eB .u8 (128::Wad k 0)).length:Nat):Int)=((k+1:Nat):Int):=by
   rw [jl,WcZ,List.length_replicate,Oy (by omega) (by omega)]
  have e1:Wbf .u64 ((n:Int)+((k+1:Nat):Int))=((n+(k+1):Nat):Int):=by rw [Oy (by omega) (by omega)]; omega
  have e2:Wbf .u64 (((n+(k+1):Nat):Int)+(8:Int))=((n+9+k:Nat):Int):=by rw [Oy (by omega) (by omega)]; omega
  have e3:Wde ((n+9+k:Nat):Int) (64:Int)=(((n+9+k) % 64:Nat):Int):=(Int.ofNat_tmod (n+9+k) 64).symm;simp only [cH,e0,e1,e2,e3];rw [iN]
  match m,h1,h2 with
  | 0,h1,h2=>
   have:k=zs n:=by omega
   subst this;rw [if_pos (by rw [zg2]; rfl)]
  | m+1,h1,h2=>
   have hz:=zgB n k (by omega);rw [if_neg (by omega)];rw [Wz,Dw];rw [bT (by simp [jl,cy]; omega)];have e4:(128::Wad k (0:Int))++[0]=128::Wad (k+1) 0:=by
    rw [List.cons_append,List.replicate_succ']
   rw [e4];exact Pa L hn kx f m (k+1) (by omega) (by omega)
theorem zaC(L:Nat){n i:Nat}(hi:i<8){acc:List Int}(ha:acc.length<=1000000)(kh:Int->Ls->Int->Option Y)(kx:Ls->Option Y):mR L (n:Int) (eB .u8 acc) ((7:Int)-(i:Int)) kh kx=kh (n:Int) (eB .u8 (acc++[pb n i])) ((7:Int)-((i+1:Nat):Int)):=by
 unfold mR;have e8:Wbf .i64 ((8:Int)*((7:Int)-(i:Int)))=((56-8*i:Nat):Int):=by rw [kK (by omega) (by omega)]; omega
 have e1:Wbf .i64 (((7:Int)-(i:Int))-(1:Int))=(7:Int)-((i+1:Nat):Int):=by rw [kK (by omega) (by omega)]; omega
 rw [dt (by omega:(7:Int)-(i:Int)>=0)];simp only [cH,e8,e1,Wz,Dw];rw [bT (by omega),bT (by simp [jl,cy]; omega)];exact Eq.trans rfl rfl
theorem Tw{Y:Type}(L n:Nat)(kx:Ls->Option Y):∀ (f m i:Nat) (acc:List Int),i+m=8->m<f->acc.length<=900000+i->lE L kx f (n:Int) (eB .u8 acc) ((7:Int)-(i:Int))=kx (eB .u8 (acc++pbs n m i))
 | 0,m,i,acc,_,h,_=>by omega
 | f+1,0,i,acc,h1,h2,h3=>by
  unfold lE mR;rw [du (by omega),pbs,List.append_nil]
 | f+1,m+1,i,acc,h1,h2,h3=>by
  unfold lE;rw [zaC L (by omega) (by omega)];refine (Tw L n kx f m (i+1) _ (by omega) (by omega) (by simp; omega)).trans ?_;rw [pbs,WcG]; exact Eq.trans rfl rfl
theorem zes{L:Nat}(hL:100<=L){n:Nat}(hn:n<=100000000)(k:Ls->Option Y):oY Y L (n:Int) k=k (eB .u8 (NK n)):=by
 unfold oY Aq Fq;have z64:=ZH n;refine (Pa L hn _ L (zs n) 0 (by omega) (by omega)).trans ?_;unfold oi uT;refine (Tw L n _ L 8 0 _ rfl (by omega) (by simp; omega)).trans ?_;unfold rS NK;exact Eq.trans rfl rfl
theorem zdI{N:Nat}{W:Nat->Int}{l:List Int}{lo hi:Int}(hb:dG l)(h1:lo<=(l.length:Int))(h2:(l.length:Int)<=hi):G N W (.ai 1 1 lo hi [.iv .u8 0 255]) (.gs 1 (eB .u8 l)):=by
 refine .ai 1 1 lo hi [.iv .u8 0 255] (eB .u8 l) (by rw [jl]; exact ⟨h1,h2⟩) (λr hr=>?_) (λr hr i a v ha hv=>?_)
 ·obtain ⟨x,_,rfl⟩:=WbX.1 hr; rfl
 ·obtain ⟨x,hx,rfl⟩:=WbX.1 hr;cases i with
  | zero=>cases ha; cases hv; exact .iv .u8 0 255 x (hb x hx)
  | succ i=>cases ha
theorem zcq:ed (cN rows) 20 zdP:=by
 refine XN (D':=1) (by decide) (λL=>UB L) (λws hw=>?_);have h0:=hw 0 (λ_=>0);obtain ⟨v,r,rfl,g,h0⟩:=hY h0;obtain rfl:=te h0;obtain ⟨n,rfl,h1,h2⟩:=qJ g;obtain ⟨m,rfl⟩:∃ m:Nat,n=(m:Int):=⟨n.toNat,by omega⟩;refine ⟨.gs 1 (eB .u8 (NK m)),λN W=>zdI (zeL m) (by rw [Wq]; omega) (by rw [Wq]; have:=ZH m; omega),100,λL hL=>?_⟩;show aI .u64 (.sc (.int .u64 (m:Int))) (λp0=>oY (V × Bor) L p0 λq=>some (V.gs 1 q,[]))=_;rw [EM,zes hL (by omega)]
end
section
noncomputable section
theorem UY:ed (cN rows) 10 Q7:=eH (D:=0) (md:=mdI) (is:=[]) (WcX _) 10 (by decide) (by kernel_rfl)
theorem Up:ed (cN rows) 20 QM:=eH (D:=10) (md:=mdI) (is:=[Q7]) (WcW.2 ⟨cJ (by decide) UY,WcX _⟩) 10 (by decide) (by kernel_rfl)
theorem Oh:ed (cN rows) 30 Vd:=eH (D:=20) (md:=mdI) (is:=[zdP,QM]) (WcW.2 ⟨cJ (by decide) zcq,WcW.2 ⟨cJ (by decide) Up,WcX _⟩⟩) 10 (by decide) (by kernel_rfl)
theorem FJ:ed (cN rows) 40 HG:=eH (D:=30) (md:=mdI) (is:=[Vd]) (WcW.2 ⟨cJ (by decide) Oh,WcX _⟩) 10 (by decide) (by kernel_rfl)
theorem ED:ed (cN rows) 50 P4:=eH (D:=40) (md:=mdI) (is:=[HG]) (WcW.2 ⟨cJ (by decide) FJ,WcX _⟩) 10 (by decide) (by kernel_rfl)
theorem WZ:ed (cN rows) 10 Zp:=eH (D:=0) (md:=mdI) (is:=[]) (WcX _) 10 (by decide) (by kernel_rfl)
theorem Ev:ed (cN rows) 10 JE:=eH (D:=0) (md:=mdI) (is:=[]) (WcX _) 10 (by decide) (by kernel_rfl)
theorem OT:ed (cN rows) 20 U3:=eH (D:=10) (md:=mdI) (is:=[JE]) (WcW.2 ⟨cJ (by decide) Ev,WcX _⟩) 10 (by decide) (by kernel_rfl)
theorem IA:ed (cN rows) 10 Q3:=eH (D:=0) (md:=mdI) (is:=[]) (WcX _) 10 (by decide) (by kernel_rfl)
theorem Wv:ed (cN rows) 10 Zu:=eH (D:=0) (md:=mdI) (is:=[]) (WcX _) 10 (by decide) (by kernel_rfl)
theorem FD:ed (cN rows) 30 Im:=eH (D:=20) (md:=mdI) (is:=[JE,U3,Q3,Zu]) (WcW.2 ⟨cJ (by decide) Ev,WcW.2 ⟨cJ (by decide) OT,WcW.2 ⟨cJ (by decide) IA,WcW.2 ⟨cJ (by decide) Wv,WcX _⟩⟩⟩⟩) 10 (by decide) (by kernel_rfl)
theorem Wg:ed (cN rows) 30 Ug:=eH (D:=20) (md:=mdI) (is:=[JE,U3,Q3,Zu]) (WcW.2 ⟨cJ (by decide) Ev,WcW.2 ⟨cJ (by decide) OT,WcW.2 ⟨cJ (by decide) IA,WcW.2 ⟨cJ (by decide) Wv,WcX _⟩⟩⟩⟩) 10 (by decide) (by kernel_rfl)
theorem Ro:ed (cN rows) 40 SK:=eH (D:=30) (md:=mdI) (is:=[Im]) (WcW.2 ⟨cJ (by decide) FD,WcX _⟩) 10 (by decide) (by kernel_rfl)
theorem uc:ed (cN rows) 40 zT:=eH (D:=30) (md:=mdI) (is:=[Im]) (WcW.2 ⟨cJ (by decide) FD,WcX _⟩) 10 (by decide) (by kernel_rfl)
theorem M8:ed (cN rows) 10 OD:=eH (D:=0) (md:=mdI) (is:=[]) (WcX _) 10 (by decide) (by kernel_rfl)
theorem XD:ed (cN rows) 50 Vy:=eH (D:=40) (md:=mdI) (is:=[Zp,Im,Ug,zT]) (WcW.2 ⟨cJ (by decide) WZ,WcW.2 ⟨cJ (by decide) FD,WcW.2 ⟨cJ (by decide) Wg,WcW.2 ⟨cJ (by decide) uc,WcX _⟩⟩⟩⟩) 10 (by decide) (by kernel_rfl)
theorem Tt:ed (cN rows) 60 Vu:=eH (D:=50) (md:=mdI) (is:=[zT,Vy]) (WcW.2 ⟨cJ (by decide) uc,WcW.2 ⟨cJ (by decide) XD,WcX _⟩⟩) 10 (by decide) (by kernel_rfl)
theorem zam:ed (cN rows) 70 zbF:=eH (D:=60) (md:=mdI) (is:=[P4,SK,OD,Vu]) (WcW.2 ⟨cJ (by decide) ED,WcW.2 ⟨cJ (by decide) Ro,WcW.2 ⟨cJ (by decide) M8,WcW.2 ⟨cJ (by decide) Tt,WcX _⟩⟩⟩⟩) 10 (by decide) (by kernel_rfl)
theorem Kl:ed (cN rows) 60 Kt:=eH (D:=50) (md:=mdI) (is:=[P4,zT]) (WcW.2 ⟨cJ (by decide) ED,WcW.2 ⟨cJ (by decide) uc,WcX _⟩⟩) 10 (by decide) (by kernel_rfl)
theorem WL:ed (cN rows) 70 TH:=eH (D:=60) (md:=mdI) (is:=[SK,OD,Vu,Kt]) (WcW.2 ⟨cJ (by decide) Ro,WcW.2 ⟨cJ (by decide) M8,WcW.2 ⟨cJ (by decide) Tt,WcW.2 ⟨cJ (by decide) Kl,WcX _⟩⟩⟩⟩) 10 (by decide) (by kernel_rfl)
end
end
section
noncomputable section
theorem AN:ed (cN rows) 10 G8:=eH (D:=0) (md:=mdI) (is:=[]) (WcX _) 10 (by decide) (by kernel_rfl)
theorem EQ:ed (cN rows) 20 JP:=eH (D:=10) (md:=mdI) (is:=[G8]) (WcW.2 ⟨cJ (by decide) AN,WcX _⟩) 10 (by decide) (by kernel_rfl)
theorem w6:ed (cN rows) 30 Dp:=eH (D:=20) (md:=mdI) (is:=[G8,JP]) (WcW.2 ⟨cJ (by decide) AN,WcW.2 ⟨cJ (by decide) EQ,WcX _⟩⟩) 10 (by decide) (by kernel_rfl)
theorem Kj:ed (cN rows) 40 KX:=eH (D:=30) (md:=mdI) (is:=[Dp]) (WcW.2 ⟨cJ (by decide) w6,WcX _⟩) 10 (by decide) (by kernel_rfl)
theorem Us:ed (cN rows) 40 Rm:=eH (D:=30) (md:=mdI) (is:=[G8,JP,Dp]) (WcW.2 ⟨cJ (by decide) AN,WcW.2 ⟨cJ (by decide) EQ,WcW.2 ⟨cJ (by decide) w6,WcX _⟩⟩⟩) 10 (by decide) (by kernel_rfl)
theorem zad:ed (cN rows) 10 XJ:=eH (D:=0) (md:=mdI) (is:=[]) (WcX _) 10 (by decide) (by kernel_rfl)
theorem Lz:ed (cN rows) 50 Za:=eH (D:=40) (md:=mdI) (is:=[HG,G8,JP,Dp]) (WcW.2 ⟨cJ (by decide) FJ,WcW.2 ⟨cJ (by decide) AN,WcW.2 ⟨cJ (by decide) EQ,WcW.2 ⟨cJ (by decide) w6,WcX _⟩⟩⟩⟩) 10 (by decide) (by kernel_rfl)
theorem zbi:ed (cN rows) 50 zba:=eH (D:=40) (md:=mdI) (is:=[HG,G8,JP,Dp]) (WcW.2 ⟨cJ (by decide) FJ,WcW.2 ⟨cJ (by decide) AN,WcW.2 ⟨cJ (by decide) EQ,WcW.2 ⟨cJ (by decide) w6,WcX _⟩⟩⟩⟩) 10 (by decide) (by kernel_rfl)
theorem XE:ed (cN rows) 40 WJ:=eH (D:=30) (md:=mdI) (is:=[Vd]) (WcW.2 ⟨cJ (by decide) Oh,WcX _⟩) 10 (by decide) (by kernel_rfl)
theorem Uj:ed (cN rows) 60 WX:=eH (D:=50) (md:=mdI) (is:=[zba,WJ]) (WcW.2 ⟨cJ (by decide) zbi,WcW.2 ⟨cJ (by decide) XE,WcX _⟩⟩) 10 (by decide) (by kernel_rfl)
theorem P3:ed (cN rows) 70 XQ:=eH (D:=60) (md:=mdI) (is:=[Dp,KX,Rm,XJ,Za,WX]) (WcW.2 ⟨cJ (by decide) w6,WcW.2 ⟨cJ (by decide) Kj,WcW.2 ⟨cJ (by decide) Us,WcW.2 ⟨cJ (by decide) zad,WcW.2 ⟨cJ (by decide) Lz,WcW.2 ⟨cJ (by decide) Uj,WcX _⟩⟩⟩⟩⟩⟩) 10 (by decide) (by kernel_rfl)
theorem Vk:ed (cN rows) 50 zaw:=eH (D:=40) (md:=mdI) (is:=[Vd,Zp,JE,U3,Q3,Dp,KX]) (WcW.2 ⟨cJ (by decide) Oh,WcW.2 ⟨cJ (by decide) WZ,WcW.2 ⟨cJ (by decide) Ev,WcW.2 ⟨cJ (by decide) OT,WcW.2 ⟨cJ (by decide) IA,WcW.2 ⟨cJ (by decide) w6,WcW.2 ⟨cJ (by decide) Kj,WcX _⟩⟩⟩⟩⟩⟩⟩) 10 (by decide) (by kernel_rfl)
theorem tx:ed (cN rows) 10 xl:=eH (D:=0) (md:=mdI) (is:=[]) (WcX _) 10 (by decide) (by kernel_rfl)
theorem Zo:ed (cN rows) 20 XL:=eH (D:=10) (md:=mdI) (is:=[xl]) (WcW.2 ⟨cJ (by decide) tx,WcX _⟩) 10 (by decide) (by kernel_rfl)
theorem K4:ed (cN rows) 50 Uh:=eH (D:=40) (md:=mdI) (is:=[zT]) (WcW.2 ⟨cJ (by decide) uc,WcX _⟩) 10 (by decide) (by kernel_rfl)
theorem YR:ed (cN rows) 80 zeH:=eH (D:=70) (md:=mdI) (is:=[zT,XQ,XL]) (WcW.2 ⟨cJ (by decide) uc,WcW.2 ⟨cJ (by decide) P3,WcW.2 ⟨cJ (by decide) Zo,WcX _⟩⟩⟩) 10 (by decide) (by kernel_rfl)
theorem ti:ed (cN rows) 60 AK:=eH (D:=50) (md:=mdI) (is:=[Za]) (WcW.2 ⟨cJ (by decide) Lz,WcX _⟩) 10 (by decide) (by kernel_rfl)
theorem EN:ed (cN rows) 10 J2:=eH (D:=0) (md:=mdI) (is:=[]) (WcX _) 10 (by decide) (by kernel_rfl)
theorem Zs:ed (cN rows) 10 zek:=eH (D:=0) (md:=mdI) (is:=[]) (WcX _) 10 (by decide) (by kernel_rfl)
theorem EO:ed (cN rows) 70 Pk:=eH (D:=60) (md:=mdI) (is:=[xl,AK,J2]) (WcW.2 ⟨cJ (by decide) tx,WcW.2 ⟨cJ (by decide) ti,WcW.2 ⟨cJ (by decide) EN,WcX _⟩⟩⟩) 10 (by decide) (by kernel_rfl)
theorem Kw:ed (cN rows) 80 W7:=eH (D:=70) (md:=mdI) (is:=[xl,AK,J2,Pk]) (WcW.2 ⟨cJ (by decide) tx,WcW.2 ⟨cJ (by decide) ti,WcW.2 ⟨cJ (by decide) EN,WcW.2 ⟨cJ (by decide) EO,WcX _⟩⟩⟩⟩) 10 (by decide) (by kernel_rfl)
theorem T1:ed (cN rows) 90 zal:=eH (D:=80) (md:=mdI) (is:=[xl,AK,J2,Pk,W7]) (WcW.2 ⟨cJ (by decide) tx,WcW.2 ⟨cJ (by decide) ti,WcW.2 ⟨cJ (by decide) EN,WcW.2 ⟨cJ (by decide) EO,WcW.2 ⟨cJ (by decide) Kw,WcX _⟩⟩⟩⟩⟩) 10 (by decide) (by kernel_rfl)
theorem zcc:ed (cN rows) 100 zgX:=eH (D:=90) (md:=mdI) (is:=[xl,AK,J2,Pk,W7,zal]) (WcW.2 ⟨cJ (by decide) tx,WcW.2 ⟨cJ (by decide) ti,WcW.2 ⟨cJ (by decide) EN,WcW.2 ⟨cJ (by decide) EO,WcW.2 ⟨cJ (by decide) Kw,WcW.2 ⟨cJ (by decide) T1,WcX _⟩⟩⟩⟩⟩⟩) 10 (by decide) (by kernel_rfl)
theorem Y4:ed (cN rows) 10 XS:=eH (D:=0) (md:=mdI) (is:=[]) (WcX _) 10 (by decide) (by kernel_rfl)
theorem Mb:ed (cN rows) 60 GX:=eH (D:=50) (md:=mdI) (is:=[Za,XS]) (WcW.2 ⟨cJ (by decide) Lz,WcW.2 ⟨cJ (by decide) Y4,WcX _⟩⟩) 10 (by decide) (by kernel_rfl)
theorem Y3:ed (cN rows) 80 Yw:=eH (D:=70) (md:=mdI) (is:=[zbF,WX,Uh,GX]) (WcW.2 ⟨cJ (by decide) zam,WcW.2 ⟨cJ (by decide) Uj,WcW.2 ⟨cJ (by decide) K4,WcW.2 ⟨cJ (by decide) Mb,WcX _⟩⟩⟩⟩) 10 (by decide) (by kernel_rfl)
theorem Y9:ed (cN rows) 60 XP:=eH (D:=50) (md:=mdI) (is:=[P4,Q3,zT]) (WcW.2 ⟨cJ (by decide) ED,WcW.2 ⟨cJ (by decide) IA,WcW.2 ⟨cJ (by decide) uc,WcX _⟩⟩⟩) 10 (by decide) (by kernel_rfl)
end
end
section
variable {v:V}{n:Int}{t:TxS}{cs:List CoT}
variable {Y:Type}
theorem za3(sz:Nat)(l:Ls)(k:Ls->Option Y):aGs sz (.gs sz l) k=k l:=by show chk (sz=sz) (k l)=k l; exact bT rfl _
theorem zbU{a b:A}(h:∀ N W,G N W (.ah [a,b]) v):∃ x y,v=.ah [x,y]/\(∀ N W,G N W a x)/\∀ N W,G N W b y:=by
 have key:∀ N W,∃ vs,v=.ah vs/\GL N W [a,b] vs:=by
  intro N W;have h:=h N W;generalize hc:A.ah [a,b]=c at h;cases h <;> first | (cases hc; done) | skip
  rename_i vs hl hh;cases hc;exact ⟨vs,rfl,hl,hh⟩
 obtain ⟨vs,rfl,h0⟩:=key 0 (λ_=>0);obtain ⟨x,r,rfl,_,h0⟩:=hY h0;obtain ⟨y,r,rfl,_,h0⟩:=hY h0;obtain rfl:=te h0;refine ⟨x,y,rfl,λN W=>?_,λN W=>?_⟩
 ·obtain ⟨vs,e,h⟩:=key N W;cases e;exact h.2 0 _ _ rfl rfl
 ·obtain ⟨vs,e,h⟩:=key N W;cases e;exact h.2 1 _ _ rfl rfl
theorem Yv(h:∀ N W,G N W vK v):∃ l,v=.agg (row .u8 l)/\l.length=32/\dG l:=by
 obtain ⟨vs,rfl,h1⟩:=Cu (h 0 (λ_=>0));obtain ⟨l,rfl,hl,hb⟩:=Jt h1;exact ⟨l,rfl,hl,hb⟩
theorem zdj{hd:List V}(hh:∀ N W,G N W DN (.agg hd)):∃ l,l.length=32/\dG l/\Fin2 λL=>∀ (Y:Type) k,co Y L hd k=k (row .u8 l):=by
 obtain ⟨v,g,L0,h⟩:=vD (cJ (D':=300) (by decide) ED) (ws:=[.agg hd]) (λN W=>gl1 (hh N W));obtain ⟨l,rfl,hl,hb⟩:=Yv g;exact ⟨l,hl,hb,L0,λL hL Y k=>(h L hL Y _).trans (Z5 _ _)⟩
theorem zbZ{p l b:List V}(hp:∀ N W,G N W mN (.agg p))(hl:∀ N W,G N W pI (.agg l))(hb:∀ N W,G N W zD (.agg b)):∃ e,(0<=e/\e<=999)/\Fin2 λL=>∀ (Y:Type) k,cj Y L p l b k=k e:=by
 obtain ⟨v,g,L0,h⟩:=vD (cJ (D':=300) (by decide) YR) (ws:=[.agg p,.agg l,.agg b]) (λN W=>.cons (hp N W) (.cons (hl N W) (gl1 (hb N W))));obtain ⟨e,rfl,he⟩:=qJ (g 0 (λ_=>0));exact ⟨e,he,L0,λL hL Y k=>(h L hL Y _).trans (EM _ _ _)⟩
theorem XG{p:List V}(hp:∀ N W,G N W mN (.agg p))(hn:-9223372036854775808<=n/\n<=9223372036854775807):∃ e,Fin2 λL=>∀ (Y:Type) k,bW Y L p n k=k e:=by
 obtain ⟨v,g,L0,h⟩:=vD (cJ (D':=300) (by decide) K4) (ws:=[.agg p,.sc (.int .i64 n)]) (λN W=>.cons (hp N W) (gl1 (.iv .i64 _ _ n hn)));obtain ⟨e,rfl,he⟩:=qJ (g 0 (λ_=>0));exact ⟨e,L0,λL hL Y k=>(h L hL Y _).trans (EM _ _ _)⟩
theorem Zd(h:TxSOk t)(N:Nat)(W:Nat->Int):G N W wN (.agg (txr t)):=.agg _ _ (h.g N W).1 (h.g N W).2
theorem Xj(ht:TxSOk t){c:CoT}(hc:CoOk c)(hn:-9223372036854775808<=n/\n<=9223372036854775807):∃ f e,(-9223372036854775808<=f/\f<=9223372036854775807)/\(0<=e/\e<=999)/\Fin2 λL=>∀ (Y:Type) k,cg Y L (txr t) [dK c] n k=k f e:=by
 obtain ⟨v,g,L0,h⟩:=vD (cJ (D':=300) (by decide) Vk) (ws:=[.agg (txr t),.sl 37 [dK c],.sc (.int .i64 n)]) (λN W=>.cons (Zd ht N W) (.cons (NN (q:=0) (by simp) (by simp) (λr hr=>by rw [WcF.1 hr]; exact hc.g N W)) (gl1 (.iv .i64 _ _ n hn))));obtain ⟨x,y,rfl,h1,h2⟩:=zbU g;obtain ⟨f,rfl,hf⟩:=qJ (h1 0 (λ_=>0));obtain ⟨e,rfl,he⟩:=qJ (h2 0 (λ_=>0));refine ⟨f,e,hf,he,L0,λL hL Y k=>(h L hL Y _).trans ?_⟩;simp only [AT2,AI,EM]
theorem zgV(g:∀ N W,G N W (.ah [.ai 1 37 0 n oA,tM]) v):∃ (cs:List CoT) (e:Int),v=.ah [.gs 37 (cs.map dK),.sc (.int .i64 e)]/\(∀ c∈cs,CoOk c)/\(cs.length:Int)<=n/\(0<=e/\e<=999):=by
 obtain ⟨x,y,rfl,h1,h2⟩:=zbU g;obtain ⟨es,rfl,_,hn,hr⟩:=KO (by omega) h1;obtain ⟨l,rfl,hl⟩:=Ok hr;obtain ⟨e,rfl,he⟩:=qJ (h2 0 (λ_=>0));exact ⟨l,e,rfl,hl,by simpa using hn,he⟩
theorem YP(ht:TxSOk t)(hc:∀ c∈cs,CoOk c)(hn:-9223372036854775808<=n/\n<=9223372036854775807){j:Nat}(hj:j<=3)(hl:cs.length<=100000+2*j) :
  ∃ (cs':List CoT) (e:Int),(∀ c∈cs',CoOk c)/\cs'.length<=100000+2*(j+1)/\(0<=e/\e<=999)/\Fin2 λL=>∀ (Y:Type) k,cw Y L (cs.map dK) (txr t) n k=k (cs'.map dK) e:=by
 have fin:∀ {i:Inst} {m:Int},ed (cN rows) 300 i->i.g=481->i.args=[rh (100000+2*j:Nat),wN,oN]->i.res=.ah [.ai 1 37 0 m oA,tM]->m<=(100000+2*(j+1):Nat)->∃ (cs':List CoT) (e:Int),(∀ c∈cs',CoOk c)/\cs'.length<=100000+2*(j+1)/\(0<=e/\e<=999)/\Fin2 λL=>∀ (Y:Type) k,cw Y L (cs.map dK) (txr t) n k=k (cs'.map dK) e:=by
  intro i m hi hg ha hres hm;obtain ⟨v,g,L0,h⟩:=vD hi (ws:=[.sl 37 (cs.map dK),.agg (txr t),.sc (.int .i64 n)]) (λN W=>by
   rw [ha];exact .cons (Ly hc (by exact_mod_cast hl)) (.cons (Zd ht N W) (gl1 (.iv .i64 _ _ n hn))))
  rw [hres] at g;obtain ⟨cs',e,rfl,q1,q2,q3⟩:=zgV g;rw [hg] at h;refine ⟨cs',e,q1,by omega,q3,L0,λL hL Y k=>(h L hL Y _).trans ?_⟩;simp only [AT2,AI,AGs,EM,za3]
 match j,hj with
 | 0,_=>exact fin (cJ (by decide) EO) rfl rfl rfl (by decide)
 | 1,_=>exact fin (cJ (by decide) Kw) rfl rfl rfl (by decide)
 | 2,_=>exact fin (cJ (by decide) T1) rfl rfl rfl (by decide)
 | 3,_=>exact fin (cJ (by decide) zcc) rfl rfl rfl (by decide)
theorem Xy(ht:TxSOk t)(hn:-9223372036854775808<=n/\n<=9223372036854775807):∃ cs:List CoT,(∀ c∈cs,CoOk c)/\cs.length<=2/\Fin2 λL=>∀ (Y:Type) k,bV Y L (txr t) n k=k (cs.map dK):=by
 obtain ⟨v,g,L0,h⟩:=vD (cJ (D':=300) (by decide) ti) (ws:=[.agg (txr t),.sc (.int .i64 n)]) (λN W=>.cons (Zd ht N W) (gl1 (.iv .i64 _ _ n hn)));obtain ⟨es,rfl,_,hm,hr⟩:=KO (by omega) g;obtain ⟨l,rfl,hl⟩:=Ok hr;refine ⟨l,hl,by simp at hm; omega,L0,λL hL Y k=>(h L hL Y _).trans ?_⟩;exact za3 37 _ _
theorem TO(hc:∀ c∈cs,CoOk c)(hl:cs.length<=100008):∃ n,Fin2 λL=>∀ (Y:Type) k,ch Y L (cs.map dK) k=k n:=by
 obtain ⟨v,g,L0,h⟩:=vD (cJ (D':=300) (by decide) Zs) (ws:=[.sl 37 (cs.map dK)]) (λN W=>gl1 (Ly hc (by omega)));obtain ⟨n,rfl,_⟩:=qJ (g 0 (λ_=>0));exact ⟨n,L0,λL hL Y k=>(h L hL Y _).trans (EM _ _ _)⟩
end
section
variable {L:Nat}{c:CoT}{t:TxS}
variable {Y:Type}
theorem zhx(hL:3<=L){s:Ls}(hs:s.length<=1000)(k:Ls->Option Y):f6 Y L [[V.sl 1 s]] k=k s:=by
 obtain ⟨n,rfl⟩:∃ n,L=n+3:=⟨L-3,by omega⟩;have hj:∀ (k:Ls->Option Y),cA Y (n+3) [] s k=k s:=by
  intro k;simp only [cA,ud,cH,WcT];rw [kK (by omega) (by omega),bT (by simp only [cy]; omega),bT (by simp [cy]),
   List.replicate_zero,WcQ,bT (by simp only [WcT,cy]; omega),WcQ]
 simp only [f6,xW,D3,pj,uP,cH];rw [dt (by simp),wH (by decide) (c:=[V.sl 1 s]) rfl,rC rfl,hj,du (by exact (by decide:¬ Wbf .i64 ((0:Int)+1)<((1:Nat):Int)))];rfl
theorem zdy(c:CoT)(hl:c.h.length=32)(L:Nat)(k:List V->Option Y):bX Y L (dK c) k=f6 Y L [[V.sl 1 c.s]] (λv=>k (dK { c with s:=v })):=by
 obtain ⟨h,ix,val,s,ht,cb⟩:=c
 match h,hl with
 | [x0,x1,x2,x3,x4,x5,x6,x7,x8,x9,x10,x11,x12,x13,x14,x15,x16,x17,x18,x19,x20,x21,x22,x23,x24,x25,x26,x27,x28,x29,x30,x31],_=>rfl
theorem zeh(hc:CoOk c)(hL:3<=L)(k:List V->Option Y):bX Y L (dK c) k=k (dK c):=by
 rw [zdy c hc.hl,zhx hL (by rw [hc.sl]; omega)]
theorem zdV(h:c.h.length=32):cD (Wad 32 (QQa (0:Int))++[(QQc (0:Int)),(QQe (0:Int)),(V.gs 1 ([]:Ls)),(QQe (0:Int)),(V.sc (.bool false))]) 0 (dK c)=dK c:=ke (by rw [wd h]; rfl)
theorem zgs(h:c.h.length=32):cD (Wad 32 (QQa (0:Int))++[(QQc (0:Int)),(QQe (0:Int)),(V.sl 1 ([]:Ls)),(QQe (0:Int)),(V.sc (.bool false))]) 0 (dK c)=dK c:=ke (by rw [wd h]; rfl)
theorem zhD(h:c.h.length=32):cz 37 1 (dK c)=[dK c]:=by
 simp only [cz,HP h]
theorem zdO(t:TxS):cD [(QQc (0:Int)),(V.gs 35 ([]:Ls)),(V.gs 2 ([]:Ls)),(QQc (0:Int))] 0 (WcK 4 (txr t))=txr t:=rfl
theorem zhc(t:TxS)(k:Ls->Option Y):cLd 35 (txr t) 1 k=k [ipt t++t.r]:=j4 rfl k
theorem P8(ht:TxSOk t):(ipt t++t.r).length=35:=by rw [List.length_append,Yr ht.hl,ht.rl]
theorem zhG(ht:TxSOk t):cD (Wad 32 (QQa (0:Int))++[(QQc (0:Int)),(QQc (0:Int)),(V.gs 1 ([]:Ls))]) 0 (WcK 35 (ipt t++t.r))=ipt t++t.r:=by
 rw [WbR (by rw [P8 ht]; omega)];exact ke (by rw [P8 ht]; rfl)
theorem zb1(ht:TxSOk t):WcK 33 (ipt t++t.r)=row .u8 t.h++[V.sc (.int .u32 t.ix)]:=by
 rw [<- Yr ht.hl,Wdd]; rfl
theorem za6{p:List V}{mat:Int}(hp:p[79]?=some (QQe mat)){cs:List CoT}(hc:∀ c∈cs,CoOk c)(hn:cs.length<=1000000)(ht:TxSOk t)(n:Int) :
  ∃ (out:List CoT) (e:Int),(∀ L,2000000<=L->∀ (Y:Type) (k:Ls->Int->Option Y),ce Y L p (cs.map dK) (txr t) n k=k (out.map dK) e)/\(0<=e/\e<=999)/\((e≠0/\out=[])∨(e=0/\∃ c∈cs,out=[c])):=by
 have hf:∀ (L:Nat),2000000<=L->∀ (Y:Type) (k:Int->Option Y),bP Y L (cs.map dK) (row .u8 t.h++[V.sc (.int .u32 t.ix)]) k=k (lH (λc=>pi c t.h t.ix) cs 0):=λL hL Y k=>Yi hL (λc h=>(hc c h).hl) hn ht.hl k;have e1:∀ (L:Nat),2000000<=L->∀ (Y:Type) (k:Ls->Int->Option Y),ce Y L p (cs.map dK) (txr t) n k =
   (ifb (decide (lH (λc=>pi c t.h t.ix) cs 0<0)) (k [] 101) (idx (cs.map dK) (lH (λc=>pi c t.h t.ix) cs 0) λc4=>bX Y L (List.map V.ag (WcK 37 c4)) λv5=>
    chk ((WcJ v5)=37/\0+37<=37) (
    chk ((WcJ ([]:Ls)+WcJ (cz 37 1 (cD (Wad 32 (QQa (0:Int))++[(QQc (0:Int)),(QQe (0:Int)),(V.sl 1 ([]:Ls)),(QQe (0:Int)),(V.sc (.bool false))]) 0 v5)))*88<=cy/\WcJ ([]:Ls)+WcJ (cz 37 1 (cD (Wad 32 (QQa (0:Int))++[(QQc (0:Int)),(QQe (0:Int)),(V.sl 1 ([]:Ls)),(QQe (0:Int)),(V.sc (.bool false))]) 0 v5))<=cy) (
    jE bP bX L n ([]++(cz 37 1 (cD (Wad 32 (QQa (0:Int))++[(QQc (0:Int)),(QQe (0:Int)),(V.sl 1 ([]:Ls)),(QQe (0:Int)),(V.sc (.bool false))]) 0 v5))) p k)))):=by
  intro L hL Y k;obtain ⟨m,rfl⟩:∃ m,L=m+2:=⟨L-2,by omega⟩;simp only [ce,vQ,BP,zhc];rw [ou,tT,dt (by simp),wH (by decide) (c:=ipt t++t.r) rfl,bT ⟨by rw [WbR (by rw [P8 ht]; omega),P8 ht],by omega⟩,zhG ht,cH,bT (by rw [P8 ht]; omega),zb1 ht,hf _ hL];congr 1
 rcases w5 (λc=>pi c t.h t.ix) cs 0 with ⟨e,_⟩ | ⟨i,hi,e,_⟩
 ·refine ⟨[],101,λL hL Y k=>?_,by omega,.inl ⟨by omega,rfl⟩⟩;rw [e1 L hL,e,dt (by omega)]; rfl
 ·have hci:=hc _ (WaV hi);have e2:∀ (L:Nat),2000000<=L->∀ (Y:Type) (k:Ls->Int->Option Y),ce Y L p (cs.map dK) (txr t) n k=jE bP bX L n [dK cs[i]] p k:=by
   intro L hL Y k;rw [e1 L hL,e,du (by omega),Nat.zero_add,fe (fm hi),HP hci.hl,zdq,zeh hci (by omega),bT ⟨wd hci.hl,by omega⟩,zgs hci.hl,zhD hci.hl,bT (by simp [cy]),WcQ]
  have e3:∀ (L:Nat),2000000<=L->∀ (Y:Type) (k:Ls->Int->Option Y),ce Y L p (cs.map dK) (txr t) n k=ifb cs[i].cb (ifb (decide (Wbf .i64 (n-cs[i].ht)<mat)) (k [] 230) (k [dK cs[i]] 0)) (k [dK cs[i]] 0):=by
   intro L hL Y k;rw [e2 L hL];obtain ⟨m,rfl⟩:∃ m,L=m+2:=⟨L-2,by omega⟩;have h36:(dK cs[i])[36]?=some (V.sc (.bool cs[i].cb)):=YB hci.hl 3;have h35:(dK cs[i])[35]?=some (QQe cs[i].ht):=YB hci.hl 2;simp only [jE,qu];rw [kg,nY,dt (by simp),wH (by decide) (c:=dK cs[i]) rfl,HP hci.hl,bT ⟨wd hci.hl,by omega⟩,zdV hci.hl,cH,zeP h36];have hx:∀ (x:Int),x=Wbf .i64 ((0:Int)+1)->kg bP bX (m+2) (λp8 p9=>oV bP bX (m+2) p8 p9 k) (λp10=>pw bP bX (m+2) p10 k) (m+1) n [dK cs[i]] [dK cs[i]] ((WcJ [dK cs[i]]:Nat):Int) x p=k [dK cs[i]] 0:=by
    rintro x rfl
    rw [kg,nY,du (by exact (by decide:¬ Wbf .i64 ((0:Int)+1)<((1:Nat):Int)))]; rfl
   cases cs[i].cb with
   | true=>
    rw [gV,gV,eQ h35,cH,eQ hp];by_cases hm:Wbf .i64 (n-cs[i].ht)<mat
    ·rw [dt hm,dt hm]; rfl
    ·rw [du hm,du hm,cH,hx _ rfl]
   | false=>rw [eC,eC,cH,hx _ rfl]
  by_cases hcond:cs[i].cb=true/\Wbf .i64 (n-cs[i].ht)<mat
  ·refine ⟨[],230,λL hL Y k=>?_,by omega,.inl ⟨by omega,rfl⟩⟩;rw [e3 L hL,hcond.1,gV,dt hcond.2]; rfl
  ·refine ⟨[cs[i]],0,λL hL Y k=>?_,by omega,.inr ⟨rfl,_,WaV hi,rfl⟩⟩;rw [e3 L hL];cases hb:cs[i].cb with
   | true=>
    rw [gV,du (λh=>hcond ⟨hb,h⟩)]; rfl
   | false=>rfl
end
section
variable {cs:List CoT}
variable {Y:Type}
def Y0:A->Bool
 | .int _ _ | .iv _ _ _ | .bool | .agg _=>true
 | .ak 0 _ _ _ | .ai 0 _ _ _ _ | .am 0 _ _=>true
 | _=>false
theorem zhp{N:Nat}{W:Nat->Int}{a:A}{v:V}(h:G N W a v)(ha:Y0 a=true):v.ag=v:=by
 cases h <;> first | rfl | (simp [Y0] at ha; done) | skip
 all_goals
  unfold Y0 at ha;split at ha <;> first | rfl | (cases ha; done) | skip
  all_goals first | rfl | (rename_i e; cases e; rfl) | simp_all [mkL]
theorem GN{N:Nat}{W:Nat->Int}:∀ {xs:List A} {vs:List V},xs.all Y0=true->GL N W xs vs->vs.map V.ag=vs
 | [],vs,_,h=>by rw [te h]; rfl
 | a::xs,vs,ha,h=>by
  obtain ⟨v,r,e,g,h2⟩:=hY h;subst e;rw [List.all_cons,Bool.and_eq_true] at ha;rw [List.map_cons,zhp g ha.1,GN ha.2 h2]
theorem Zw{L:Nat}(hn:cs.length<=1000000){i:Nat}(hi:i<cs.length)(k:Ls->Option Y):bU Y L (cs.map dK) (i:Int) k=k ((cs.take i++cs.drop (i+1)).map dK):=by
 have e2:WcK (cs.length-(i+1)) (WcM (i+1) (cs.map dK))=WcM (i+1) (cs.map dK):=WbR (by simp);simp only [bU,yz,cH,WcO,up (show i<=1000000000 by omega),Int.toNat_natCast,WcQ,WcT,WcP,Nat.sub_zero];rw [bT (by omega),bT (by simp only [List.length_take,WcO,cy]; omega),bT (by omega),bT (by simp only [List.length_take,List.length_drop,WcO,cy]; omega),e2,WcY,List.map_take,List.map_drop]
def zlr:List V:=j5 0 (Wad 32 0) []
def zur:List V:=[V.sl 37 []]
def zb6:List V:=[(QQe (0:Int))]++Wad 32 (QQa (0:Int))++[(V.gs 37 ([]:Ls))]
theorem G3:([(QQe (0:Int))]++Wad 32 (QQa (0:Int))++[(V.sl 37 ([]:Ls))])=zlr:=rfl
theorem GK:zlr.length=34:=rfl
theorem Hr(l:List V)(h:l.length=34):cD zb6 0 l=l:=ke (by rw [h]; rfl)
theorem PD(t:TxS):(txr t).length=4:=rfl
theorem JI(t:TxS):WcK 4 (txr t)=txr t:=rfl
theorem W3(t:TxS):List.map V.ag (txr t)=txr t:=rfl
theorem zc5(hc:∀ c∈cs,CoOk c)(hn:cs.length<=1000000){c:CoT}(hm:c∈cs):∃ cs':List CoT,(∀ c∈cs',CoOk c)/\cs'.length<=cs.length /\
  ∀ (L:Nat),3000000<=L->∀ (Y:Type) (kx:vg Y) (p12:Int) (p15:Ls) (p17:Int) (p46:Ls) (p47 p48:Int) (b3 b5 b6:List V) (b7:Ls) (ht:Int) (hh:List Int) (us:Ls) (b14:List V),hh.length=32 ->
   e9 cj co bW ce cg cw bV ch bP bU L kx L p12 p15 p17 p46 p47 p48 [dK c] 1 0 b3 b5 b6 b7 (j5 ht hh (cs.map dK)) us b14=kx p12 p15 p17 p46 p47 p48 b3 b5 b6 b7 (j5 ht hh (cs'.map dK)) us b14:=by
 rcases w5 (λx=>pi x c.h c.ix) cs 0 with ⟨_,h⟩ | ⟨i,hi,e,_⟩
 ·have:=h c hm;simp [pi] at this
 ·refine ⟨cs.take i++cs.drop (i+1),λx hx=>?_,by simp; omega,λL hL Y kx p12 p15 p17 p46 p47 p48 b3 b5 b6 b7 ht hh us b14 hhl=>?_⟩
  ·rcases Wbt.1 hx with h | h
   ·exact hc x (WaI h)
   ·exact hc x (WaP h)
  ·have hl:=(hc c hm).hl;obtain ⟨m,rfl⟩:∃ m,L=m+2:=⟨L-2,by omega⟩;rw [e9,hS,dt (by decide),wH (by decide) (c:=dK c) rfl,HP hl,bT ⟨wd hl,by omega⟩,zdV hl,cH,AV hhl,AV hhl,bT (by rw [wd hl]; omega),TF hl,
    show cpt c=row .u8 c.h++[V.sc (.int .u32 c.ix)] from rfl,Yi (by omega) (λx hx=>(hc x hx).hl) hn hl,e,Nat.zero_add,Zw hn hi,bT (by rw [lp hhl]; omega),Oq hhl,cH,cH,e9,hS,du (by decide)]
section
variable {p:List V} {mat:Int}
theorem Ld(hp:p[79]?=some (QQe mat))(hpl:p.length=80)(hpd:p.map V.ag=p){l:List TxS}(hl:∀ t∈l,TxSOk t)(hll:l.length<=4){ht:Int}(hr:-9223372036854775808<=ht/\ht<=9223372036854775807){hh:List Int}(hhl:hh.length=32) :
  ∀ (m i:Nat),i+m=l.length->∀ (most:Int) (cs us:List CoT),(∀ c∈cs,CoOk c)->cs.length<=100000+2*i->(∀ c∈us,CoOk c)->us.length<=i-1 ->
  (∃ e:Int,(0<=e/\e<=999)/\Fin2 λL=>∀ (n:Nat),m<n->∀ (Y:Type) (kr:Int->List V->List V->Option Y) (kx:jg Y) (b5:List V),ew cj co bW ce cg cw bV ch bP bU L kr kx n most (l.map txr) (l.length:Int) (i:Int) p b5 zb6 [] (j5 ht hh (cs.map dK)) (us.map dK)=kr e zlr zur) ∨
  (∃ (most':Int) (cs' us':List CoT),(∀ c∈cs',CoOk c)/\cs'.length<=100008/\(∀ c∈us',CoOk c)/\us'.length<=3/\Fin2 λL=>∀ (n:Nat),m<n->∀ (Y:Type) (kr:Int->List V->List V->Option Y) (kx:jg Y) (b5:List V),ew cj co bW ce cg cw bV ch bP bU L kr kx n most (l.map txr) (l.length:Int) (i:Int) p b5 zb6 [] (j5 ht hh (cs.map dK)) (us.map dK)=kx most' b5 zb6 [] (j5 ht hh (cs'.map dK)) (us'.map dK))
 | 0,i,hi,most,cs,us,hc,hn,hu,hul=>by
  refine .inr ⟨most,cs,us,hc,by omega,hu,by omega,0,λL _ n hn Y kr kx b5=>?_⟩;obtain ⟨n,rfl⟩:∃ k,n=k+1:=⟨n-1,by omega⟩;rw [ew,iR,kn,du (by omega)]
 | m+1,i,hi,most,cs,us,hc,hn,hu,hul=>by
  have hil:i<l.length:=by omega
  have ht1:=hl _ (WaV hil);have hi3:i<=3:=by omega
  by_cases h0:i=0
  ·obtain ⟨cs1,e,hc1,hn1,he,L1,h1⟩:=YP (n:=ht) ht1 hc hr (j:=i) hi3 hn;have step:∀ (L:Nat),L1<=L->∀ (n:Nat) (Y:Type) (kr:Int->List V->List V->Option Y) (kx:jg Y) (b5:List V),ew cj co bW ce cg cw bV ch bP bU L kr kx (n+1) most (l.map txr) (l.length:Int) (i:Int) p b5 zb6 [] (j5 ht hh (cs.map dK)) (us.map dK) =
     if e=0 then ew cj co bW ce cg cw bV ch bP bU L kr kx n most (l.map txr) (l.length:Int) ((i+1:Nat):Int) p b5 zb6 [] (j5 ht hh (cs1.map dK)) (us.map dK) else kr e zlr zur:=by
    intro L hL n Y kr kx b5;rw [ew,iR,kn,dt (by omega),fe (fm hil),bT ⟨rfl,by omega⟩,zdO,cH,du (by omega),AV hhl,bT (by rw [PD]; omega),Dx,JI,W3,h1 L hL,iN];by_cases he0:e=0
    ·rw [if_pos he0,if_pos he0,bT (by rw [lp hhl]; omega),Oq hhl,cH,cH,up (by omega)]
    ·rw [if_neg he0,if_neg he0,bT ⟨rfl,by decide⟩,G3,Hr _ GK,cH,cH]; rfl
   by_cases he0:e=0
   ·rcases Ld hp hpl hpd hl hll hr hhl m (i+1) (by omega) most cs1 us hc1 hn1 hu (by omega) with ⟨e2,g1,L2,g2⟩ | ⟨m2,cs2,us2,g1,g2,g3,g4,L2,g5⟩
    ·refine .inl ⟨e2,g1,L1+L2,λL hL n hn Y kr kx b5=>?_⟩;obtain ⟨n,rfl⟩:∃ k,n=k+1:=⟨n-1,by omega⟩;rw [step L (by omega),if_pos he0,g2 L (by omega) n (by omega)]
    ·refine .inr ⟨m2,cs2,us2,g1,g2,g3,g4,L1+L2,λL hL n hn Y kr kx b5=>?_⟩;obtain ⟨n,rfl⟩:∃ k,n=k+1:=⟨n-1,by omega⟩;rw [step L (by omega),if_pos he0,g5 L (by omega) n (by omega)]
   ·refine .inl ⟨e,he,L1,λL hL n hn Y kr kx b5=>?_⟩;obtain ⟨n,rfl⟩:∃ k,n=k+1:=⟨n-1,by omega⟩;rw [step L hL,if_neg he0]
  ·obtain ⟨out,e,h1,he,hout⟩:=za6 hp hc (by omega) ht1 ht;have kD:∀ (L:Nat),3000000<=L->∀ (n:Nat) (Y:Type) (kr:Int->List V->List V->Option Y) (kx:jg Y) (b5:List V),ew cj co bW ce cg cw bV ch bP bU L kr kx (n+1) most (l.map txr) (l.length:Int) (i:Int) p b5 zb6 [] (j5 ht hh (cs.map dK)) (us.map dK) =
     if e=0 then cg Y L (txr l[i]) (out.map dK) ht (λv21 v22=>if v22=0 then e9 cj co bW ce cg cw bV ch bP bU L (λp12 p15 p17 p46 p47 p48 b3 b5 b6 b7_0 b10 b11_0 b14=>gM cj co bW ce cg cw bV ch bP bU L p12 p15 p17 p46 p47 p48 b3 b5 b6 b7_0 b10 b11_0 b14 kr (λp12 p46 p47 p48 b3 b5 b6 b7_0 b10 b11_0=>ew cj co bW ce cg cw bV ch bP bU L kr kx n p12 p46 p47 p48 b3 b5 b6 b7_0 b10 b11_0)) L most (out.map dK) v21 (l.map txr) (l.length:Int) (i:Int) (out.map dK) (((out.map dK).length:Nat):Int) 0 p b5 zb6 [] (j5 ht hh (cs.map dK)) (us.map dK) (txr l[i]) else kr v22 zlr zur) else kr e zlr zur:=by
    intro L hL n Y kr kx b5;rw [ew,iR,kn,dt (by omega),fe (fm hil),bT ⟨rfl,by omega⟩,zdO,cH,dt (by omega),bT (by omega),AV hhl,bT (by rw [PD]; omega),Dx,JI,W3,WbR (by omega),hpd,h1 L (by omega),iN];by_cases he0:e=0
    ·rw [if_pos he0,if_pos he0,bT (by rw [PD]; omega),Dx];refine congrArg _ (funext λv21=>funext λv22=>?_);rw [iN];by_cases hv:v22=0
     ·rw [if_pos hv,if_pos hv]
     ·rw [if_neg hv,if_neg hv,bT ⟨rfl,by decide⟩,G3,Hr _ GK,cH,cH]; rfl
    ·rw [if_neg he0,if_neg he0,bT ⟨rfl,by decide⟩,G3,Hr _ GK,cH,cH]; rfl
   rcases hout with ⟨he0,rfl⟩ | ⟨rfl,c,hcm,rfl⟩
   ·refine .inl ⟨e,he,3000000,λL hL n hn Y kr kx b5=>?_⟩;obtain ⟨n,rfl⟩:∃ k,n=k+1:=⟨n-1,by omega⟩;rw [kD L hL,if_neg he0]
   ·obtain ⟨f,e2,_,he2,L2,h2⟩:=Xj (n:=ht) ht1 (hc c hcm) hr;by_cases hz:e2=0
    ·obtain ⟨cs1,hc1,hn1,h3⟩:=zc5 hc (by omega) hcm;obtain ⟨cs2,e3,hc2,hn2,he3,L3,h4⟩:=YP (n:=ht) ht1 hc1 hr (j:=i) hi3 (by omega);have stepB:∀ (L:Nat),3000000+L2+L3<=L->∀ (n:Nat) (Y:Type) (kr:Int->List V->List V->Option Y) (kx:jg Y) (b5:List V),ew cj co bW ce cg cw bV ch bP bU L kr kx (n+1) most (l.map txr) (l.length:Int) (i:Int) p b5 zb6 [] (j5 ht hh (cs.map dK)) (us.map dK) =
       if e3=0 then ew cj co bW ce cg cw bV ch bP bU L kr kx n (Wbf .i64 (most+f)) (l.map txr) (l.length:Int) ((i+1:Nat):Int) p b5 zb6 [] (j5 ht hh (cs2.map dK)) ((us++[c]).map dK) else kr e3 zlr zur:=by
      intro L hL n Y kr kx b5;rw [kD L (by omega),if_pos rfl];show cg Y L (txr l[i]) [dK c] ht _=_;rw [h2 L (by omega),if_pos hz];refine (h3 L (by omega) Y _ most [dK c] f (l.map txr) (l.length:Int) (i:Int) p b5 zb6 [] ht hh (us.map dK) (txr l[i]) hhl).trans ?_;rw [gM,cH,bT (by simp only [WcO,WcZ,WcT,cy]; omega),cH,AV hhl,bT (by rw [PD]; omega),Dx,JI,W3,h4 L (by omega),iN];by_cases he0:e3=0
      ·rw [if_pos he0,if_pos he0,bT (by rw [lp hhl]; omega),Oq hhl,cH,cH,up (by omega),WcY]; rfl
      ·rw [if_neg he0,if_neg he0,bT ⟨rfl,by decide⟩,G3,Hr _ GK,cH,cH]; rfl
     by_cases he0:e3=0
     ·rcases Ld hp hpl hpd hl hll hr hhl m (i+1) (by omega) (Wbf .i64 (most+f)) cs2 (us++[c]) hc2 hn2 (λx hx=>(Wbt.1 hx).elim (hu x) λh=>(WcF.1 h) ▸ hc c hcm) (by simp; omega) with ⟨e4,g1,L4,g2⟩ | ⟨m2,cs3,us3,g1,g2,g3,g4,L4,g5⟩
      ·refine .inl ⟨e4,g1,3000000+L2+L3+L4,λL hL n hn Y kr kx b5=>?_⟩;obtain ⟨n,rfl⟩:∃ k,n=k+1:=⟨n-1,by omega⟩;rw [stepB L (by omega),if_pos he0,g2 L (by omega) n (by omega)]
      ·refine .inr ⟨m2,cs3,us3,g1,g2,g3,g4,3000000+L2+L3+L4,λL hL n hn Y kr kx b5=>?_⟩;obtain ⟨n,rfl⟩:∃ k,n=k+1:=⟨n-1,by omega⟩;rw [stepB L (by omega),if_pos he0,g5 L (by omega) n (by omega)]
     ·refine .inl ⟨e3,he3,3000000+L2+L3,λL hL n hn Y kr kx b5=>?_⟩;obtain ⟨n,rfl⟩:∃ k,n=k+1:=⟨n-1,by omega⟩;rw [stepB L hL,if_neg he0]
    ·refine .inl ⟨e2,he2,3000000+L2,λL hL n hn Y kr kx b5=>?_⟩;obtain ⟨n,rfl⟩:∃ k,n=k+1:=⟨n-1,by omega⟩;rw [kD L (by omega),if_pos rfl];show cg Y L (txr l[i]) [dK c] ht _=_;rw [h2 L (by omega),if_neg hz]
end
end
section
variable {b:List V}{x:Int}{h:List Int}
variable {Y:Type}
theorem WF(h:∀ N W,GL N W tQ b):∃ (hd:List V) (l:List TxS),b=hd++[V.sl 4 (l.map txr)]/\hd.length=68/\(∀ N W,GL N W CO hd)/\(∀ t∈l,TxSOk t)/\1<=l.length/\l.length<=4:=by
 have h':∀ N W,GL N W (CO++[.ai 0 4 1 4 aTx]) b:=h;obtain ⟨hd,s,rfl,h1,h2⟩:=GM (h' 0 (λ_=>0));have hdl:hd.length=68:=h1.1.symm;obtain ⟨v,r,rfl,g,h3⟩:=hY h2;obtain rfl:=te h3;have hs:∀ N W,GL N W CO hd/\G N W (.ai 0 4 1 4 aTx) v:=by
  intro N W;obtain ⟨hd',s',e,q1,q2⟩:=GM (h' N W);obtain ⟨rfl,rfl⟩:=List.append_inj e (by rw [hdl,<- q1.1]; rfl);obtain ⟨v',r',e',q3,_⟩:=hY q2;cases e';exact ⟨q1,q3⟩
 obtain ⟨es,rfl,e1,e2,e3⟩:=KO (by omega) λN W=>(hs N W).2;have:∃ l:List TxS,es=l.map txr/\∀ t∈l,TxSOk t:=by
  clear h h' h1 h2 h3 g hs e1 e2
  induction es with
  | nil=>exact ⟨[],rfl,by simp⟩
  | cons e es ih=>
   obtain ⟨t,rfl,ht⟩:=zge (e3 _ (Wcy ..));obtain ⟨l,rfl,hl⟩:=ih λr hr=>e3 r (WcB _ hr);exact ⟨t::l,rfl,λx hx=>(WbL.1 hx).elim (λe=>e ▸ ht) (hl x)⟩
 obtain ⟨l,rfl,hl⟩:=this;rw [WcO] at e1 e2;exact ⟨hd,l,rfl,hdl,λN W=>(hs N W).1,hl,by omega,by omega⟩
theorem zbR(h:∀ N W,GL N W tS b):∃ (ht:Int) (hh:List Int) (cs:List CoT),b=j5 ht hh (cs.map dK)/\(-9223372036854775808<=ht/\ht<=9223372036854775807)/\hh.length=32/\dG hh/\(∀ c∈cs,CoOk c)/\cs.length<=100000:=by
 have h':∀ N W,GL N W (oN::(vY++[rh 100000])) b:=h;obtain ⟨v,r,rfl,g,h1⟩:=hY (h' 0 (λ_=>0));obtain ⟨ht,rfl,hr⟩:=qJ g;obtain ⟨a,s,rfl,h2,h3⟩:=GM h1;obtain ⟨hh,rfl,hl,hb⟩:=Jt h2;obtain ⟨w,s,rfl,g2,h4⟩:=hY h3;obtain rfl:=te h4;have hs:∀ N W,G N W (rh 100000) w:=by
  intro N W;refine (h' N W).2 33 _ _ rfl ?_;rw [show 33=32+1 from rfl,Wbq,Wal (by rw [fV]; omega),fV,hl]; rfl
 obtain ⟨es,rfl,_,e2,e3⟩:=KO (by omega) hs;obtain ⟨cs,rfl,hc⟩:=Ok e3;rw [WcO] at e2;exact ⟨ht,hh,cs,rfl,hr,hl,hb,hc,by omega⟩
theorem zbL{cs:Ls}(hl:h.length=32):cD (cD ([(QQe x)]++Wad 32 (QQa (0:Int))++[(V.sl 37 ([]:Ls))]) 1 (row .u8 h)) 33 [(V.sl 37 cs)]=j5 x h cs:=by
 match h,hl with
 | [x0,x1,x2,x3,x4,x5,x6,x7,x8,x9,x10,x11,x12,x13,x14,x15,x16,x17,x18,x19,x20,x21,x22,x23,x24,x25,x26,x27,x28,x29,x30,x31],_=>rfl
theorem zgR(hl:h.length=32):(cD ([(QQe x)]++Wad 32 (QQa (0:Int))++[(V.sl 37 ([]:Ls))]) 1 (row .u8 h)).length=34:=by
 match h,hl with
 | [x0,x1,x2,x3,x4,x5,x6,x7,x8,x9,x10,x11,x12,x13,x14,x15,x16,x17,x18,x19,x20,x21,x22,x23,x24,x25,x26,x27,x28,x29,x30,x31],_=>rfl
theorem zc3{l:List TxS}(hl:∀ t∈l,TxSOk t)(h0:0<l.length){hd:List V}(hdl:hd.length=68){ht:Int}(hr:-9223372036854775808<=ht/\ht<=9223372036854775807){hh:List Int}(hhl:hh.length=32){cs us:List CoT}(hc:∀ c∈cs,CoOk c)(hn:cs.length<=100008)(most:Int) :
  ∃ (r1 r2:List V) (e:Int),((r1=zlr/\r2=zur)∨(r1=j5 ht hh (cs.map dK)/\cs.length<=100000/\r2=[V.sl 37 (us.map dK)]))/\(0<=e/\e<=999)/\Fin2 λL=>∀ (Y:Type) (k:List V->List V->Int->Option Y),
   iL cj co bW ce cg cw bV ch bP bU L most (hd++[V.sl 4 (l.map txr)]) zb6 [] (j5 ht hh (cs.map dK)) (us.map dK) k=k r1 r2 e:=by
 obtain ⟨outs,ho,hol,L1,h1⟩:=Xy (hl _ (WaV h0)) hr;obtain ⟨n1,L2,h2⟩:=TO ho (by omega);obtain ⟨n2,L3,h3⟩:=TO hc hn;have hb:(hd++[V.sl 4 (l.map txr)])[68]?=some (V.sl 4 (l.map txr)):=by
  rw [Wal (by omega),hdl]; rfl
 have hz:(l.map txr)[(0:Int).toNat]?=some (txr l[0]):=fm h0;have key:∀ (L:Nat),L1+L2+L3<=L->∀ (Y:Type) (k:List V->List V->Int->Option Y),iL cj co bW ce cg cw bV ch bP bU L most (hd++[V.sl 4 (l.map txr)]) zb6 [] (j5 ht hh (cs.map dK)) (us.map dK) k =
   ifb (decide (n1>most)) (k zlr zur 231) (ifb (decide (n2>2100000000000000)) (k zlr zur 90) (ifb (decide (((cs.map dK).length:Int)>100000)) (k zlr zur 4) (k (j5 ht hh (cs.map dK)) [V.sl 37 (us.map dK)] 0))):=by
  intro L hL Y k;have z1:∀ (e:Int),chk (34=34/\0+34<=(WcJ zb6)) (lt (cD zb6 0 ([(QQe (0:Int))]++Wad 32 (QQa (0:Int))++[(V.sl 37 ([]:Ls))])) λr38=>lt [(V.sl 37 ([]:Ls))] λr39=>chk (0=0/\(WcJ r38)=34/\34≠0) (chk (0=0/\(WcJ r39)=1/\1≠0) (k r38 r39 e)))=k zlr zur e:=by
   intro e;rw [bT ⟨rfl,by decide⟩,G3,Hr _ GK,cH,cH,bT ⟨rfl,rfl,by decide⟩,bT ⟨rfl,rfl,by decide⟩]; rfl
  rw [iL,j4 hb,wH (by decide) hz,Dx,JI,W3,h1 L (by omega),h2 L (by omega),z1,AV hhl,h3 L (by omega),z1,AV hhl,z1,
   bT (by rw [lp hhl]; omega),WbR (by rw [lp hhl]; omega),bT ⟨lp hhl,by decide⟩,Hr _ (lp hhl),cH,cH,bT ⟨rfl,lp hhl,by decide⟩,bT ⟨rfl,rfl,by decide⟩]
 by_cases q1:n1>most
 ·exact ⟨zlr,zur,231,.inl ⟨rfl,rfl⟩,by omega,L1+L2+L3,λL hL Y k=>by rw [key L hL,dt q1]⟩
 by_cases q2:n2>2100000000000000
 ·exact ⟨zlr,zur,90,.inl ⟨rfl,rfl⟩,by omega,L1+L2+L3,λL hL Y k=>by rw [key L hL,du q1,dt q2]⟩
 by_cases q3:((cs.map dK).length:Int)>100000
 ·exact ⟨zlr,zur,4,.inl ⟨rfl,rfl⟩,by omega,L1+L2+L3,λL hL Y k=>by rw [key L hL,du q1,du q2,dt q3]⟩
 ·exact ⟨_,_,0,.inr ⟨rfl,by rw [WcO] at q3; omega,rfl⟩,by omega,L1+L2+L3,λL hL Y k=>by rw [key L hL,du q1,du q2,du q3]⟩
theorem zdu{p l:List V}(hp:∀ N W,GL N W tR p)(hl:∀ N W,GL N W tS l)(hb:∀ N W,GL N W tQ b) :
  ∃ (r1 r2:List V) (e:Int),(∀ N W,G N W pI (.agg r1))/\(∀ N W,G N W Pe (.agg r2))/\(0<=e/\e<=999)/\Fin2 λL=>∀ (Y:Type) (k:List V->List V->Int->Option Y),j7 Y L p l b k=k r1 r2 e:=by
 have hpl:p.length=80:=(hp 0 (λ_=>0)).1.symm;have hpd:p.map V.ag=p:=GN (by rfl) (hp 0 (λ_=>0));have hbd:b.map V.ag=b:=GN (by rfl) (hb 0 (λ_=>0));have hbl:b.length=69:=(hb 0 (λ_=>0)).1.symm;obtain ⟨mat,hm⟩:∃ mat,p[79]?=some (QQe mat):=by
  have h79:p[79]?=some p[79]:=List.getElem?_eq_getElem (by omega);obtain ⟨n,e,_⟩:=qJ ((hp 0 (λ_=>0)).2 79 (.iv .i64 0 2) _ rfl h79);exact ⟨n,by rw [h79,e]⟩
 have hA:∀ N W,G N W mN (.agg p):=λN W=>.agg _ _ (hp N W).1 (hp N W).2;obtain ⟨e0,he0,L0,h0⟩:=zbZ hA (λN W=>.agg _ _ (hl N W).1 (hl N W).2) (λN W=>.agg _ _ (hb N W).1 (hb N W).2);obtain ⟨ht0,hh0,cs,rfl,hr0,hl0,hb0,hc,hn⟩:=zbR hl;obtain ⟨hd,tl,rfl,hdl,hhd,ht,hx1,hx4⟩:=WF hb;have hzl:∀ N W,G N W pI (.agg zlr):=λN W=>WY (cs:=[]) (by omega) (by simp) (by intro x hx; rw [Wdb hx]; omega) (by simp) (by simp);have hzu:∀ N W,G N W Pe (.agg zur):=λN W=>zaS (cs:=[]) (by simp) (by simp);by_cases hz:e0=0;rotate_left
 ·refine ⟨zlr,zur,e0,hzl,hzu,he0,L0,λL hL Y k=>?_⟩;simp only [j7,oF,sK];rw [bT (by omega),bT (by rw [lp hl0]; omega),bT (by omega),WbR (by omega),hpd,WbR (by rw [lp hl0]; omega),Xd,WbR (by omega),hbd,h0 L hL,iN,if_neg hz,cH,cH,G3,bT ⟨trivial,rfl,by decide⟩,bT ⟨trivial,rfl,by decide⟩]; rfl
 ·have hr:=Hx .i64 (ht0+1);have hr:-9223372036854775808<=Wbf .i64 (ht0+1)/\Wbf .i64 (ht0+1)<=9223372036854775807:=hr;obtain ⟨hh,hhl,hhb,L1,h1⟩:=zdj (λN W=>.agg _ _ (hhd N W).1 (hhd N W).2);obtain ⟨most,L2,h2⟩:=XG hA hr;have hb4:(hd++[V.sl 4 (tl.map txr)])[68]?=some (V.sl 4 (tl.map txr)):=by
   rw [Wal (by omega),hdl]; rfl
  have key:∀ (L:Nat),L0+L1+L2<=L->∀ (Y:Type) (k:List V->List V->Int->Option Y),j7 Y L p (j5 ht0 hh0 (cs.map dK)) (hd++[V.sl 4 (tl.map txr)]) k =
    ew cj co bW ce cg cw bV ch bP bU L (λp8 b6 b7=>kS cj co bW ce cg cw bV ch bP bU L p8 b6 b7 k) (λp12 b5 b6 b7_0 b10 b11_0=>iL cj co bW ce cg cw bV ch bP bU L p12 b5 b6 b7_0 b10 b11_0 k) L most (tl.map txr) (tl.length:Int) ((0:Nat):Int) p (hd++[V.sl 4 (tl.map txr)]) zb6 [] (j5 (Wbf .i64 (ht0+1)) hh (cs.map dK)) (([]:List CoT).map dK):=by
   intro L hL Y k;simp only [j7,oF,sK];rw [bT (by omega),bT (by rw [lp hl0]; omega),bT (by omega),WbR (by omega),hpd,WbR (by rw [lp hl0]; omega),Xd,WbR (by omega),hbd,h0 L (by omega),iN,if_pos hz,Dx,cH,bT (by omega),List.take_left' hdl,h1 L (by omega),AV hl0,
    bT ⟨by rw [fV,hhl],by omega⟩,bT ⟨trivial,by rw [zgR hhl]; omega⟩,zbL hhl,cH,bT ⟨lp hhl,by omega⟩]
   rw [show ([(QQe (0:Int))]++Wad 32 (QQa (0:Int))++[(V.gs 37 ([]:Ls))])=zb6 from rfl,Hr _ (lp hhl),cH,Dx,h2 L (by omega),j4 hb4,WcO,bT (by omega)];rfl
  rcases Ld hm hpl hpd ht hx4 hr hhl tl.length 0 (by omega) most cs [] hc (by omega) (by simp) (by simp) with ⟨e,g1,L3,g2⟩ | ⟨m2,cs2,us2,g1,g2,g3,g4,L3,g5⟩
  ·refine ⟨zlr,zur,e,hzl,hzu,g1,L0+L1+L2+L3+10,λL hL Y k=>?_⟩;rw [key L (by omega),g2 L (by omega) L (by omega),kS,bT ⟨rfl,rfl,by decide⟩,bT ⟨rfl,rfl,by decide⟩]
  ·obtain ⟨r1,r2,e,q1,q2,L4,q3⟩:=zc3 (us:=us2) ht hx1 hdl hr hhl g1 g2 m2;refine ⟨r1,r2,e,?_,?_,q2,L0+L1+L2+L3+L4+10,λL hL Y k=>?_⟩
   ·rcases q1 with ⟨rfl,rfl⟩ | ⟨rfl,q,rfl⟩
    ·exact hzl
    ·exact λN W=>WY hr hhl hhb g1 q
   ·rcases q1 with ⟨rfl,rfl⟩ | ⟨rfl,q,rfl⟩
    ·exact hzu
    ·exact λN W=>zaS g3 g4
   ·rw [key L (by omega),g5 L (by omega) L (by omega),q3 L (by omega)]
theorem WV:ed (cN rows) 310 Ue:=by
 refine XN (D':=301) (by decide) (λL=>Me L) (λws hw=>?_);obtain ⟨v1,r,rfl,a1,h0⟩:=hY (hw 0 (λ_=>0));obtain ⟨v2,r,rfl,a2,h0⟩:=hY h0;obtain ⟨v3,r,rfl,a3,h0⟩:=hY h0;obtain rfl:=te h0;obtain ⟨p,rfl,_⟩:=Cu a1;obtain ⟨l,rfl,_⟩:=Cu a2;obtain ⟨b,rfl,_⟩:=Cu a3;have hp:∀ N W,GL N W tR p:=λN W=>by obtain ⟨_,e,h⟩:=Cu ((hw N W).2 0 _ _ rfl rfl); cases e; exact h
 have hl:∀ N W,GL N W tS l:=λN W=>by obtain ⟨_,e,h⟩:=Cu ((hw N W).2 1 _ _ rfl rfl); cases e; exact h
 have hb:∀ N W,GL N W tQ b:=λN W=>by obtain ⟨_,e,h⟩:=Cu ((hw N W).2 2 _ _ rfl rfl); cases e; exact h
 obtain ⟨r1,r2,e,q1,q2,q3,L0,q⟩:=zdu hp hl hb;refine ⟨.ah [.agg r1,.agg r2,.sc (.int .i64 e)],λN W=>?_,L0,λL hL=>q L hL (V × Bor) λp0 p1 p2=>some (V.ah [.agg p0,.agg p1,.sc (.int .i64 p2)],[])⟩;have:GL N W [pI,Pe,tM] [.agg r1,.agg r2,.sc (.int .i64 e)]:=.cons (q1 N W) (.cons (q2 N W) (gl1 (.iv .i64 _ _ e q3)));exact .ah _ _ this.1 this.2
end
section
variable {l:List OwT}{v:OwT}
variable {Y:Type}
theorem HA{v:OwT}(hv:v.h.length=32){due:List (List Int)}(hd:∀ b∈due,dG b)(hdn:due.length<=10000000)(x:Int):∀ (m i:Nat) (l:List OwT),(∀ w∈l,OwOk w)->l.length<=1000000->l.length-i=m->∃ l':List OwT,(∀ w∈l',OwOk w)/\l'.length=l.length/\∀ (L n:Nat),20000000<=L->m<n->∀ (Y:Type) (kx:Nat->List V->Option Y),
  eI bM L kx n (dT due) x l.length (i:Int) (gF v) (l.map dC).flatten=kx l'.length (l'.map dC).flatten
 | 0,i,l,hl,hn,hi=>⟨l,hl,rfl,λL n hL hn Y kx=>by
  obtain ⟨n,rfl⟩:∃ k,n=k+1:=⟨n-1,by omega⟩;rw [eI,og,du (by omega)]⟩
 | m+1,i,l,hl,hn,hi=>by
  have h:i<l.length:=by omega
  have hw:=hl _ (WaV h);have hll:∀ w∈l,w.h.length=32:=λw hw=>(hl w hw).hl;have h2:(0:Int)<=(i:Int)/\(i:Int)<((l.length:Nat):Int):=by omega
  have a37:(l.map dC).flatten[(0+(WcL (i:Int))*38)+37]?=some (QQe l[i].sp):=by
   rw [show ((0+(WcL (i:Int))*38)+37)=i*38+(33+4) by simp,zb8 hll h (by omega)]; rfl
  have a34:(l.map dC).flatten[(((0+(WcL (i:Int))*38)+0)+33)+1]?=some (V.sl 1 (eB .u8 l[i].aA)):=by
   rw [show ((((0+(WcL (i:Int))*38)+0)+33)+1)=i*38+(33+1) by simp,zb8 hll h (by omega)]; rfl
  have a33:WcK 33 (WcM (((0+((WcL (i:Int))*38))+0)+0) (l.map dC).flatten)=gF l[i]:=by
   rw [show (((0+((WcL (i:Int))*38))+0)+0)=i*38 by simp,zbV (D0 hll) (by omega) (fm h),pX hw.hl]
  obtain ⟨l1,g1,g2,g3⟩:=HA hv hd hdn x m (i+1) l hl hn (by omega);obtain ⟨l2,k1,k2,k3⟩:=HA hv hd hdn x m (i+1) (l.set i (spd l[i] x)) (zcK hl h x) (by simpa using hn) (by simp; omega);have step:∀ (L n:Nat),20000000<=L->∀ (Y:Type) (kx:Nat->List V->Option Y),eI bM L kx (n+1) (dT due) x l.length (i:Int) (gF v) (l.map dC).flatten =
    ifb (EP l[i] v) (ifb (l[i].sp==0) (ifb (((due.length:Nat):Int)==0) (eI bM L kx n (dT due) x l.length ((i+1:Nat):Int) (gF v) ((l.set i (spd l[i] x)).map dC).flatten) (ifb (jN due l[i].aA) (eI bM L kx n (dT due) x l.length ((i+1:Nat):Int) (gF v) ((l.set i (spd l[i] x)).map dC).flatten) (eI bM L kx n (dT due) x l.length ((i+1:Nat):Int) (gF v) (l.map dC).flatten))) (eI bM L kx n (dT due) x l.length ((i+1:Nat):Int) (gF v) (l.map dC).flatten)) (eI bM L kx n (dT due) x l.length ((i+1:Nat):Int) (gF v) (l.map dC).flatten):=by
   intro L n hL Y kx;rw [eI,og,dt h2.2,bT h2,bT (by rw [WB hll]; simp; omega),bT (by rw [i5 hv]; omega),a33,WbR (by rw [i5 hv]; omega),NP hw.hl hv,bT h2,eQ a37,wY,bT h2,bT ⟨rfl,by rw [WB hll]; simp; omega⟩,zfR hll h,j4 a34,VE hL hdn hd hw.s];simp only [cH,up (show i<=1000000000 by omega)];rw [bT h2]
  have no:(∀ (L n:Nat),20000000<=L->∀ (Y:Type) (kx:Nat->List V->Option Y),eI bM L kx (n+1) (dT due) x l.length (i:Int) (gF v) (l.map dC).flatten=eI bM L kx n (dT due) x l.length ((i+1:Nat):Int) (gF v) (l.map dC).flatten)->∃ l':List OwT,(∀ w∈l',OwOk w)/\l'.length=l.length/\∀ (L n:Nat),20000000<=L->m+1<n->∀ (Y:Type) (kx:Nat->List V->Option Y),eI bM L kx n (dT due) x l.length (i:Int) (gF v) (l.map dC).flatten=kx l'.length (l'.map dC).flatten:=by
   intro q;refine ⟨l1,g1,g2,λL n hL hn Y kx=>?_⟩;obtain ⟨n,rfl⟩:∃ k,n=k+1:=⟨n-1,by omega⟩;rw [q L n hL,g3 L n hL (by omega)]
  have yes:(∀ (L n:Nat),20000000<=L->∀ (Y:Type) (kx:Nat->List V->Option Y),eI bM L kx (n+1) (dT due) x l.length (i:Int) (gF v) (l.map dC).flatten=eI bM L kx n (dT due) x l.length ((i+1:Nat):Int) (gF v) ((l.set i (spd l[i] x)).map dC).flatten)->∃ l':List OwT,(∀ w∈l',OwOk w)/\l'.length=l.length/\∀ (L n:Nat),20000000<=L->m+1<n->∀ (Y:Type) (kx:Nat->List V->Option Y),eI bM L kx n (dT due) x l.length (i:Int) (gF v) (l.map dC).flatten=kx l'.length (l'.map dC).flatten:=by
   intro q;refine ⟨l2,k1,by simpa using k2,λL n hL hn Y kx=>?_⟩;obtain ⟨n,rfl⟩:∃ k,n=k+1:=⟨n-1,by omega⟩;have:=k3 L n hL (by omega) Y kx;rw [Wdc] at this;rw [q L n hL,this]
  cases hs:EP l[i] v with
  | false=>exact no λL n hL Y kx=>by rw [step L n hL,hs]; rfl
  | true=>
   by_cases c1:l[i].sp=0
   ·by_cases c2:((due.length:Nat):Int)=0
    ·exact yes λL n hL Y kx=>by rw [step L n hL,hs,gV,fd c1,fd c2]
    ·cases hh:jN due l[i].aA with
     | true=>exact yes λL n hL Y kx=>by rw [step L n hL,hs,gV,fd c1,eA c2,hh]; rfl
     | false=>exact no λL n hL Y kx=>by rw [step L n hL,hs,gV,fd c1,eA c2,hh]; rfl
   ·exact no λL n hL Y kx=>by rw [step L n hL,hs,gV,eA c1]
theorem zcA(hl:∀ w∈l,OwOk w)(hn:l.length<=1000000)(hv:v.h.length=32){due:List (List Int)}(hd:∀ b∈due,dG b)(hdn:due.length<=10000000)(x:Int):∃ l':List OwT,(∀ w∈l',OwOk w)/\l'.length=l.length/\∀ (L:Nat),20000000<=L->∀ (Y:Type) (k:Ls->Option Y),
  bS Y L (l.map dC) (gF v) (dT due) x k=k (l'.map dC):=by
 obtain ⟨l',g1,g2,g3⟩:=HA hv hd hdn x _ 0 l hl hn rfl;refine ⟨l',g1,g2,λL hL Y k=>?_⟩;have hll:∀ w∈l',w.h.length=32:=λw hw=>(g1 w hw).hl;simp only [bS,vU,BO,WcO];rw [bT (by simp only [cy]; omega)];refine (g3 L L hL (by omega) Y _).trans ?_;rw [qH,bT (by rw [WB hll]; by_cases h:l'.length=0 <;> simp [h]),Tb hll]
theorem TA{l:List OwT}(hl:∀ w∈l,OwOk w)(hn:l.length<=1000000){v:OwT}(hv:v.h.length=32):∀ (m i:Nat),l.length-i=m->i<=l.length->∃ j:Nat,j<=l.length/\∀ (L n:Nat),40<=L->m<n->∀ (Y:Type) (kx:Ls->Int->List V->Option Y),
  j8 bQ L kx n (l.map dC) (i:Int) (dC v)=kx (l.map dC) (j:Int) (dC v)
 | 0,i,hi,hil=>⟨i,hil,λL n hL hn Y kx=>by
  obtain ⟨n,rfl⟩:∃ k,n=k+1:=⟨n-1,by omega⟩;rw [j8,sF,WcO,du (by omega)]⟩
 | m+1,i,hi,hil=>by
  have h:i<l.length:=by omega
  have hw:=hl _ (WaV h);obtain ⟨b,hb⟩:=zat hw.hl hv;have step:∀ (L n:Nat),40<=L->∀ (Y:Type) (kx:Ls->Int->List V->Option Y),j8 bQ L kx (n+1) (l.map dC) (i:Int) (dC v)=ifb b (j8 bQ L kx n (l.map dC) ((i+1:Nat):Int) (dC v)) (kx (l.map dC) (i:Int) (dC v)):=by
   intro L n hL Y kx;rw [j8,sF,WcO,dt (by omega),fe (fm h),bT (by rw [fM hv]; omega),kJ hw.hl,kJ hv,z9,z9,hb L hL,cH,up (by omega)]
  cases b with
  | false=>
   refine ⟨i,hil,λL n hL hn Y kx=>?_⟩;obtain ⟨n,rfl⟩:∃ k,n=k+1:=⟨n-1,by omega⟩;rw [step L n hL]; rfl
  | true=>
   obtain ⟨j,q1,q2⟩:=TA hl hn hv m (i+1) (by omega) (by omega);refine ⟨j,q1,λL n hL hn Y kx=>?_⟩;obtain ⟨n,rfl⟩:∃ k,n=k+1:=⟨n-1,by omega⟩;rw [step L n hL,gV,q2 L n hL (by omega)]
theorem TY{l:List OwT}(hl:∀ w∈l,OwOk w)(hn:l.length<=1000000){v:OwT}(hv:v.h.length=32)(p:Int):∀ (m i:Nat),l.length-i=m->∃ b:Bool,∀ (L n:Nat),m<n->∀ (Y:Type) (kr:Ls->Int->Option Y) (kx:Ls->Int->List V->Option Y),
  lD bQ L kr kx n (l.map dC) p (i:Int) (dC v)=ifb b (kr [] 91) (kx (l.map dC) p (dC v))
 | 0,i,hi=>⟨false,λL n hn Y kr kx=>by
  obtain ⟨n,rfl⟩:∃ k,n=k+1:=⟨n-1,by omega⟩;rw [lD,pf,WcO,du (by omega)]; rfl⟩
 | m+1,i,hi=>by
  have h:i<l.length:=by omega
  have hw:=hl _ (WaV h);have h37:(WcM 37 (dC l[i]))[0]?=some (QQe l[i].sp):=by rw [List.getElem?_drop]; exact kl hw.hl 4
  obtain ⟨b,hb⟩:=TY hl hn hv p m (i+1) (by omega);refine ⟨cond (EP l[i] v) (cond (l[i].sp==0) true b) b,λL n hn Y kr kx=>?_⟩;obtain ⟨n,rfl⟩:∃ k,n=k+1:=⟨n-1,by omega⟩;have:=hb L n (by omega) Y kr kx;rw [lD,pf,WcO,dt (by omega),fe (fm h),bT (by rw [fM hv]; omega),pX hw.hl,pX hv,NP hw.hl hv,fe (fm h),eQ h37,cH,up (by omega),this];cases EP l[i] v <;> cases (l[i].sp==0) <;> rfl
theorem zfG(hl:∀ w∈l,OwOk w)(hn:l.length<=100000)(hv:OwOk v):∃ (l':List OwT) (e:Int),(∀ w∈l',OwOk w)/\l'.length<=l.length+1/\∀ (L:Nat),2000000<=L->∀ (Y:Type) (k:Ls->Int->Option Y),
  bY Y L (l.map dC) (dC v) k=k (l'.map dC) e:=by
 obtain ⟨j,h1,h2⟩:=TA hl (by omega) hv.hl _ 0 rfl (by omega);obtain ⟨b,h3⟩:=TY hl (by omega) hv.hl (j:Int) _ 0 rfl;have e:∀ (L:Nat),2000000<=L->∀ (Y:Type) (k:Ls->Int->Option Y),bY Y L (l.map dC) (dC v) k=ifb b (k [] 91) (k ((l.take j++v::l.drop j).map dC) 0):=by
  intro L hL Y k;simp only [bY,Ay,Ft];refine (h2 L L (by omega) (by omega) Y _).trans ?_;simp only [oo,uU];refine (h3 L L (by omega) Y _ _).trans ?_;have hj:0<=(j:Int)/\(j:Int)<=(((List.map dC l).length:Nat):Int):=by simp; omega
  have e2:WcK (WcJ (l.map dC)-j) (WcM j (l.map dC))=WcM j (l.map dC):=WbR (by simp);simp only [qw,rK,Int.toNat_natCast,Nat.sub_zero,WcP,WcQ,cH];rw [bT hj,bT (by simp [cy]; omega),bT (by rw [fM hv.hl]; omega),kJ hv.hl,bT ⟨fM hv.hl,by omega⟩,VT hv.hl,Y2 hv.hl,bT (by simp [cy]; omega),e2,bT (by simp [cy]; omega),bT (by simp [cy]; omega),show ((l.take j++v::l.drop j).map dC)=WcK j (l.map dC)++[dC v]++WcM j (l.map dC) by simp [List.map_take,List.map_drop]]
 cases b with
 | true=>exact ⟨[],91,by simp,by simp,λL hL Y k=>(e L hL Y k).trans rfl⟩
 | false=>
  refine ⟨l.take j++v::l.drop j,0,λw hw=>?_,by simp; omega,λL hL Y k=>(e L hL Y k).trans rfl⟩;rcases Wbt.1 hw with h | h
  ·exact hl w (WaI h)
  ·rcases WbL.1 h with rfl | h
   ·exact hv
   ·exact hl w (WaP h)
end
section
variable {v:V}{t:TxS}{h:List Int}
variable {Y:Type}
def BI(o:Int × List Int):List V:=[V.sc (.int .i64 o.1),V.sl 1 (eB .u8 o.2)]
theorem zgK{a:A}(ha:a=.int .u8 ⟨1,[]⟩∨a=.int .u8 ⟨5,[]⟩∨a=.iv .u8 1 6)(h:G 0 (λ_=>0) a v):∃ n:Int,v=.sc (.int .u8 n)/\0<=n/\n<=255:=by
 rcases ha with rfl | rfl | rfl
 ·generalize hc:A.int .u8 ⟨1,[]⟩=c at h;cases h <;> first | (cases hc; done) | skip
  cases hc;exact ⟨_,rfl,by decide,by decide⟩
 ·generalize hc:A.int .u8 ⟨5,[]⟩=c at h;cases h <;> first | (cases hc; done) | skip
  cases hc;exact ⟨_,rfl,by decide,by decide⟩
 ·obtain ⟨n,rfl,h1,h2⟩:=qJ h;exact ⟨n,rfl,by omega,by omega⟩
theorem zbE(h:G 0 (λ_=>0) GQ v):∃ l:List Int,v=.sl 1 (eB .u8 l)/\dG l/\l.length=4:=by
 have key:∃ es:Ls,v=.sl 1 es/\es.length=4/\∀ (j:Nat) (row:List A) (r:List V),([[A.int .u8 ⟨1,[]⟩],[.int .u8 ⟨1,[]⟩],[.iv .u8 1 6],[.int .u8 ⟨5,[]⟩]]:List (List A))[j]?=some row->es[j]?=some r->GL 0 (λ_=>0) row r:=by
  generalize hc:GQ=c at h;unfold GQ at hc;cases h <;> first | (cases hc; done) | skip
  rename_i es hl hr hh;cases hc;exact ⟨es,rfl,hl.symm,λj row r a b=>⟨hr j row r a b,hh j row r a b⟩⟩
 obtain ⟨es,rfl,hl,hk⟩:=key
 match es,hl with
 | [r0,r1,r2,r3],_=>
  have one:∀ {a:A} {r:List V},(a=.int .u8 ⟨1,[]⟩∨a=.int .u8 ⟨5,[]⟩∨a=.iv .u8 1 6)->GL 0 (λ_=>0) [a] r->∃ n:Int,r=[.sc (.int .u8 n)]/\0<=n/\n<=255:=by
   intro a r ha h;obtain ⟨v,r,rfl,g,h2⟩:=hY h;obtain rfl:=te h2;obtain ⟨n,rfl,hn⟩:=zgK ha g;exact ⟨n,rfl,hn⟩
  obtain ⟨n0,rfl,h0⟩:=one (.inl rfl) (hk 0 _ _ rfl rfl);obtain ⟨n1,rfl,h1⟩:=one (.inl rfl) (hk 1 _ _ rfl rfl);obtain ⟨n2,rfl,h2⟩:=one (.inr (.inr rfl)) (hk 2 _ _ rfl rfl);obtain ⟨n3,rfl,h3⟩:=one (.inr (.inl rfl)) (hk 3 _ _ rfl rfl);refine ⟨[n0,n1,n2,n3],rfl,λx hx=>?_,rfl⟩;simp only [WbL,List.not_mem_nil,or_false] at hx;rcases hx with rfl | rfl | rfl | rfl <;> assumption
structure OsOk (os:List (Int × List Int)):Prop where
 n:os.length<=2
 b:∀ o∈os,dG o.2
 l:∀ o∈os,o.2.length=4
theorem zfj(ht:TxSOk t):∃ os:List (Int × List Int),t.outs=os.map BI/\OsOk os:=by
 have g:=(ht.g 0 (λ_=>0)).2 2 (.ai 0 2 1 2 S7) (.sl 2 t.outs) rfl rfl;obtain ⟨es,e,e1,e2,e3⟩:=PG g;have:t.outs=es:=by simpa [mkL] using e
 subst this;have key:∀ (es:Ls),(∀ r∈es,GL 0 (λ_=>0) S7 r)->∃ os:List (Int × List Int),es=os.map BI/\(∀ o∈os,dG o.2)/\∀ o∈os,o.2.length=4:=by
  intro es
  induction es with
  | nil=>exact λ_=>⟨[],rfl,by simp,by simp⟩
  | cons r es ih=>
   intro h;obtain ⟨os,rfl,h1,h2⟩:=ih λr hr=>h r (WcB _ hr);obtain ⟨v,s,rfl,q1,q2⟩:=hY (h r (Wcy ..));obtain ⟨u,s,rfl,q3,q4⟩:=hY q2;obtain rfl:=te q4;obtain ⟨n,rfl,_⟩:=qJ q1;obtain ⟨l,rfl,hb,hl⟩:=zbE q3;refine ⟨(n,l)::os,rfl,λo ho=>?_,λo ho=>?_⟩
   ·rcases WbL.1 ho with rfl | ho
    ·exact hb
    ·exact h1 o ho
   ·rcases WbL.1 ho with rfl | ho
    ·exact hl
    ·exact h2 o ho
 obtain ⟨os,e,h1,h2⟩:=key t.outs e3;exact ⟨os,e,by have:=congrArg WcJ e; rw [WcO] at this; omega,h1,h2⟩
theorem zgc(ht:TxSOk t):∃ l:List Int,l.length=32/\dG l/\Fin2 λL=>∀ (Y:Type) k,ci Y L (txr t) k=k (row .u8 l):=by
 obtain ⟨v,g,L0,h⟩:=vD (cJ (D':=300) (by decide) Lz) (ws:=[.agg (txr t)]) (λN W=>gl1 (Zd ht N W));obtain ⟨l,rfl,hl,hb⟩:=Yv g;exact ⟨l,hl,hb,L0,λL hL Y k=>(h L hL Y _).trans (Z5 _ _)⟩
theorem Xx{b:List V}(hb:∀ N W,GL N W tQ b):∃ e,(0<=e/\e<=999)/\Fin2 λL=>∀ (Y:Type) k,f9 Y L b k=k e:=by
 obtain ⟨v,g,L0,h⟩:=vD (cJ (D':=300) (by decide) P3) (ws:=[.agg b]) (λN W=>gl1 (.agg _ _ (hb N W).1 (hb N W).2));obtain ⟨e,rfl,he⟩:=qJ (g 0 (λ_=>0));exact ⟨e,he,L0,λL hL Y k=>(h L hL Y _).trans (EM _ _ _)⟩
def W2(h:List Int)(ix:Int)(o:Int × List Int)(x:Int)(cb:Bool):List V:=row .u8 h++[V.sc (.int .u32 ix),V.sc (.int .i64 o.1),V.sl 1 (eB .u8 o.2),V.sc (.int .i64 x),V.sc (.bool cb)]
theorem zhP(hl:h.length=32)(ix:Int):cD (cD (Wad 32 (QQa (0:Int))++[(QQc (0:Int))]) 0 (row .u8 h)) 32 [(QQc ix)]=row .u8 h++[V.sc (.int .u32 ix)]:=by
 match h,hl with
 | [x0,x1,x2,x3,x4,x5,x6,x7,x8,x9,x10,x11,x12,x13,x14,x15,x16,x17,x18,x19,x20,x21,x22,x23,x24,x25,x26,x27,x28,x29,x30,x31],_=>rfl
def z37:List V:=(Wad 32 (QQa (0:Int))++[(QQc (0:Int)),(QQe (0:Int)),(V.sl 1 ([]:Ls)),(QQe (0:Int)),(V.sc (.bool false))])
theorem zhy(hl:h.length=32)(ix:Int)(o:Int × List Int)(x:Int)(cb:Bool):cD (cD (cD (cD z37 0 (row .u8 h++[V.sc (.int .u32 ix)])) 33 (BI o)) 35 [(QQe x)]) 36 [(V.sc (.bool cb))]=W2 h ix o x cb:=by
 match h,hl with
 | [x0,x1,x2,x3,x4,x5,x6,x7,x8,x9,x10,x11,x12,x13,x14,x15,x16,x17,x18,x19,x20,x21,x22,x23,x24,x25,x26,x27,x28,x29,x30,x31],_=>rfl
theorem Q6(hl:h.length=32)(ix:Int)(o:Int × List Int)(x:Int)(cb:Bool):(W2 h ix o x cb).length=37:=by simp [W2,fV,hl]
theorem zhw(hl:h.length=32)(ix:Int)(o:Int × List Int)(x:Int)(cb:Bool):cD (Wad 32 (QQa (0:Int))++[(QQc (0:Int)),(QQe (0:Int)),(V.sl 1 ([]:Ls)),(QQe (0:Int)),(V.sc (.bool false)),(QQe (0:Int))]) 0 (W2 h ix o x cb)=dC ⟨h,ix,o.1,o.2,x,cb,0⟩:=by
 match h,hl with
 | [x0,x1,x2,x3,x4,x5,x6,x7,x8,x9,x10,x11,x12,x13,x14,x15,x16,x17,x18,x19,x20,x21,x22,x23,x24,x25,x26,x27,x28,x29,x30,x31],_=>rfl
end
section
variable {Y:Type}
section
variable {due scs:List (List Int)} {x:Int}
theorem JB(hs:∀ b∈scs,dG b)(hsn:scs.length<=10000000){t:TxS}(ht:TxSOk t){os:List (Int × List Int)}(ho:t.outs=os.map BI)(hos:OsOk os)(b8:List V)(c:Int):∀ (m i:Nat),i+m=os.length->∀ (l:List OwT),(∀ w∈l,OwOk w)->l.length+m<=90000 ->
  (∃ (l':List OwT) (e:Int),(∀ w∈l',OwOk w)/\l'.length=0/\Fin2 λL=>∀ (n:Nat),m<n->∀ (Y:Type) (kr:Ls->Int->Option Y) (kx:pA Y),
   fj bS bM ci bY L kr kx n (l.map dC) (dT due) (dT scs) x c (i:Int) b8 (txr t)=kr (l'.map dC) e) ∨
  (∃ l':List OwT,(∀ w∈l',OwOk w)/\l'.length<=l.length+m/\Fin2 λL=>∀ (n:Nat),m<n->∀ (Y:Type) (kr:Ls->Int->Option Y) (kx:pA Y),
   fj bS bM ci bY L kr kx n (l.map dC) (dT due) (dT scs) x c (i:Int) b8 (txr t)=kx (l'.map dC) (dT due) (dT scs) x c b8)
 | 0,i,hi,l,hl,hn=>by
  refine .inr ⟨l,hl,by omega,0,λL _ n hn Y kr kx=>?_⟩;obtain ⟨n,rfl⟩:∃ k,n=k+1:=⟨n-1,by omega⟩;have h2:∀ (k:Ls->Option Y),cLd 2 (txr t) 2 k=k t.outs:=λk=>j4 rfl k;rw [fj,lf,h2,ho,WcO,du (by omega)]
 | m+1,i,hi,l,hl,hn=>by
  have hio:i<os.length:=by omega
  have hb:=hos.b _ (WaV hio);have hl4:=hos.l _ (WaV hio);obtain ⟨h,hh,hhb,L1,h1⟩:=zgc ht;have hn2:=hos.n;have hoi:t.outs[i]?=some (BI os[i]):=by rw [ho]; simp [hio]
  have hix:=Hx .u32 (i:Int);have hix:0<=Wbf .u32 (i:Int)/\Wbf .u32 (i:Int)<=4294967295:=hix;have hw:OwOk ⟨h,Wbf .u32 (i:Int),os[i].1,os[i].2,x,c==0,0⟩:=⟨hh,hhb,hix,hb,by show os[i].2.length<=1000; omega⟩;obtain ⟨l1,e1,g1,g2,g3⟩:=zfG hl (by omega) hw;have step:∀ (L:Nat),20000000+L1<=L->∀ (n:Nat) (Y:Type) (kr:Ls->Int->Option Y) (kx:pA Y),fj bS bM ci bY L kr kx (n+1) (l.map dC) (dT due) (dT scs) x c (i:Int) b8 (txr t) =
    ifb (!jN scs os[i].2) (fj bS bM ci bY L kr kx n (l.map dC) (dT due) (dT scs) x c ((i+1:Nat):Int) b8 (txr t)) (if e1=0 then fj bS bM ci bY L kr kx n (l1.map dC) (dT due) (dT scs) x c ((i+1:Nat):Int) b8 (txr t) else kr [] e1):=by
   intro L hL n Y kr kx;have h2:∀ (k:Ls->Option Y),cLd 2 (txr t) 2 k=k t.outs:=λk=>j4 rfl k;have h3:∀ (k:Ls->Option Y),cL 1 (WcM 1 (BI os[i])) 0 k=k (eB .u8 os[i].2):=λk=>rC rfl k;have hp:((row .u8 h++[V.sc (.int .u32 (Wbf .u32 (i:Int)))]):List V).length=33:=by simp [fV,hh]
   have hr:WcK 2 (BI os[i])=BI os[i]:=rfl;have hz:z37.length=37:=rfl;have q1:(cD z37 0 (row .u8 h++[V.sc (.int .u32 (Wbf .u32 (i:Int)))])).length=37:=by rw [ET (by rw [hp,hz]; omega),hz]
   have q2:(cD (cD z37 0 (row .u8 h++[V.sc (.int .u32 (Wbf .u32 (i:Int)))])) 33 (BI os[i])).length=37:=by rw [ET (by rw [q1]; show 33+2<=37; omega),q1]
   have q3:(cD (cD (cD z37 0 (row .u8 h++[V.sc (.int .u32 (Wbf .u32 (i:Int)))])) 33 (BI os[i])) 35 [(QQe x)]).length=37:=by rw [ET (by rw [q2]; show 35+1<=37; omega),q2]
   rw [fj,lf,h2,ho,WcO,dt (by omega),h2,ho,fe (c:=BI os[i]) (by simp [hio]),h3,VE (by omega) hsn hs hb];refine congr (congrArg _ ?_) ?_
   ·rw [cH,up (by omega)]
   ·rw [bT (by rw [PD]; omega),JI,W3,h1 L (by omega),cH,bT ⟨by rw [fV,hh],by omega⟩,bT ⟨rfl,by rw [ET (by rw [fV,hh]; decide)]; decide⟩,zhP hh,cH,h2,ho,fe (c:=BI os[i]) (by simp [hio]),hr,bT ⟨hp,by omega⟩,
     show (Wad 32 (QQa (0:Int))++[(QQc (0:Int)),(QQe (0:Int)),(V.sl 1 ([]:Ls)),(QQe (0:Int)),(V.sc (.bool false))])=z37 from rfl,
     bT ⟨rfl,by rw [q1]; omega⟩,bT ⟨rfl,by rw [q2]; omega⟩,bT ⟨rfl,by rw [q3]; omega⟩,zhy hh,cH,bT ⟨Q6 hh _ _ _ _,by omega⟩,ke (new:=W2 h (Wbf .u32 (i:Int)) os[i] x (c==0)) (by rw [Q6 hh]; rfl),cH,bT (by rw [Q6 hh]; omega),WbR (by rw [Q6 hh]; omega),bT ⟨Q6 hh _ _ _ _,by omega⟩,zhw hh,cH,z9,g3 L (by omega),iN,cH,up (by omega)]
  cases hq:jN scs os[i].2 with
  | false=>
   rcases JB hs hsn ht ho hos b8 c m (i+1) (by omega) l hl (by omega) with ⟨l2,e2,k1,k2,L2,k3⟩ | ⟨l2,k1,k2,L2,k3⟩
   ·refine .inl ⟨l2,e2,k1,k2,20000000+L1+L2,λL hL n hn Y kr kx=>?_⟩;obtain ⟨n,rfl⟩:∃ k,n=k+1:=⟨n-1,by omega⟩;rw [step L (by omega),hq,Bool.not_false,gV,k3 L (by omega) n (by omega)]
   ·refine .inr ⟨l2,k1,by omega,20000000+L1+L2,λL hL n hn Y kr kx=>?_⟩;obtain ⟨n,rfl⟩:∃ k,n=k+1:=⟨n-1,by omega⟩;rw [step L (by omega),hq,Bool.not_false,gV,k3 L (by omega) n (by omega)]
  | true=>
   by_cases he:e1=0
   ·rcases JB hs hsn ht ho hos b8 c m (i+1) (by omega) l1 g1 (by omega) with ⟨l2,e2,k1,k2,L2,k3⟩ | ⟨l2,k1,k2,L2,k3⟩
    ·refine .inl ⟨l2,e2,k1,k2,20000000+L1+L2,λL hL n hn Y kr kx=>?_⟩;obtain ⟨n,rfl⟩:∃ k,n=k+1:=⟨n-1,by omega⟩;rw [step L (by omega),hq,WcR,eC,if_pos he,k3 L (by omega) n (by omega)]
    ·refine .inr ⟨l2,k1,by omega,20000000+L1+L2,λL hL n hn Y kr kx=>?_⟩;obtain ⟨n,rfl⟩:∃ k,n=k+1:=⟨n-1,by omega⟩;rw [step L (by omega),hq,WcR,eC,if_pos he,k3 L (by omega) n (by omega)]
   ·refine .inl ⟨[],e1,by simp,rfl,20000000+L1,λL hL n hn Y kr kx=>?_⟩;obtain ⟨n,rfl⟩:∃ k,n=k+1:=⟨n-1,by omega⟩;rw [step L (by omega),hq,WcR,eC,if_neg he]; rfl
theorem zcg(hd:∀ b∈due,dG b)(hdn:due.length<=10000000){t:TxS}(ht:TxSOk t)(b8:List V)(sc:Ls)(i:Nat){l:List OwT}(hl:∀ w∈l,OwOk w)(hn:l.length<=1000000):∃ l':List OwT,(∀ w∈l',OwOk w)/\l'.length=l.length/\∀ (L:Nat),20000000<=L->∀ (Y:Type) (kx:An Y),
  gP bS bM ci bY L kx L (l.map dC) (dT due) sc x (i:Int) 0 b8 (txr t)=kx (l'.map dC) (dT due) sc x (i:Int) b8 (txr t):=by
 have h1:∀ {Y:Type} (k:Ls->Option Y),cLd 35 (txr t) 1 k=k [ipt t++t.r]:=λk=>zhc t k;have hone:((([ipt t++t.r]:Ls).length:Nat):Int)=1:=rfl;by_cases h0:i=0
 ·subst h0;refine ⟨l,hl,rfl,λL hL Y kx=>?_⟩;obtain ⟨n,rfl⟩:∃ k,L=k+1:=⟨L-1,by omega⟩;rw [gP,jK,h1,hone,dt (by omega),du (by omega)]
 ·let v:OwT:=⟨t.h,t.ix,0,[],0,false,0⟩
  obtain ⟨l',g1,g2,g3⟩:=zcA hl hn (v:=v) ht.hl hd hdn x;refine ⟨l',g1,g2,λL hL Y kx=>?_⟩;obtain ⟨n,rfl⟩:∃ k,L=k+2:=⟨L-2,by omega⟩;have g:=λ(k:Ls->Option Y)=>g3 (n+2) hL Y k;have hv:WcK 33 (ipt t++t.r)=gF v:=zb1 ht;rw [gP,jK,h1,hone,dt (by omega),dt (by omega),h1,wH (by decide) (c:=ipt t++t.r) rfl,hv,g,cH,gP,jK,h1,hone,du (by decide)]
end
end
section
variable {s:ScT}
variable {Y:Type}
theorem zgf(t:TxS):cD [(QQc (0:Int)),(V.gs 35 ([]:Ls)),(V.gs 2 ([]:Ls)),(QQc (0:Int))] 0 (WcK 4 (txr t))=txr t:=rfl
section
variable {due scs:List (List Int)} {x:Int}
theorem TR(hd:∀ b∈due,dG b)(hdn:due.length<=10000000)(hs:∀ b∈scs,dG b)(hsn:scs.length<=10000000){hdr:List V}(hh:hdr.length=68){tl:List TxS}(ht:∀ t∈tl,TxSOk t)(ht4:tl.length<=4):∀ (m i:Nat),i+m=tl.length->∀ (l:List OwT),(∀ w∈l,OwOk w)->l.length<=5000+2*i ->
  (∃ (l':List OwT) (e:Int),(∀ w∈l',OwOk w)/\l'.length=0/\Fin2 λL=>∀ (n:Nat),m<n->∀ (Y:Type) (kx:Ls->Option Y) (kr:Ls->Int->Option Y),
   hH bS bM ci bY L kx kr n (l.map dC) (dT due) (dT scs) x (i:Int) (hdr++[V.sl 4 (tl.map txr)])=kr (l'.map dC) e) ∨
  (∃ l':List OwT,(∀ w∈l',OwOk w)/\l'.length<=5008/\Fin2 λL=>∀ (n:Nat),m<n->∀ (Y:Type) (kx:Ls->Option Y) (kr:Ls->Int->Option Y),
   hH bS bM ci bY L kx kr n (l.map dC) (dT due) (dT scs) x (i:Int) (hdr++[V.sl 4 (tl.map txr)])=kx (l'.map dC))
 | 0,i,hi,l,hl,hn=>by
  have hb:(hdr++[V.sl 4 (tl.map txr)])[68]?=some (V.sl 4 (tl.map txr)):=by
   rw [Wal (by omega),hh]; rfl
  refine .inr ⟨l,hl,by omega,0,λL _ n hn Y kx kr=>?_⟩;obtain ⟨n,rfl⟩:∃ k,n=k+1:=⟨n-1,by omega⟩;rw [hH,mU,qO,j4 hb,WcO,du (by omega)]
 | m+1,i,hi,l,hl,hn=>by
  have hb:(hdr++[V.sl 4 (tl.map txr)])[68]?=some (V.sl 4 (tl.map txr)):=by
   rw [Wal (by omega),hh]; rfl
  have hit:i<tl.length:=by omega
  have hti:=ht _ (WaV hit);obtain ⟨os,ho,hos⟩:=zfj hti;have hos2:=hos.n;obtain ⟨l1,g1,g2,g3⟩:=zcg (x:=x) hd hdn hti (hdr++[V.sl 4 (tl.map txr)]) (dT scs) i hl (by omega);have step:∀ (L:Nat),20000000<=L->∀ (n:Nat) (Y:Type) (kx:Ls->Option Y) (kr:Ls->Int->Option Y),hH bS bM ci bY L kx kr (n+1) (l.map dC) (dT due) (dT scs) x (i:Int) (hdr++[V.sl 4 (tl.map txr)]) =
    fj bS bM ci bY L (λp10 p11=>mC bS bM ci bY L p10 p11 kr) (λp0 p1 p2 p4 p12 b8=>kv bS bM ci bY L p0 p1 p2 p4 p12 b8 (λp0 p1 p2 p4 p12 b8=>hH bS bM ci bY L kx kr n p0 p1 p2 p4 p12 b8)) L (l1.map dC) (dT due) (dT scs) x (i:Int) ((0:Nat):Int) (hdr++[V.sl 4 (tl.map txr)]) (txr tl[i]):=by
   intro L hL n Y kx kr;rw [hH,mU,qO,j4 hb,WcO,dt (by omega),j4 hb,fe (fm hit),bT ⟨rfl,by omega⟩,zgf,cH];refine (g3 L hL Y _).trans ?_;rfl
  rcases JB (x:=x) (due:=due) hs hsn hti ho hos (hdr++[V.sl 4 (tl.map txr)]) (i:Int) os.length 0 (by omega) l1 g1 (by omega) with ⟨l2,e2,k1,k2,L2,k3⟩ | ⟨l2,k1,k2,L2,k3⟩
  ·refine .inl ⟨l2,e2,k1,k2,20000000+L2,λL hL n hn Y kx kr=>?_⟩;obtain ⟨n,rfl⟩:∃ k,n=k+1:=⟨n-1,by omega⟩;rw [step L (by omega),k3 L (by omega) L (by omega)]; rfl
  ·have next:∀ (L:Nat),20000000+L2<=L->∀ (n:Nat) (Y:Type) (kx:Ls->Option Y) (kr:Ls->Int->Option Y),hH bS bM ci bY L kx kr (n+1) (l.map dC) (dT due) (dT scs) x (i:Int) (hdr++[V.sl 4 (tl.map txr)]) =
     hH bS bM ci bY L kx kr n (l2.map dC) (dT due) (dT scs) x ((i+1:Nat):Int) (hdr++[V.sl 4 (tl.map txr)]):=by
    intro L hL n Y kx kr;rw [step L (by omega),k3 L (by omega) L (by omega),kv,cH,up (by omega)]
   rcases TR hd hdn hs hsn hh ht ht4 m (i+1) (by omega) l2 k1 (by omega) with ⟨l3,e3,q1,q2,L3,q3⟩ | ⟨l3,q1,q2,L3,q3⟩
   ·refine .inl ⟨l3,e3,q1,q2,20000000+L2+L3,λL hL n hn Y kx kr=>?_⟩;obtain ⟨n,rfl⟩:∃ k,n=k+1:=⟨n-1,by omega⟩;rw [next L (by omega),q3 L (by omega) n (by omega)]
   ·refine .inr ⟨l3,q1,q2,20000000+L2+L3,λL hL n hn Y kx kr=>?_⟩;obtain ⟨n,rfl⟩:∃ k,n=k+1:=⟨n-1,by omega⟩;rw [next L (by omega),q3 L (by omega) n (by omega)]
theorem zeg(hd:∀ b∈due,dG b)(hdn:due.length<=10000000)(hs:∀ b∈scs,dG b)(hsn:scs.length<=10000000){hdr:List V}(hh:hdr.length=68){tl:List TxS}(ht:∀ t∈tl,TxSOk t)(ht4:tl.length<=4){l:List OwT}(hl:∀ w∈l,OwOk w)(hn:l.length<=4096) :
  ∃ (l':List OwT) (e:Int),(∀ w∈l',OwOk w)/\l'.length<=4096/\Fin2 λL=>∀ (Y:Type) (k:Ls->Int->Option Y),fQ Y L (l.map dC) (dT due) (dT scs) (hdr++[V.sl 4 (tl.map txr)]) x k=k (l'.map dC) e:=by
 rcases TR (x:=x) hd hdn hs hsn hh ht ht4 tl.length 0 (by omega) l hl (by omega) with ⟨l2,e2,k1,k2,L2,k3⟩ | ⟨l2,k1,k2,L2,k3⟩
 ·refine ⟨l2,e2,k1,by omega,L2+10,λL hL Y k=>?_⟩;simp only [fQ,pp,sX];exact (k3 L (by omega) L (by omega) Y _ _).trans rfl
 ·by_cases hc:((l2.length:Nat):Int)>4096
  ·refine ⟨[],380,by simp,by simp,L2+10,λL hL Y k=>?_⟩;simp only [fQ,pp,sX];refine (k3 L (by omega) L (by omega) Y _ _).trans ?_;rw [oC,WcO,dt hc]; rfl
  ·refine ⟨l2,0,k1,by omega,L2+10,λL hL Y k=>?_⟩;simp only [fQ,pp,sX];refine (k3 L (by omega) L (by omega) Y _ _).trans ?_;rw [oC,WcO,du hc,bT (by simp [cy]; omega),WcQ,cH]
end
theorem Qf(hs:ScOk s)(r:Int):(∀ b∈oX r s.tk,dG b)/\(oX r s.tk).length<=1000:=by
 refine ⟨λb hb=>?_,Nat.le_trans (zc2 r s.tk) hs.tl⟩;simp only [oX,WbX,List.mem_filter] at hb;obtain ⟨t,⟨ht,_⟩,rfl⟩:=hb;exact (hs.tk t ht).s
theorem zdE(hs:ScOk s){x:Int}(hx:0<=x/\x<=1000){b:List V}(hb:∀ N W,GL N W tQ b):∃ (s':ScT) (e:Int),ScOk s'/\Fin2 λL=>∀ (Y:Type) (k:List V->Int->Option Y),cY Y L (fE s) x b k=k (fE s') e:=by
 obtain ⟨e0,_,h0⟩:=zfg hs x;have htl:=hs.tl;have hol:=hs.ol;have z:([(V.sl 3 ([]:Ls)),(V.sl 38 ([]:Ls))]:List V)=fE ⟨[],[]⟩:=rfl;have hbl:b.length=69:=(hb 0 (λ_=>0)).1.symm;have hbd:b.map V.ag=b:=GN (by rfl) (hb 0 (λ_=>0));have hb69:WcK 69 b=b:=WbR (by omega);by_cases he0:e0=0;rotate_left
 ·refine ⟨⟨[],[]⟩,e0,rg,2000000,λL hL Y k=>?_⟩;simp only [cY,oe,s_c,s_d,z];rw [h0 L hL,iN,if_neg he0,cH,bT ⟨trivial,rfl,by decide⟩]
 obtain ⟨e1,_,L1,h1⟩:=Xx hb;by_cases he1:e1=0;rotate_left
 ·refine ⟨⟨[],[]⟩,e1,rg,2000000+L1,λL hL Y k=>?_⟩;simp only [cY,oe,s_c,s_d,z];rw [h0 L (by omega),iN,if_pos he0,bT (by omega),hb69,hbd,h1 L (by omega),iN,if_neg he1,cH,bT ⟨trivial,rfl,by decide⟩]
 obtain ⟨d1,d2⟩:=Qf hs (gY s.tk);obtain ⟨hdr,tl,rfl,q1,_,q2,_,q3⟩:=WF hb;obtain ⟨ow,e2,g1,g2,L2,g3⟩:=zeg (x:=x) d1 (by omega) d1 (by omega) q1 q2 q3 hs.ow hol;by_cases he2:e2=0;rotate_left
 ·refine ⟨⟨[],[]⟩,e2,rg,2000000+L1+L2,λL hL Y k=>?_⟩;simp only [cY,oe,s_c,s_d,z];rw [h0 L (by omega),iN,if_pos he0,bT (by omega),hb69,hbd,h1 L (by omega),iN,if_pos he1,s_1,Js (by omega) (by omega),Js (by omega) (by omega),bT (by omega),g3 L (by omega),iN,if_neg he2,cH,bT ⟨trivial,rfl,by decide⟩]
 ·obtain ⟨tk,t1,t2,t3⟩:=zgk hs (x:=x) (by omega);refine ⟨⟨tk,ow⟩,0,⟨t1,by show tk.length<=1000; omega,g1,g2⟩,2000000+L1+L2,λL hL Y k=>?_⟩;simp only [cY,oe,s_c,s_d,z];rw [h0 L (by omega),iN,if_pos he0,bT (by omega),hb69,hbd,h1 L (by omega),iN,if_pos he1,s_1,Js (by omega) (by omega),Js (by omega) (by omega),bT (by omega),g3 L (by omega),iN,if_pos he2,t3 L (by omega),bT (show (fE _).length=2 from rfl),zdU,zdN,cH,bT ⟨trivial,rfl,by decide⟩];rfl
end
section
noncomputable section
theorem ZE:ed (cN rows) 320 ze6:=eH (D:=310) (md:=mdI) (is:=[Kt,TH,Yw,Ue,XP]) (WcW.2 ⟨cJ (by decide) Kl,WcW.2 ⟨cJ (by decide) WL,WcW.2 ⟨cJ (by decide) Y3,WcW.2 ⟨cJ (by decide) WV,WcW.2 ⟨cJ (by decide) Y9,WcX _⟩⟩⟩⟩⟩) 10 (by decide) (by kernel_rfl)
end
end
end Go.Proofs.YtipklgbboecciaaGreat
